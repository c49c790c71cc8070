/- FnMoreChoices: texts that its proof stands on, part 6. -/
import Derived.Test.YtijmjecehppbfaaGreatQMoreChoicese
namespace Go.Proofs.YtijmjecehppbfaaGreat
set_option maxRecDepth 100000
set_option maxHeartbeats 100000000
open Go Go.Sx Go.RowKit
theorem wF (xs : List Int) (t : Int) (h : 0 ≤ atM xs t) : xs[(atM xs t).toNat]? = some t := by
 induction xs with
 | nil => simp [atM] at h
 | cons x r ih =>
   simp only [atM] at h ⊢
   by_cases e : x = t
   · simp [e]
   · simp only [e, if_false] at h ⊢
     by_cases e2 : atM r t < 0
     · rw [if_pos e2] at h; omega
     · rw [if_neg e2] at h ⊢
       have e3 : (atM r t + 1).toNat = (atM r t).toNat + 1 := by omega
       rw [e3, List.getElem?_cons_succ]
       exact ih (by omega)
theorem nX0 {α : Type} {f : α → Int} {l : List α} {t a : Int} (hd : (l.map f).Nodup) (ha : a = atM (l.map f) t) (x : α) : (x ∈ l ∧ f x = t) ↔ (l[a.toNat]? = some x ∧ 0 ≤ a) := by
 subst ha
 constructor
 · rintro ⟨hm, hx⟩
   have h0 : 0 ≤ atM (l.map f) t := (eR _ _).2 (hx ▸ List.mem_map_of_mem hm)
   have h1 := wF _ _ h0
   obtain ⟨i, hi, rfl⟩ := List.getElem_of_mem hm
   have h2 : (l.map f)[i]? = some t := by simp [hi, hx]
   have h3 := (List.getElem?_eq_some_iff.1 h1).1
   have := (List.getElem?_inj h3 hd).1 (h1.trans h2.symm)
   rw [this]
   exact ⟨List.getElem?_eq_getElem hi, h0⟩
 · rintro ⟨h1, h0⟩
   refine ⟨List.mem_of_getElem? h1, ?_⟩
   have h2 := wF _ _ h0
   rw [List.getElem?_map, h1] at h2
   simpa using h2
theorem cL0 (i : Sl) (xs : List Waiter) (t : Int) (w : World) (h : At w [slo i bV 2 xs]) (hb : xs.length ≤ 1048576) :
   Calls Tryz.prog 171 #[i.val xs.length, .int .i64 t] w (Ret w fun v L => ∃ a : Int, v = .int .i64 a ∧ a = atM (xs.map (·.t)) t ∧ L = []) := by
 refine cB Tryz.func171 rfl aA w _ rfl _ rfl _ h ⟨rfl, rfl, trivial⟩ _ _ (by decide) ?_
 have hlen : (xs.map (·.t)).length = xs.length := by simp
 refine LoopW.mk ⟨{ k : Nat // k ≤ xs.length ∧ t ∉ (xs.map (·.t)).take k },
   fun p => .mk [(0, .v (i.val xs.length)), (1, .v (.int .i64 t)), (5, .v (.int .i64 p.1))] 0 0 [] [] [slo i bV 2 xs],
   fun p => xs.length - p.1, ⟨0, Nat.zero_le _, by simp⟩, ?_, ?_⟩
 · exact aC [0] zw2 zw0 zw2 zw5 zw4 rfl rfl
 · rintro ⟨k, hk, he⟩
   refine CaseB.mk (fun h => ?_) (fun h => ?_)
   · have hlt : k < xs.length := by simpa using h
     have hlt2 : k < (xs.map (·.t)).length := by rw [hlen]; exact hlt
     refine aG cH aA rfl rfl rfl rfl rfl ⟨rfl, rfl⟩ z35 k rfl z43 (fun ad => ?_)
     refine CaseB.mk (fun h => ?_) (fun h => ?_)
     · have heq : (xs[k]).t = t := by simpa using h
       exact aH ⟨_, rfl, (aL0 hlt2 he (by simpa using heq)).symm, rfl⟩ (fun _ => rfl)
     · have hne : (xs[k]).t ≠ t := by simpa using h
       have hw := lK k _ hlt (by omega)
       refine ⟨⟨k + 1, by omega, iB hlt2 he (by simpa using hne)⟩, ?_, by simp; omega⟩
       exact aC [0] zw1 zw0 zw1 zw5 zw3 rfl rfl
   · have hge : xs.length ≤ k := by simpa using h
     rw [List.take_of_length_le (by omega)] at he
     exact aH ⟨_, rfl, (sV he).symm, rfl⟩ (fun _ => rfl)
def fE (s : State) (o : Op) (t : Int) : Prop :=
 if o.kind = 2 then ∃ x, s.sems[o.on.toNat]? = some x ∧ ⟨t, o.arg⟩ ∈ x.queue
 else if o.kind = 4 then ∃ x, s.onces[o.on.toNat]? = some x ∧ t ∈ x.waits
 else if o.kind = 6 then ∃ x, s.groups[o.on.toNat]? = some x ∧ t ∈ x.waits
 else if o.kind = 7 then ∃ x, s.barriers[o.on.toNat]? = some x ∧ t ∈ x.waits
 else if o.kind = 8 then ∃ x, s.chans[o.on.toNat]? = some x ∧ ⟨t, o.arg⟩ ∈ x.senders
 else if o.kind = 9 then ∃ x, s.chans[o.on.toNat]? = some x ∧ t ∈ x.getters
 else False
theorem only {α : Type} {xs : List α} {n : Nat} {y : α} (h : xs[n]? = some y) {q : α → Prop} : (∃ x, xs[n]? = some x ∧ q x) ↔ q y :=
 ⟨fun ⟨x, hx, hq⟩ => by rw [h] at hx; injection hx with hx; exact hx ▸ hq, fun hq => ⟨y, h, hq⟩⟩
theorem mL0 (p : Prog) (s : StateH) (o : Op) (t : Int) (w : World) (h : At w [fR (aK s)]) (hs : SharedOk p s.pure) (ho : OpOk p o) :
   Calls Tryz.prog 183 #[aM s, .agg (cOp o).toArray, .int .i64 t] w (iD w (fE s.pure o t)) := by
 obtain ⟨s1, s2, s3, s4, s5, s6, s7, s8, s9, s10⟩ := hs
 have mlen : ∀ {α β : Type} (f : α → β) (xs : List α), (xs.map f).length = xs.length := fun f xs => by simp
 have l2 : s.pure.sems.length = s.sems.length := mlen _ _
 have l3 : s.pure.onces.length = s.onces.length := mlen _ _
 have l4 : s.pure.groups.length = s.groups.length := mlen _ _
 have l5 : s.pure.barriers.length = s.barriers.length := mlen _ _
 have l6 : s.pure.chans.length = s.chans.length := mlen _ _
 refine gQ Tryz.func183 rfl aA w _ rfl _ rfl _ h ⟨rfl, rfl, trivial⟩ _ _ _ (by decide) ?_
 refine CaseB.mk (fun g => ?_) (fun g2 => ?_)
 · have k2 : o.kind = 2 := by simpa using g
   obtain ⟨⟨o0, o1⟩, _⟩ := (jU0 (.inl k2)).1 ho
   have hlt : o.on.toNat < s.sems.length := by omega
   have hat : s.pure.sems[o.on.toNat]? = some (s.sems[o.on.toNat]).m := by simp [StateH.pure, hlt]
   have hok := (s6 _ _ hat).1
   have hq := hok.q6
   refine aG cZ aA rfl rfl rfl rfl rfl ⟨rfl, rfl⟩ (aL 0 rfl (.trans (.R_R (bU s)) (.ofR aX))) o.on.toNat (by omega) z43 (fun ad => ?_)
   refine aB _ nN0 rfl rfl rfl rfl ⟨rfl, rfl⟩ (fun A w hW => cL0 _ _ t w ⟨hW.get 0 rfl (.trans (.R_R (bU s)) (.ofR (iV _ _ _ hlt))), trivial⟩ (by omega)) ?_
   rintro v L ⟨a, rfl, ha, rfl⟩
   have hin := nX0 (f := (·.t)) (by have := hok.dis; simp only [bA, decide_eq_true_eq] at this; exact this.1) ha (⟨t, o.arg⟩ : Waiter)
   have hQ : fE s.pure o t ↔ ((s.sems[o.on.toNat]).m.queue[a.toNat]? = some ⟨t, o.arg⟩ ∧ 0 ≤ a) := by
     rw [← hin, fE, if_pos k2, only hat]; simp
   refine aF aA z102 z102 z102 200 [((0, 2), .v (s.h2.val s.sems.length)), ((1, 1), .v (.int .i64 o.on)), ((1, 2), .v (.int .i64 o.arg))] [0] [_] z129 z141 ⟨rfl, trivial⟩ rfl ?_
   apply CaseB.mk <;> intro g
   · have a0 : 0 ≤ a := by simpa using g
     have hg := wF _ t (ha ▸ a0)
     rw [← ha, List.getElem?_map] at hg
     have hl : a.toNat < (s.sems[o.on.toNat]).m.queue.length := by
       refine Classical.byContradiction fun n => ?_
       rw [List.getElem?_eq_none (by omega)] at hg; simp at hg
     rw [List.getElem?_eq_getElem hl] at hg
     have ht : ((s.sems[o.on.toNat]).m.queue[a.toNat]).t = t := by simpa using hg
     refine bO (ti := aU tab) cZ aA rfl rfl rfl rfl rfl ⟨rfl, rfl⟩ (aL 0 rfl (.trans (.R_R (bU s)) (.ofR aX))) o.on.toNat (by omega) z43 (fun ad1 => ?_)
     refine bO (ti := aU tab) cH aA rfl rfl rfl rfl rfl ⟨rfl, rfl⟩ (aL 0 rfl (.trans (.R_R (bU s)) (.ofR (iV _ _ _ hlt)))) a.toNat (by omega) z43 (fun ad2 => ?_)
     refine aH ⟨_, rfl, ?_, rfl⟩ (fun _ => rfl)
     rw [hQ, List.getElem?_eq_getElem hl, beq_iff_eq]
     constructor
     · intro e
       refine ⟨?_, a0⟩
       rw [← ht, ← e]
     · rintro ⟨e, _⟩
       injection e with e
       rw [e]
   · have a0 : ¬ 0 ≤ a := by simpa using g
     exact aH ⟨_, rfl, tno fun e => a0 (hQ.1 e).2, rfl⟩ (fun _ => rfl)
 have n2 : ¬ o.kind = 2 := by simpa using g2
 refine CaseB.mk (fun g => ?_) (fun g4 => ?_)
 · have k4 : o.kind = 4 := by simpa using g
   obtain ⟨o0, o1, _⟩ := (jV0 k4).1 ho
   have hlt : o.on.toNat < s.onces.length := by omega
   have hat : s.pure.onces[o.on.toNat]? = some (s.onces[o.on.toNat]).m := by simp [StateH.pure, hlt]
   have hq := eZ (s10 _ (List.mem_of_getElem? hat))
   have hQ : fE s.pure o t ↔ t ∈ (s.onces[o.on.toNat]).m.waits := by
     simp only [fE, k4]
     exact only hat
   refine aG cX aA rfl rfl rfl rfl rfl ⟨rfl, rfl⟩ (aL 0 rfl (.trans (.R_R (bW s)) (.ofR aX))) o.on.toNat (by omega) z43 (fun ad => ?_)
   refine aB _ uG rfl rfl rfl rfl ⟨rfl, rfl⟩ (fun A w hW => kW _ _ t w ⟨hW.get 0 rfl (.trans (.R_R (bW s)) (.ofR (hC _ _ _ hlt))), trivial⟩ (by omega)) ?_
   rintro v L ⟨rfl, rfl⟩
   exact aH ⟨_, rfl, by rw [hQ, decide_eq_true_eq]; exact eR _ _, rfl⟩ (fun _ => rfl)
 have n4 : ¬ o.kind = 4 := by simpa using g4
 refine CaseB.mk (fun g => ?_) (fun g6 => ?_)
 · have k6 : o.kind = 6 := by simpa using g
   obtain ⟨⟨o0, o1⟩, _⟩ := (nU0 k6).1 ho
   have hlt : o.on.toNat < s.groups.length := by omega
   have hat : s.pure.groups[o.on.toNat]? = some (s.groups[o.on.toNat]).m := by simp [StateH.pure, hlt]
   have hq := fQ (s7 _ (List.mem_of_getElem? hat))
   have hQ : fE s.pure o t ↔ t ∈ (s.groups[o.on.toNat]).m.waits := by
     simp only [fE, k6]
     exact only hat
   refine aG cI aA rfl rfl rfl rfl rfl ⟨rfl, rfl⟩ (aL 0 rfl (.trans (.R_R (bL s)) (.ofR aX))) o.on.toNat (by omega) z43 (fun ad => ?_)
   refine aB _ uG rfl rfl rfl rfl ⟨rfl, rfl⟩ (fun A w hW => kW _ _ t w ⟨hW.get 0 rfl (.trans (.R_R (bL s)) (.ofR (eK _ _ _ hlt))), trivial⟩ (by omega)) ?_
   rintro v L ⟨rfl, rfl⟩
   exact aH ⟨_, rfl, by rw [hQ, decide_eq_true_eq]; exact eR _ _, rfl⟩ (fun _ => rfl)
 have n6 : ¬ o.kind = 6 := by simpa using g6
 refine CaseB.mk (fun g => ?_) (fun g7 => ?_)
 · have k7 : o.kind = 7 := by simpa using g
   obtain ⟨⟨o0, o1⟩, _⟩ := (nV0 k7).1 ho
   have hlt : o.on.toNat < s.barriers.length := by omega
   have hat : s.pure.barriers[o.on.toNat]? = some (s.barriers[o.on.toNat]).m := by simp [StateH.pure, hlt]
   have hq := gA (s8 _ _ hat).1
   have hQ : fE s.pure o t ↔ t ∈ (s.barriers[o.on.toNat]).m.waits := by
     simp only [fE, k7]
     exact only hat
   refine aG cA aA rfl rfl rfl rfl rfl ⟨rfl, rfl⟩ (aL 0 rfl (.trans (.R_R (bJ s)) (.ofR aX))) o.on.toNat (by omega) z43 (fun ad => ?_)
   refine aB _ uG rfl rfl rfl rfl ⟨rfl, rfl⟩ (fun A w hW => kW _ _ t w ⟨hW.get 0 rfl (.trans (.R_R (bJ s)) (.ofR (dO _ _ _ hlt))), trivial⟩ (by omega)) ?_
   rintro v L ⟨rfl, rfl⟩
   exact aH ⟨_, rfl, by rw [hQ, decide_eq_true_eq]; exact eR _ _, rfl⟩ (fun _ => rfl)
 have n7 : ¬ o.kind = 7 := by simpa using g7
 refine CaseB.mk (fun g => ?_) (fun g8 => ?_)
 · have k8 : o.kind = 8 := by simpa using g
   obtain ⟨⟨o0, o1⟩, _⟩ := (nW0 k8).1 ho
   have hlt : o.on.toNat < s.chans.length := by omega
   have hat : s.pure.chans[o.on.toNat]? = some (s.chans[o.on.toNat]).m := by simp [StateH.pure, hlt]
   have hok := (s9 _ _ hat).1
   have hq := mX hok
   have hdi : ((s.chans[o.on.toNat]).m.senders.map (·.t)).Nodup := by
     have hv : (s.chans[o.on.toNat]).m.Valid := by simpa [Chan.valid] using hok
     have hd := hv.di
     unfold bA at hd
     have hd2 := of_decide_eq_true hd
     exact (List.nodup_append.1 hd2.1).1
   refine aG cN aA rfl rfl rfl rfl rfl ⟨rfl, rfl⟩ (aL 0 rfl (.trans (.R_R (aQ s)) (.ofR aX))) o.on.toNat (by omega) z43 (fun ad => ?_)
   refine aB _ fR0 rfl rfl rfl rfl ⟨rfl, rfl⟩ (fun A w hW => nH _ _ w ⟨hW.get 0 rfl (.trans (.R_R (aQ s)) (.ofR (gJ _ _ _ hlt))), trivial⟩ (by omega)) ?_
   rw [List.take_of_length_le (by omega)]
   rintro v L ⟨y, rfl, rfl⟩
   refine aB _ uG rfl rfl rfl rfl ⟨rfl, rfl⟩ (fun A w hW => kW y _ t w ⟨hW.get 0 rfl .own, trivial⟩ z101) ?_
   rintro v L ⟨rfl, rfl⟩
   obtain ⟨a, ha⟩ : ∃ a, a = atM ((s.chans[o.on.toNat]).m.senders.map Letter.t) t := ⟨_, rfl⟩
   rw [← ha]
   have hin := nX0 (f := Letter.t) hdi ha (⟨t, o.arg⟩ : Letter)
   have hQ : fE s.pure o t ↔ ((s.chans[o.on.toNat]).m.senders[a.toNat]? = some ⟨t, o.arg⟩ ∧ 0 ≤ a) := by
     rw [← hin]
     simp only [fE, k8]
     exact (only hat).trans (by simp)
   refine aF aA z102 z102 z102 200 [((0, 6), .v (s.h6.val s.chans.length)), ((1, 1), .v (.int .i64 o.on)), ((1, 2), .v (.int .i64 o.arg))] [1] [_] z129 z141 ⟨rfl, trivial⟩ rfl ?_
   apply CaseB.mk <;> intro g
   · have a0 : 0 ≤ a := by simpa using g
     have hg := wF _ t (ha ▸ a0)
     rw [← ha, List.getElem?_map] at hg
     have hl : a.toNat < (s.chans[o.on.toNat]).m.senders.length := by
       refine Classical.byContradiction fun n => ?_
       rw [List.getElem?_eq_none (by omega)] at hg; simp at hg
     rw [List.getElem?_eq_getElem hl] at hg
     have ht : ((s.chans[o.on.toNat]).m.senders[a.toNat]).t = t := by simpa using hg
     refine bO (ti := aU tab) cN aA rfl rfl rfl rfl rfl ⟨rfl, rfl⟩ (aL 0 rfl (.trans (.R_R (aQ s)) (.ofR aX))) o.on.toNat (by omega) z43 (fun ad1 => ?_)
     refine bO (ti := aU tab) gR aA rfl rfl rfl rfl rfl ⟨rfl, rfl⟩ (aL 0 rfl (.trans (.R_R (aQ s)) (.ofR (gJ _ _ _ hlt)))) a.toNat (by omega) z43 (fun ad2 => ?_)
     refine aH ⟨_, rfl, ?_, rfl⟩ (fun _ => rfl)
     rw [hQ, List.getElem?_eq_getElem hl, beq_iff_eq]
     constructor
     · intro e
       refine ⟨?_, a0⟩
       rw [← ht, ← e]
     · rintro ⟨e, _⟩
       injection e with e
       rw [e]
   · have a0 : ¬ 0 ≤ a := by simpa using g
     exact aH ⟨_, rfl, tno fun e => a0 (hQ.1 e).2, rfl⟩ (fun _ => rfl)
 have n8 : ¬ o.kind = 8 := by simpa using g8
 refine CaseB.mk (fun g => ?_) (fun g9 => ?_)
 · have k9 : o.kind = 9 := by simpa using g
   obtain ⟨⟨o0, o1⟩, _⟩ := (jW0 (.inl k9)).1 ho
   have hlt : o.on.toNat < s.chans.length := by omega
   have hat : s.pure.chans[o.on.toNat]? = some (s.chans[o.on.toNat]).m := by simp [StateH.pure, hlt]
   have hq := mX (s9 _ _ hat).1
   have hQ : fE s.pure o t ↔ t ∈ (s.chans[o.on.toNat]).m.getters := by
     simp only [fE, k9]
     exact only hat
   refine aG cN aA rfl rfl rfl rfl rfl ⟨rfl, rfl⟩ (aL 0 rfl (.trans (.R_R (aQ s)) (.ofR aX))) o.on.toNat (by omega) z43 (fun ad => ?_)
   refine aB _ uG rfl rfl rfl rfl ⟨rfl, rfl⟩ (fun A w hW => kW _ _ t w ⟨hW.get 0 rfl (.trans (.R_R (aQ s)) (.ofR (hH _ _ _ hlt))), trivial⟩ (by omega)) ?_
   rintro v L ⟨rfl, rfl⟩
   exact aH ⟨_, rfl, by rw [hQ, decide_eq_true_eq]; exact eR _ _, rfl⟩ (fun _ => rfl)
 have n9 : ¬ o.kind = 9 := by simpa using g9
 exact aH ⟨_, rfl, tno fun e => (by simp [fE, n2, n4, n6, n7, n8, n9] at e), rfl⟩ (fun _ => rfl)
theorem kA0 (m : Once) (q : Sl) (t : Int) (w : World) (h : At w [slo q aJ 1 m.waits]) (hb : m.waits.length ≤ 1048576) :
   Calls Tryz.prog 184 #[jX m q, .int .i64 t] w (iD w (eI m ∧ m.state = 1 ∧ m.owner = t)) := by
 refine cB Tryz.func184 rfl aA w _ rfl _ rfl _ h ⟨rfl, rfl, trivial⟩ _ _ (by decide) ?_
 refine aB _ jG0 rfl rfl rfl rfl ⟨rfl, rfl⟩ (fun A w hW => oX m q w ⟨hW.get 0 rfl (.refl _), trivial⟩ hb) ?_
 rintro v L ⟨b, rfl, hb2, rfl⟩
 apply CaseB.mk <;> intro g
 · have ok := hb2.1 z98
   apply CaseB.mk <;> intro g
   · have s1 : m.state = 1 := by simpa using g
     exact aH ⟨_, rfl, by simp [ok, s1], rfl⟩ (fun _ => rfl)
   · have s1 : ¬ m.state = 1 := by simpa using g
     exact aH ⟨_, rfl, tno fun e => s1 e.2.1, rfl⟩ (fun _ => rfl)
 · exact aH ⟨_, rfl, tno fun e => (by rw [hb2.2 e.1] at g; cases g), rfl⟩ (fun _ => rfl)
def nN (s : State) (ops : List Op) (t at_ st q : Int) : Prop :=
 0 ≤ at_ ∧ at_ ≤ ops.length ∧ ((at_ = ops.length ∧ st = 3 ∧ q = 0) ∨
   ∃ op, ops[at_.toNat]? = some op ∧ ((st = 0 ∧ q = 0) ∨ (st = 1 ∧ q = 1 ∧ fE s op t) ∨ (st = 2 ∧ q = 0 ∧ op.kind = 4 ∧ ∃ x, s.onces[op.on.toNat]? = some x ∧ x.state = 1 ∧ x.owner = t)))
theorem kB0 (p : ProgH) (s : StateH) (t : Nat) (q : Int) (w : World) (h : At w [fR (aY p), fR (aK s)]) (ok : ProgOk p.pure) (sh : SharedOk p.pure s.pure)
   (c0 : s.places.length = p.threads.length) (c1 : s.status.length = p.threads.length) (ht : t < p.threads.length) :
   Calls Tryz.prog 148 #[dW p, aM s, .int .i64 t, .int .i64 q] w (iD w (nN s.pure (p.threads[t]).m t s.places[t] s.status[t] q)) := by
 have l3 : s.pure.onces.length = s.onces.length := by simp [StateH.pure]
 have hmem : (p.threads[t]).m ∈ p.pure.threads := List.mem_map_of_mem (List.getElem_mem ht)
 have l8 := (ok.ops _ hmem).1
 refine oJ0 Tryz.func148 rfl aA w _ rfl _ rfl _ h ⟨rfl, rfl, rfl, rfl, trivial⟩ _ _ _ _ (by decide) ?_
 refine aG aE aA rfl rfl rfl rfl rfl ⟨rfl, rfl⟩ (aL 1 rfl (.ofR (eF s))) t rfl z43 (fun ad0 => ?_)
 apply CaseB.mk <;> intro g
 · have n : ¬ 0 ≤ s.places[t] := by have g' := of_decide_eq_true g; omega
   exact aH ⟨_, rfl, tno fun e => n e.1, rfl⟩ (fun _ => rfl)
 have a0 : 0 ≤ s.places[t] := by have g' := of_decide_eq_false g; omega
 refine aG dT aA rfl rfl rfl rfl rfl ⟨rfl, rfl⟩ (aL 0 rfl (.trans (.R_R (bB p)) (.ofR aX))) t rfl z43 (fun ad1 => ?_)
 apply CaseB.mk <;> intro g
 · have n : ¬ s.places[t] ≤ (p.threads[t]).m.length := by have g' := of_decide_eq_true g; omega
   exact aH ⟨_, rfl, tno fun e => n e.2.1, rfl⟩ (fun _ => rfl)
 have hz : s.places[t] = ((s.places[t]).toNat : Int) := (Int.toNat_of_nonneg a0).symm
 have a1 : s.places[t] ≤ (p.threads[t]).m.length := by have g' := of_decide_eq_false g; omega
 refine aG dT aA rfl rfl rfl rfl rfl ⟨rfl, rfl⟩ (aL 0 rfl (.trans (.R_R (bB p)) (.ofR aX))) t rfl z43 (fun ad2 => ?_)
 apply CaseB.mk <;> intro g
 · have ae : s.places[t] = (p.threads[t]).m.length := by simpa using g
   have hT : nN s.pure (p.threads[t]).m t s.places[t] s.status[t] q ↔ s.status[t] = 3 ∧ q = 0 := by
     constructor
     · rintro ⟨_, _, h | ⟨op, h, _⟩⟩
       · exact h.2
       · have := (List.getElem?_eq_some_iff.1 h).1; omega
     · intro h; exact ⟨a0, a1, .inl ⟨ae, h⟩⟩
   refine aG aE aA rfl rfl rfl rfl rfl ⟨rfl, rfl⟩ (aL 1 rfl (.ofR (cS s))) t rfl z43 (fun ad3 => ?_)
   apply CaseB.mk <;> intro g
   · have s3 : s.status[t] = 3 := by simpa using g
     exact aH ⟨_, rfl, by rw [hT]; simp [s3], rfl⟩ (fun _ => rfl)
   · have s3 : ¬ s.status[t] = 3 := by simpa using g
     exact aH ⟨_, rfl, tno fun e => s3 (hT.1 e).1, rfl⟩ (fun _ => rfl)
 have ane : ¬ s.places[t] = (p.threads[t]).m.length := by simpa using g
 have hlo : (s.places[t]).toNat < (p.threads[t]).m.length := by omega
 obtain ⟨op, hop⟩ : ∃ op, (p.threads[t]).m[(s.places[t]).toNat]? = some op := ⟨_, List.getElem?_eq_getElem hlo⟩
 have hopg : (p.threads[t]).m[(s.places[t]).toNat] = op := by rw [List.getElem?_eq_getElem hlo] at hop; injection hop
 have hopok : OpOk p.pure op := (ok.ops _ hmem).2 _ (List.mem_of_getElem? hop)
 have hT : nN s.pure (p.threads[t]).m t s.places[t] s.status[t] q ↔ ((s.status[t] = 0 ∧ q = 0) ∨ (s.status[t] = 1 ∧ q = 1 ∧ fE s.pure op t) ∨ (s.status[t] = 2 ∧ q = 0 ∧ op.kind = 4 ∧ ∃ x, s.pure.onces[op.on.toNat]? = some x ∧ x.state = 1 ∧ x.owner = t)) := by
   constructor
   · rintro ⟨_, _, h | ⟨op', h, h2⟩⟩
     · exact (ane h.1).elim
     · rw [hop] at h; injection h with h; subst h; exact h2
   · intro h; exact ⟨a0, a1, .inr ⟨op, hop, h⟩⟩
 refine aG dT aA rfl rfl rfl rfl rfl ⟨rfl, rfl⟩ (aL 0 rfl (.trans (.R_R (bB p)) (.ofR aX))) t rfl z43 (fun ad3 => ?_)
 refine aG oE aA rfl rfl rfl rfl rfl ⟨rfl, rfl⟩ (aL 0 rfl (.trans (.R_R (bB p)) (.ofR (fZ _ _ t ht)))) (s.places[t]).toNat (by first | exact hz | exact hz.symm | exact congrArg _ hz) z43 (fun ad4 => ?_)
 rw [hopg]
 refine aG aE aA rfl rfl rfl rfl rfl ⟨rfl, rfl⟩ (aL 1 rfl (.ofR (cS s))) t rfl z43 (fun ad5 => ?_)
 refine CaseB.mk (fun g => ?_) (fun g0 => ?_)
 · have s0 : s.status[t] = 0 := by simpa using g
   exact aH ⟨_, rfl, by rw [hT, s0]; simp, rfl⟩ (fun _ => rfl)
 have n0 : ¬ s.status[t] = 0 := by simpa using g0
 refine CaseB.mk (fun g => ?_) (fun g1 => ?_)
 · have s1 : s.status[t] = 1 := by simpa using g
   apply CaseB.mk <;> intro g
   · have q1 : q = 1 := by simpa using g
     refine aB _ cl183 rfl rfl rfl rfl ⟨rfl, rfl⟩ (fun A w hW => mL0 p.pure s op t w ⟨hW.get 1 rfl (.refl _), trivial⟩ sh hopok) ?_
     rintro v L ⟨b, rfl, hb, rfl⟩
     exact aH ⟨_, rfl, by rw [hT, s1, q1, hb]; simp, rfl⟩ (fun _ => rfl)
   · have q1 : ¬ q = 1 := by simpa using g
     exact aH ⟨_, rfl, tno fun e => (by rcases hT.1 e with h | h | h; exact n0 h.1; exact q1 h.2.1; rw [s1] at h; exact absurd h.1 (by decide)), rfl⟩ (fun _ => rfl)
 have n1 : ¬ s.status[t] = 1 := by simpa using g1
 refine CaseB.mk (fun g => ?_) (fun g2 => ?_)
 · have s2 : s.status[t] = 2 := by simpa using g
   have hT2 : nN s.pure (p.threads[t]).m t s.places[t] s.status[t] q ↔ (q = 0 ∧ op.kind = 4 ∧ ∃ x, s.pure.onces[op.on.toNat]? = some x ∧ x.state = 1 ∧ x.owner = t) := by
     rw [hT, s2]; simp
   apply CaseB.mk <;> intro g
   · have q0 : q = 0 := by simpa using g
     apply CaseB.mk <;> intro g
     · have k4 : op.kind = 4 := by simpa using g
       obtain ⟨o0, o1, _⟩ := (jV0 k4).1 hopok
       have hl3 := sh.lonces
       have hlt : op.on.toNat < s.onces.length := by omega
       have hat : s.pure.onces[op.on.toNat]? = some (s.onces[op.on.toNat]).m := by simp [StateH.pure, hlt]
       have hok := sh.onces _ (List.mem_of_getElem? hat)
       have hq := eZ hok
       refine aG cX aA rfl rfl rfl rfl rfl ⟨rfl, rfl⟩ (aL 1 rfl (.trans (.R_R (bW s)) (.ofR aX))) op.on.toNat (by omega) z43 (fun ad6 => ?_)
       refine aB _ nP0 rfl rfl rfl rfl ⟨rfl, rfl⟩ (fun A w hW => kA0 _ _ t w ⟨hW.get 1 rfl (.trans (.R_R (bW s)) (.ofR (hC _ _ _ hlt))), trivial⟩ (by omega)) ?_
       rintro v L ⟨b, rfl, hb, rfl⟩
       exact aH ⟨_, rfl, by rw [hT2, hb, only hat]; simp [q0, k4, hok], rfl⟩ (fun _ => rfl)
     · have k4 : ¬ op.kind = 4 := by simpa using g
       exact aH ⟨_, rfl, tno fun e => k4 (hT2.1 e).2.1, rfl⟩ (fun _ => rfl)
   · have q0 : ¬ q = 0 := by simpa using g
     exact aH ⟨_, rfl, tno fun e => q0 (hT2.1 e).1, rfl⟩ (fun _ => rfl)
 have n2 : ¬ s.status[t] = 2 := by simpa using g2
 exact aH ⟨_, rfl, tno fun e => (by rcases hT.1 e with h | h | h; exact n0 h.1; exact n1 h.1; exact n2 h.1), rfl⟩ (fun _ => rfl)
def oT0 (p : Prog) (s : State) (i : Nat) (x : Once) : Prop := x.state = 1 → ∃ t : Nat, x.owner = t ∧ ∃ ops at_ op, p.threads[t]? = some ops ∧ s.status[t]? = some 2 ∧ s.places[t]? = some at_ ∧ ops[at_.toNat]? = some op ∧ op.on = i
def gE0 (p : Prog) (s : State) : Prop := ∀ (i : Nat) x, s.onces[i]? = some x → oT0 p s i x
theorem kC0 (p : ProgH) (s : StateH) (w : World) (h : At w [fR (aY p), fR (aK s)]) (ok : ProgOk p.pure) (sh : SharedOk p.pure s.pure)
   (c0 : s.places.length = p.threads.length) (c1 : s.status.length = p.threads.length)
   (hst : ∀ (t : Nat) (ht : t < p.threads.length), s.status[t] = 2 → 0 ≤ s.places[t] ∧ s.places[t] < (p.threads[t]).m.length) :
   Calls Tryz.prog 149 #[dW p, aM s] w (iD w (gE0 p.pure s.pure)) := by
 have l3 : s.pure.onces.length = s.onces.length := by simp [StateH.pure]
 have hl3 := sh.lonces
 have n4 : p.threads.length ≤ 4 := by have := ok.n4; simpa [ProgH.pure] using this
 refine cB Tryz.func149 rfl aA w _ rfl _ rfl _ h ⟨rfl, rfl, rfl, rfl, trivial⟩ _ _ (by decide) ?_
 refine LoopW.mk ⟨{ k : Nat // k ≤ s.onces.length ∧ ∀ (i : Nat) x, i < k → s.pure.onces[i]? = some x → oT0 p.pure s.pure i x },
   fun k => .mk [(2, .p 0 0), (3, .p 1 0), (5, .v (.int .i64 (k.1 : Int)))] 2 0 [(0, 26, 5), (1, 35, 9)] [((0, 0), .v (p.h0.val p.sems.length)), ((0, 1), .v (p.h1.val p.groups.length)), ((0, 2), .v (p.h2.val p.barriers.length)), ((0, 3), .v (p.h3.val p.rooms.length)), ((0, 4), .v (p.h4.val p.threads.length)), ((1, 0), .v (s.h0.val s.places.length)), ((1, 1), .v (s.h1.val s.status.length)), ((1, 2), .v (s.h2.val s.sems.length)), ((1, 3), .v (s.h3.val s.onces.length)), ((1, 4), .v (s.h4.val s.groups.length)), ((1, 5), .v (s.h5.val s.barriers.length)), ((1, 6), .v (s.h6.val s.chans.length)), ((1, 7), .v (s.h7.val s.said.length)), ((1, 8), .v (.int .i64 s.fault))] [fR (aY p), fR (aK s)],
   fun k => s.onces.length - k.1, ⟨0, Nat.zero_le _, fun i x hi => by omega⟩, ?_, ?_⟩
 · exact aC [0, 1] zw2 zw0 zw2 zw5 zw4 rfl rfl
 rintro ⟨k, hk, hinv⟩
 apply CaseB.mk <;> intro g
 · have hlt : k < s.onces.length := by simpa using g
   have hw := bD k _ hlt (by omega)
   have hat : s.pure.onces[k]? = some (s.onces[k]).m := by simp [StateH.pure, hlt]
   have hok := sh.onces _ (List.mem_of_getElem? hat)
   refine aG cX aA rfl rfl rfl rfl rfl ⟨rfl, rfl⟩ (aL 1 rfl (.trans (.R_R (bW s)) (.ofR aX))) k rfl z43 (fun ad => ?_)
   apply CaseB.mk <;> intro g
   · have n : ¬ (s.onces[k]).m.state = 1 := by simpa using g
     refine ⟨⟨k + 1, by omega, fun i x hi hx => ?_⟩, ?_, by simp only; omega⟩
     · by_cases e : i < k
       · exact hinv i x e hx
       · obtain rfl : i = k := by omega
         rw [hat] at hx
         injection hx with hx
         subst hx
         exact fun e => (n e).elim
     · exact aC [0, 1] zw1 zw0 zw1 zw5 zw3 rfl rfl
   have r1 : (s.onces[k]).m.state = 1 := by simpa using g
   have w0 : 0 ≤ (s.onces[k]).m.owner := by
     rcases hok with h | h | h
     · omega
     · have h2 := h.2.1; simp [aZ] at h2; omega
     · omega
   obtain ⟨t, hz⟩ : ∃ t : Nat, (s.onces[k]).m.owner = (t : Int) := ⟨_, (Int.toNat_of_nonneg w0).symm⟩
   refine aF aA z102 z102 z102 200 [((0, 4), .v (p.h4.val p.threads.length)), ((1, 0), .v (s.h0.val s.places.length)), ((1, 1), .v (s.h1.val s.status.length)), ((2, 1), .v (.int .i64 (s.onces[k]).m.owner))] [0, 1] [_, _] z122 z138 ⟨rfl, rfl, trivial⟩ rfl ?_
   apply CaseB.mk <;> intro g
   · have n : ¬ t < p.threads.length := by have g' := of_decide_eq_true g; omega
     refine aH ⟨_, rfl, tno fun e => n ?_, rfl⟩ (fun _ => rfl)
     obtain ⟨t', e1, ops, at_, op, e2, _⟩ := e k _ hat r1
     have := (List.getElem?_eq_some_iff.1 e2).1
     have e3 : p.pure.threads.length = p.threads.length := by simp [ProgH.pure]
     omega
   have ht : t < p.threads.length := by have g' := of_decide_eq_false g; omega
   refine bO (ti := aU tab) aE aA rfl rfl rfl rfl rfl ⟨rfl, rfl⟩ (aL 1 rfl (.ofR (cS s))) t hz z43 (fun ad2 => ?_)
   apply CaseB.mk <;> intro g
   · have n : ¬ s.status[t] = 2 := by simpa using g
     refine aH ⟨_, rfl, tno fun e => n ?_, rfl⟩ (fun _ => rfl)
     obtain ⟨t', e1, ops, at_, op, e2, e3, _⟩ := e k _ hat r1
     obtain rfl : t' = t := by omega
     have e4 : s.status[t']? = some 2 := e3
     exact (List.getElem?_eq_some_iff.1 e4).2
   have s2 : s.status[t] = 2 := by simpa using g
   obtain ⟨p0, p1⟩ := hst t ht s2
   have hz2 : s.places[t] = ((s.places[t]).toNat : Int) := (Int.toNat_of_nonneg p0).symm
   have hlo : (s.places[t]).toNat < (p.threads[t]).m.length := by omega
   obtain ⟨op, hop⟩ : ∃ op, (p.threads[t]).m[(s.places[t]).toNat]? = some op := ⟨_, List.getElem?_eq_getElem hlo⟩
   have hopg : (p.threads[t]).m[(s.places[t]).toNat] = op := by rw [List.getElem?_eq_getElem hlo] at hop; injection hop
   have hst2 : s.pure.status[t]? = some 2 := by
     show s.status[t]? = some 2
     rw [List.getElem?_eq_getElem (by omega), s2]
   have hth : p.pure.threads[t]? = some (p.threads[t]).m := by simp [ProgH.pure, ht]
   have hpl : s.pure.places[t]? = some s.places[t] := List.getElem?_eq_getElem (show t < s.places.length by omega)
   have hO : oT0 p.pure s.pure k (s.onces[k]).m ↔ op.on = k := by
     constructor
     · intro e
       obtain ⟨t', e1, ops, at_, op', e2, e3, e4, e5, e6⟩ := e r1
       obtain rfl : t' = t := by omega
       rw [hth] at e2; injection e2 with e2; subst e2
       rw [hpl] at e4; injection e4 with e4; subst e4
       rw [hop] at e5; injection e5 with e5; subst e5
       exact e6
     · intro e _
       exact ⟨t, hz, _, _, _, hth, hst2, hpl, hop, e⟩
   refine bO (ti := aU tab) dT aA rfl rfl rfl rfl rfl ⟨rfl, rfl⟩ (aL 0 rfl (.trans (.R_R (bB p)) (.ofR aX))) t hz z43 (fun ad3 => ?_)
   refine bO (ti := aU tab) aE aA rfl rfl rfl rfl rfl ⟨rfl, rfl⟩ (aL 1 rfl (.ofR (eF s))) t hz z43 (fun ad4 => ?_)
   refine bO (ti := aU tab) oE aA rfl rfl rfl rfl rfl ⟨rfl, rfl⟩ (aL 0 rfl (.trans (.R_R (bB p)) (.ofR (fZ _ _ t ht)))) (s.places[t]).toNat hz2 z43 (fun ad5 => ?_)
   rw [hopg]
   apply CaseB.mk <;> intro g
   · have n : ¬ op.on = k := by simpa using g
     exact aH ⟨_, rfl, tno fun e => n (hO.1 (e k _ hat)), rfl⟩ (fun _ => rfl)
   have q1 := hO.2 z98
   refine ⟨⟨k + 1, by omega, fun i x hi hx => ?_⟩, ?_, by simp only; omega⟩
   · by_cases e : i < k
     · exact hinv i x e hx
     · obtain rfl : i = k := by omega
       rw [hat] at hx
       injection hx with hx
       subst hx
       exact q1
   · exact aC [0, 1] zw1 zw0 zw1 zw5 zw3 rfl rfl
 have hge : s.onces.length ≤ k := by simpa using g
 exact aH ⟨_, rfl, jS fun i x hx => hinv i x z80 hx, rfl⟩ (fun _ => rfl)
def cnt (xs : List Int) (t : Int) : Nat := (xs.filter fun x => x == t).length
theorem eH0 (es : List (Int × Waiting)) (t : Int) : cnt (es.map (·.1)) t = (aN es t).length := by
 induction es with
 | nil => rfl
 | cons e r ih =>
   simp only [cnt, aN, List.map_cons, List.filter_cons] at ih ⊢
   by_cases h : e.1 == t <;> simp [h] <;> simpa using ih
theorem oY {α β : Type} {f : Nat → α → List β} {e : β} : ∀ {i : Nat} {xs : List α}, e ∈ evL f i xs → ∃ j x, xs[j]? = some x ∧ e ∈ f (i + j) x
 | i, [], h => by simp [evL] at h
 | i, x :: r, h => by
   rcases List.mem_append.1 (show e ∈ f i x ++ evL f (i + 1) r from h) with h | h
   · exact ⟨0, x, rfl, h⟩
   · obtain ⟨j, y, hy, hm⟩ := oY h
     exact ⟨j + 1, y, hy, by rw [show i + (j + 1) = i + 1 + j by omega]; exact hm⟩
theorem jY {xs : List Int} (h : bA xs = true) {x : Int} (hx : x ∈ xs) : 0 ≤ x := by
 unfold bA at h
 have := (of_decide_eq_true h).2 x hx
 simp [aZ] at this; omega
theorem hI0 {m : Once} (h : eI m) {x : Int} (hx : x ∈ m.waits) : 0 ≤ x := by
 rcases h with h | h | h
 · rw [h.2.2.2] at hx; cases hx
 · exact jY h.2.2.2.1 hx
 · rw [h.2.2.2] at hx; cases hx
theorem zD {p : Prog} {s : State} (h : SharedOk p s) : ∀ e ∈ bH s, 0 ≤ e.1 := by
 intro e he
 simp only [bH, List.mem_append] at he
 rcases he with (((he | he) | he) | he) | he
 · obtain ⟨j, x, hx, hm⟩ := oY he
   obtain ⟨y, hy, rfl⟩ := List.mem_map.1 hm
   exact jY (h.sems _ _ hx).1.dis (List.mem_map_of_mem hy)
 · obtain ⟨j, x, hx, hm⟩ := oY he
   obtain ⟨y, hy, rfl⟩ := List.mem_map.1 hm
   exact hI0 (h.onces _ (List.mem_of_getElem? hx)) hy
 · obtain ⟨j, x, hx, hm⟩ := oY he
   obtain ⟨y, hy, rfl⟩ := List.mem_map.1 hm
   exact jY (h.groups _ (List.mem_of_getElem? hx)).2.1 hy
 · obtain ⟨j, x, hx, hm⟩ := oY he
   obtain ⟨y, hy, rfl⟩ := List.mem_map.1 hm
   exact jY (h.barriers _ _ hx).1.2.2.2.2.2 hy
 · obtain ⟨j, x, hx, hm⟩ := oY he
   have hv : x.Valid := by simpa [Chan.valid] using (h.chans _ _ hx).1
   have hd := hv.di
   rcases List.mem_append.1 hm with hm | hm
   · obtain ⟨y, hy, rfl⟩ := List.mem_map.1 hm
     exact jY hd (by simp only [Chan.threads]; exact List.mem_append_left _ (List.mem_map_of_mem hy))
   · obtain ⟨y, hy, rfl⟩ := List.mem_map.1 hm
     exact jY hd (by simp only [Chan.threads]; exact List.mem_append_right _ hy)
theorem kD0 (p : ProgH) (s : StateH) (w : World) (h : At w [fR (aY p), fR (aK s)]) (ok : ProgOk p.pure) (sh : SharedOk p.pure s.pure) :
   Calls Tryz.prog 147 #[dW p, aM s] w (Ret w fun v L => ∃ (y : Sl) (cs : List Int) (b : Bool), v = .tuple #[y.val cs.length, .bool b] ∧ L = [own y 3 aJ 1 cs] ∧
     (b = true ↔ ∀ e ∈ bH s.pure, e.1 < (p.threads.length : Int)) ∧ (b = true → cs.length = p.threads.length ∧ ∀ (t : Nat) (ht : t < cs.length), cs[t] = ((aN (bH s.pure) t).length : Int))) := by
 obtain ⟨s1, s2, s3, s4, s5, s6, s7, s8, s9, s10⟩ := sh
 have mlen : ∀ {α β : Type} (f : α → β) (xs : List α), (xs.map f).length = xs.length := fun f xs => by simp
 have l2 : s.pure.sems.length = s.sems.length := mlen _ _
 have l3 : s.pure.onces.length = s.onces.length := mlen _ _
 have l4 : s.pure.groups.length = s.groups.length := mlen _ _
 have l5 : s.pure.barriers.length = s.barriers.length := mlen _ _
 have l6 : s.pure.chans.length = s.chans.length := mlen _ _
 have m0 : p.pure.sems.length ≤ 3 := ok.sems.1
 have m1 : p.pure.groups.length ≤ 3 := ok.groups.1
 have m2 : p.pure.barriers.length ≤ 3 := ok.barriers.1
 have m3 : p.pure.rooms.length ≤ 3 := ok.rooms.1
 have n4 : p.threads.length ≤ 4 := by have := ok.n4; simpa [ProgH.pure] using this
 refine cB Tryz.func147 rfl aA w _ rfl _ rfl _ h ⟨rfl, rfl, rfl, rfl, trivial⟩ _ _ (by decide) ?_
 refine AllSl.mk fun y0 => ?_
 refine LoopW.mk ⟨{ q : Nat × Sl × List Int // q.1 ≤ s.sems.length ∧ q.2.2 = ([] : List Int) ++ (evL dH 0 (s.pure.sems.take q.1)).map (·.1) ∧ q.2.2.length ≤ 0 + 6 * q.1 },
   fun q => .mk [(2, .p 0 0), (3, .p 1 0), (6, .v (q.1.2.1.val q.1.2.2.length)), (7, .v (.int .i64 (q.1.1 : Int)))] 2 0 [(0, 26, 5), (1, 35, 9)] [((0, 0), .v (p.h0.val p.sems.length)), ((0, 1), .v (p.h1.val p.groups.length)), ((0, 2), .v (p.h2.val p.barriers.length)), ((0, 3), .v (p.h3.val p.rooms.length)), ((0, 4), .v (p.h4.val p.threads.length)), ((1, 0), .v (s.h0.val s.places.length)), ((1, 1), .v (s.h1.val s.status.length)), ((1, 2), .v (s.h2.val s.sems.length)), ((1, 3), .v (s.h3.val s.onces.length)), ((1, 4), .v (s.h4.val s.groups.length)), ((1, 5), .v (s.h5.val s.barriers.length)), ((1, 6), .v (s.h6.val s.chans.length)), ((1, 7), .v (s.h7.val s.said.length)), ((1, 8), .v (.int .i64 s.fault))] [own q.1.2.1 3 aJ 1 q.1.2.2, fR (aY p), fR (aK s)],
   fun q => s.sems.length - q.1.1, ⟨(0, y0, []), Nat.zero_le _, by simp [evL], by simp; try omega⟩, ?_, ?_⟩
 · exact aC [0, 1, 2] zw2 zw0 zw2 zw5 zw4 rfl rfl
 rintro ⟨⟨k, y1, x1⟩, hk, hx, hl⟩
 simp only at hk hx hl
 apply CaseB.mk <;> intro g
 · have hlt : k < s.sems.length := by simpa using g
   have hw := bD k _ hlt (by omega)
   have hat : s.pure.sems[k]? = some (s.sems[k]).m := by simp [StateH.pure, hlt]
   have hltp : k < s.pure.sems.length := by omega
   have hget : s.pure.sems[k]'hltp = (s.sems[k]).m := by simp [StateH.pure]
   have hsucc := eY dH s.pure.sems hltp
   rw [hget] at hsucc
   have hq := (s6 _ _ hat).1.q6
   refine LoopW.mk ⟨{ q : Nat × Sl × List Int // q.1 ≤ (s.sems[k]).m.queue.length ∧ q.2.2 = x1 ++ ((s.sems[k]).m.queue.take q.1).map (·.t) ∧ q.2.2.length ≤ 6 * k + q.1 },
     fun q => .mk [(2, .p 0 0), (3, .p 1 0), (6, .v (q.1.2.1.val q.1.2.2.length)), (7, .v (.int .i64 (k : Int))), (8, .v (.int .i64 (q.1.1 : Int)))] 2 0 [(0, 26, 5), (1, 35, 9)] [((0, 0), .v (p.h0.val p.sems.length)), ((0, 1), .v (p.h1.val p.groups.length)), ((0, 2), .v (p.h2.val p.barriers.length)), ((0, 3), .v (p.h3.val p.rooms.length)), ((0, 4), .v (p.h4.val p.threads.length)), ((1, 0), .v (s.h0.val s.places.length)), ((1, 1), .v (s.h1.val s.status.length)), ((1, 2), .v (s.h2.val s.sems.length)), ((1, 3), .v (s.h3.val s.onces.length)), ((1, 4), .v (s.h4.val s.groups.length)), ((1, 5), .v (s.h5.val s.barriers.length)), ((1, 6), .v (s.h6.val s.chans.length)), ((1, 7), .v (s.h7.val s.said.length)), ((1, 8), .v (.int .i64 s.fault))] [own q.1.2.1 3 aJ 1 q.1.2.2, fR (aY p), fR (aK s)],
     fun q => (s.sems[k]).m.queue.length - q.1.1, ⟨(0, y1, x1), Nat.zero_le _, by simp, by simp only; omega⟩, ?_, ?_⟩
   · exact aC [0, 1, 2] zw2 zw0 zw2 zw5 zw4 rfl rfl
   rintro ⟨⟨j, y', xs2⟩, hj, hx2, hl2⟩
   simp only at hj hx2 hl2
   refine aG cZ aA rfl rfl rfl rfl rfl ⟨rfl, rfl⟩ (aL 2 rfl (.trans (.R_R (bU s)) (.ofR aX))) k rfl z43 (fun ad => ?_)
   apply CaseB.mk <;> intro g
   · have hlt2 : j < (s.sems[k]).m.queue.length := by simpa using g
     have hw2 := bD j _ hlt2 (by omega)
     refine aG cZ aA rfl rfl rfl rfl rfl ⟨rfl, rfl⟩ (aL 2 rfl (.trans (.R_R (bU s)) (.ofR aX))) k rfl z43 (fun ad2 => ?_)
     refine aG cH aA rfl rfl rfl rfl rfl ⟨rfl, rfl⟩ (aL 2 rfl (.trans (.R_R (bU s)) (.ofR (iV _ _ k hlt)))) j rfl z43 (fun ad3 => ?_)
     refine AllSl.mk fun b => ?_
     refine bQ aE 1 aA (ys := [((s.sems[k]).m.queue[j]).t]) rfl rfl rfl rfl rfl rfl rfl rfl rfl (by decide) ⟨rfl, rfl⟩ rfl z35 z43 z43 (fun z => ?_)
     obtain ⟨xs', hx'⟩ : ∃ xs', xs' = xs2 ++ [((s.sems[k]).m.queue[j]).t] := ⟨_, rfl⟩
     rw [← hx']
     refine ⟨⟨(j + 1, z, xs'), by omega, ?_, by rw [hx', List.length_append]; simp only [List.length_cons, List.length_nil]; omega⟩, ?_, by simp only; omega⟩
     · show xs' = _
       rw [hx', hx2, List.take_succ_eq_append_getElem hlt2, List.map_append, List.append_assoc]; rfl
     · exact aC [0, 2, 3] zw8 zw0 zw8 zw5 zw21 rfl rfl
   have hge : (s.sems[k]).m.queue.length ≤ j := by simpa using g
   rw [List.take_of_length_le hge] at hx2
   refine ⟨⟨(k + 1, y', xs2), by omega, ?_, by simp only; omega⟩, ?_, by simp only; omega⟩
   · show xs2 = _
     rw [hx2, hx, hsucc]
     simp [dH, Function.comp_def]
   · exact aC [0, 1, 2] zw1 zw0 zw1 zw5 zw3 rfl rfl
 have hge : s.sems.length ≤ k := by simpa using g
 rw [List.take_of_length_le (show s.pure.sems.length ≤ k by omega)] at hx
 have e1 : x1 = (evL dH 0 s.pure.sems).map (·.1) := by simpa using hx
 have c1 : x1.length ≤ 18 := by omega
 refine LoopW.mk ⟨{ q : Nat × Sl × List Int // q.1 ≤ s.onces.length ∧ q.2.2 = x1 ++ (evL cR 0 (s.pure.onces.take q.1)).map (·.1) ∧ q.2.2.length ≤ 18 + 6 * q.1 },
   fun q => .mk [(2, .p 0 0), (3, .p 1 0), (6, .v (q.1.2.1.val q.1.2.2.length)), (9, .v (.int .i64 (q.1.1 : Int)))] 2 0 [(0, 26, 5), (1, 35, 9)] [((0, 0), .v (p.h0.val p.sems.length)), ((0, 1), .v (p.h1.val p.groups.length)), ((0, 2), .v (p.h2.val p.barriers.length)), ((0, 3), .v (p.h3.val p.rooms.length)), ((0, 4), .v (p.h4.val p.threads.length)), ((1, 0), .v (s.h0.val s.places.length)), ((1, 1), .v (s.h1.val s.status.length)), ((1, 2), .v (s.h2.val s.sems.length)), ((1, 3), .v (s.h3.val s.onces.length)), ((1, 4), .v (s.h4.val s.groups.length)), ((1, 5), .v (s.h5.val s.barriers.length)), ((1, 6), .v (s.h6.val s.chans.length)), ((1, 7), .v (s.h7.val s.said.length)), ((1, 8), .v (.int .i64 s.fault))] [own q.1.2.1 3 aJ 1 q.1.2.2, fR (aY p), fR (aK s)],
   fun q => s.onces.length - q.1.1, ⟨(0, y1, x1), Nat.zero_le _, by simp [evL], by simp; try omega⟩, ?_, ?_⟩
 · exact aC [0, 1, 2] zw2 zw0 zw2 zw5 zw4 rfl rfl
 rintro ⟨⟨k, y2, x2⟩, hk, hx, hl⟩
 simp only at hk hx hl
 apply CaseB.mk <;> intro g
 · have hlt : k < s.onces.length := by simpa using g
   have hw := bD k _ hlt (by omega)
   have hat : s.pure.onces[k]? = some (s.onces[k]).m := by simp [StateH.pure, hlt]
   have hltp : k < s.pure.onces.length := by omega
   have hget : s.pure.onces[k]'hltp = (s.onces[k]).m := by simp [StateH.pure]
   have hsucc := eY cR s.pure.onces hltp
   rw [hget] at hsucc
   have hq := eZ (s10 _ (List.mem_of_getElem? hat))
   refine aG cX aA rfl rfl rfl rfl rfl ⟨rfl, rfl⟩ (aL 2 rfl (.trans (.R_R (bW s)) (.ofR aX))) k rfl z43 (fun ad => ?_)
   refine bQ aE 0 aA (ys := (s.onces[k]).m.waits) rfl rfl rfl rfl rfl rfl rfl rfl rfl (by decide) ⟨rfl, rfl⟩ rfl (aL 2 rfl (.trans (.R_R (bW s)) (.ofR (hC _ _ k hlt)))) z43 z43 (fun z => ?_)
   obtain ⟨xs', hx'⟩ : ∃ xs', xs' = x2 ++ (s.onces[k]).m.waits := ⟨_, rfl⟩
   rw [← hx']
   refine ⟨⟨(k + 1, z, xs'), by omega, ?_, by rw [hx', List.length_append]; simp only; omega⟩, ?_, by simp only; omega⟩
   · show xs' = _
     rw [hx', hx, hsucc]
     simp [cR, Function.comp_def]
   · exact aC [0, 1, 2] zw1 zw0 zw1 zw5 zw3 rfl rfl
 have hge : s.onces.length ≤ k := by simpa using g
 rw [List.take_of_length_le (show s.pure.onces.length ≤ k by omega)] at hx
 have e2 : x2 = x1 ++ (evL cR 0 s.pure.onces).map (·.1) := hx
 have c2 : x2.length ≤ 36 := by omega
 refine LoopW.mk ⟨{ q : Nat × Sl × List Int // q.1 ≤ s.groups.length ∧ q.2.2 = x2 ++ (evL cT 0 (s.pure.groups.take q.1)).map (·.1) ∧ q.2.2.length ≤ 36 + 6 * q.1 },
   fun q => .mk [(2, .p 0 0), (3, .p 1 0), (6, .v (q.1.2.1.val q.1.2.2.length)), (10, .v (.int .i64 (q.1.1 : Int)))] 2 0 [(0, 26, 5), (1, 35, 9)] [((0, 0), .v (p.h0.val p.sems.length)), ((0, 1), .v (p.h1.val p.groups.length)), ((0, 2), .v (p.h2.val p.barriers.length)), ((0, 3), .v (p.h3.val p.rooms.length)), ((0, 4), .v (p.h4.val p.threads.length)), ((1, 0), .v (s.h0.val s.places.length)), ((1, 1), .v (s.h1.val s.status.length)), ((1, 2), .v (s.h2.val s.sems.length)), ((1, 3), .v (s.h3.val s.onces.length)), ((1, 4), .v (s.h4.val s.groups.length)), ((1, 5), .v (s.h5.val s.barriers.length)), ((1, 6), .v (s.h6.val s.chans.length)), ((1, 7), .v (s.h7.val s.said.length)), ((1, 8), .v (.int .i64 s.fault))] [own q.1.2.1 3 aJ 1 q.1.2.2, fR (aY p), fR (aK s)],
   fun q => s.groups.length - q.1.1, ⟨(0, y2, x2), Nat.zero_le _, by simp [evL], by simp; try omega⟩, ?_, ?_⟩
 · exact aC [0, 1, 2] zw2 zw0 zw2 zw5 zw4 rfl rfl
 rintro ⟨⟨k, y3, x3⟩, hk, hx, hl⟩
 simp only at hk hx hl
 apply CaseB.mk <;> intro g
 · have hlt : k < s.groups.length := by simpa using g
   have hw := bD k _ hlt (by omega)
   have hat : s.pure.groups[k]? = some (s.groups[k]).m := by simp [StateH.pure, hlt]
   have hltp : k < s.pure.groups.length := by omega
   have hget : s.pure.groups[k]'hltp = (s.groups[k]).m := by simp [StateH.pure]
   have hsucc := eY cT s.pure.groups hltp
   rw [hget] at hsucc
   have hq := fQ (s7 _ (List.mem_of_getElem? hat))
   refine aG cI aA rfl rfl rfl rfl rfl ⟨rfl, rfl⟩ (aL 2 rfl (.trans (.R_R (bL s)) (.ofR aX))) k rfl z43 (fun ad => ?_)
   refine bQ aE 0 aA (ys := (s.groups[k]).m.waits) rfl rfl rfl rfl rfl rfl rfl rfl rfl (by decide) ⟨rfl, rfl⟩ rfl (aL 2 rfl (.trans (.R_R (bL s)) (.ofR (eK _ _ k hlt)))) z43 z43 (fun z => ?_)
   obtain ⟨xs', hx'⟩ : ∃ xs', xs' = x3 ++ (s.groups[k]).m.waits := ⟨_, rfl⟩
   rw [← hx']
   refine ⟨⟨(k + 1, z, xs'), by omega, ?_, by rw [hx', List.length_append]; simp only; omega⟩, ?_, by simp only; omega⟩
   · show xs' = _
     rw [hx', hx, hsucc]
     simp [cT, Function.comp_def]
   · exact aC [0, 1, 2] zw1 zw0 zw1 zw5 zw3 rfl rfl
 have hge : s.groups.length ≤ k := by simpa using g
 rw [List.take_of_length_le (show s.pure.groups.length ≤ k by omega)] at hx
 have e3 : x3 = x2 ++ (evL cT 0 s.pure.groups).map (·.1) := hx
 have c3 : x3.length ≤ 54 := by omega
 refine LoopW.mk ⟨{ q : Nat × Sl × List Int // q.1 ≤ s.barriers.length ∧ q.2.2 = x3 ++ (evL cK 0 (s.pure.barriers.take q.1)).map (·.1) ∧ q.2.2.length ≤ 54 + 6 * q.1 },
   fun q => .mk [(2, .p 0 0), (3, .p 1 0), (6, .v (q.1.2.1.val q.1.2.2.length)), (11, .v (.int .i64 (q.1.1 : Int)))] 2 0 [(0, 26, 5), (1, 35, 9)] [((0, 0), .v (p.h0.val p.sems.length)), ((0, 1), .v (p.h1.val p.groups.length)), ((0, 2), .v (p.h2.val p.barriers.length)), ((0, 3), .v (p.h3.val p.rooms.length)), ((0, 4), .v (p.h4.val p.threads.length)), ((1, 0), .v (s.h0.val s.places.length)), ((1, 1), .v (s.h1.val s.status.length)), ((1, 2), .v (s.h2.val s.sems.length)), ((1, 3), .v (s.h3.val s.onces.length)), ((1, 4), .v (s.h4.val s.groups.length)), ((1, 5), .v (s.h5.val s.barriers.length)), ((1, 6), .v (s.h6.val s.chans.length)), ((1, 7), .v (s.h7.val s.said.length)), ((1, 8), .v (.int .i64 s.fault))] [own q.1.2.1 3 aJ 1 q.1.2.2, fR (aY p), fR (aK s)],
   fun q => s.barriers.length - q.1.1, ⟨(0, y3, x3), Nat.zero_le _, by simp [evL], by simp; try omega⟩, ?_, ?_⟩
 · exact aC [0, 1, 2] zw2 zw0 zw2 zw5 zw4 rfl rfl
 rintro ⟨⟨k, y4, x4⟩, hk, hx, hl⟩
 simp only at hk hx hl
 apply CaseB.mk <;> intro g
 · have hlt : k < s.barriers.length := by simpa using g
   have hw := bD k _ hlt (by omega)
   have hat : s.pure.barriers[k]? = some (s.barriers[k]).m := by simp [StateH.pure, hlt]
   have hltp : k < s.pure.barriers.length := by omega
   have hget : s.pure.barriers[k]'hltp = (s.barriers[k]).m := by simp [StateH.pure]
   have hsucc := eY cK s.pure.barriers hltp
   rw [hget] at hsucc
   have hq := gA (s8 _ _ hat).1
   refine aG cA aA rfl rfl rfl rfl rfl ⟨rfl, rfl⟩ (aL 2 rfl (.trans (.R_R (bJ s)) (.ofR aX))) k rfl z43 (fun ad => ?_)
   refine bQ aE 0 aA (ys := (s.barriers[k]).m.waits) rfl rfl rfl rfl rfl rfl rfl rfl rfl (by decide) ⟨rfl, rfl⟩ rfl (aL 2 rfl (.trans (.R_R (bJ s)) (.ofR (dO _ _ k hlt)))) z43 z43 (fun z => ?_)
   obtain ⟨xs', hx'⟩ : ∃ xs', xs' = x4 ++ (s.barriers[k]).m.waits := ⟨_, rfl⟩
   rw [← hx']
   refine ⟨⟨(k + 1, z, xs'), by omega, ?_, by rw [hx', List.length_append]; simp only; omega⟩, ?_, by simp only; omega⟩
   · show xs' = _
     rw [hx', hx, hsucc]
     simp [cK, Function.comp_def]
   · exact aC [0, 1, 2] zw1 zw0 zw1 zw5 zw3 rfl rfl
 have hge : s.barriers.length ≤ k := by simpa using g
 rw [List.take_of_length_le (show s.pure.barriers.length ≤ k by omega)] at hx
 have e4 : x4 = x3 ++ (evL cK 0 s.pure.barriers).map (·.1) := hx
 have c4 : x4.length ≤ 72 := by omega
 refine LoopW.mk ⟨{ q : Nat × Sl × List Int // q.1 ≤ s.chans.length ∧ q.2.2 = x4 ++ (evL dC 0 (s.pure.chans.take q.1)).map (·.1) ∧ q.2.2.length ≤ 72 + 6 * q.1 },
   fun q => .mk [(2, .p 0 0), (3, .p 1 0), (6, .v (q.1.2.1.val q.1.2.2.length)), (12, .v (.int .i64 (q.1.1 : Int)))] 2 0 [(0, 26, 5), (1, 35, 9)] [((0, 0), .v (p.h0.val p.sems.length)), ((0, 1), .v (p.h1.val p.groups.length)), ((0, 2), .v (p.h2.val p.barriers.length)), ((0, 3), .v (p.h3.val p.rooms.length)), ((0, 4), .v (p.h4.val p.threads.length)), ((1, 0), .v (s.h0.val s.places.length)), ((1, 1), .v (s.h1.val s.status.length)), ((1, 2), .v (s.h2.val s.sems.length)), ((1, 3), .v (s.h3.val s.onces.length)), ((1, 4), .v (s.h4.val s.groups.length)), ((1, 5), .v (s.h5.val s.barriers.length)), ((1, 6), .v (s.h6.val s.chans.length)), ((1, 7), .v (s.h7.val s.said.length)), ((1, 8), .v (.int .i64 s.fault))] [own q.1.2.1 3 aJ 1 q.1.2.2, fR (aY p), fR (aK s)],
   fun q => s.chans.length - q.1.1, ⟨(0, y4, x4), Nat.zero_le _, by simp [evL], by simp; try omega⟩, ?_, ?_⟩
 · exact aC [0, 1, 2] zw2 zw0 zw2 zw5 zw4 rfl rfl
 rintro ⟨⟨k, y5, x5⟩, hk, hx, hl⟩
 simp only at hk hx hl
 apply CaseB.mk <;> intro g
 · have hlt : k < s.chans.length := by simpa using g
   have hw := bD k _ hlt (by omega)
   have hat : s.pure.chans[k]? = some (s.chans[k]).m := by simp [StateH.pure, hlt]
   have hltp : k < s.pure.chans.length := by omega
   have hget : s.pure.chans[k]'hltp = (s.chans[k]).m := by simp [StateH.pure]
   have hsucc := eY dC s.pure.chans hltp
   rw [hget] at hsucc
   have hq := mX (s9 _ _ hat).1
   refine aF aA z102 z102 z102 200 [((1, 6), .v (s.h6.val s.chans.length))] [1, 2] [_, _] z146 z149 ⟨rfl, rfl, trivial⟩ rfl ?_
   refine bO (ti := aU tab) cN aA rfl rfl rfl rfl rfl ⟨rfl, rfl⟩ (aL 1 rfl (.trans (.R_R (aQ s)) (.ofR aX))) k rfl z43 (fun ad => ?_)
   refine bO (ti := aU tab) cN aA rfl rfl rfl rfl rfl ⟨rfl, rfl⟩ (aL 1 rfl (.trans (.R_R (aQ s)) (.ofR aX))) k rfl z43 (fun ad2 => ?_)
   refine bN _ fR0 rfl rfl rfl rfl ⟨rfl, rfl⟩ (fun A w hW => nH _ _ w ⟨hW.get 2 rfl (.trans (.R_R (aQ s)) (.ofR (gJ _ _ k hlt))), trivial⟩ (by omega)) ?_
   rw [List.take_of_length_le (by omega)]
   rintro v L ⟨b, rfl, rfl⟩
   obtain ⟨st, hst⟩ : ∃ st, st = (s.chans[k]).m.senders.map Letter.t := ⟨_, rfl⟩
   have hstl : st.length ≤ 6 := by rw [hst, List.length_map]; omega
   rw [← hst]
   refine bR (ti := aU tab) aE 1 aA (ys := st) rfl rfl rfl rfl rfl rfl rfl rfl rfl (by decide) ⟨rfl, rfl⟩ rfl z35 z43 z43 z100 (fun z1 => ?_)
   obtain ⟨xs1, hx1⟩ : ∃ xs', xs' = x5 ++ st := ⟨_, rfl⟩
   have hl1 : xs1.length ≤ 6 * k + 78 := by rw [hx1, List.length_append]; omega
   rw [← hx1]
   refine bR (ti := aU tab) aE 0 aA (ys := (s.chans[k]).m.getters) rfl rfl rfl rfl rfl rfl rfl rfl rfl (by decide) ⟨rfl, rfl⟩ rfl (aL 3 rfl (.trans (.R_R (aQ s)) (.ofR (hH _ _ k hlt)))) z43 z43 z100 (fun z2 => ?_)
   obtain ⟨xs2, hx2⟩ : ∃ xs', xs' = xs1 ++ (s.chans[k]).m.getters := ⟨_, rfl⟩
   rw [← hx2]
   refine ⟨⟨(k + 1, z2, xs2), by omega, ?_, by rw [hx2, hx1, hst, List.length_append, List.length_append, List.length_map]; simp only; omega⟩, ?_, by simp only; omega⟩
   · show xs2 = _
     rw [hx2, hx1, hst, hx, hsucc]
     simp [dC, Function.comp_def]
   · exact aC [0, 2, 3] zw1 zw0 zw1 zw5 zw3 rfl rfl
 have hge : s.chans.length ≤ k := by simpa using g
 rw [List.take_of_length_le (show s.pure.chans.length ≤ k by omega)] at hx
 have e5 : x5 = (bH s.pure).map (·.1) := by rw [hx, e4, e3, e2, e1]; simp [bH]
 have c5 : x5.length ≤ 90 := by omega
 have h0 : ∀ x ∈ x5, 0 ≤ x := by
   rw [e5]
   intro x hm
   obtain ⟨e, he, rfl⟩ := List.mem_map.1 hm
   exact zD ⟨s1, s2, s3, s4, s5, s6, s7, s8, s9, s10⟩ e he
 have hev : ∀ n : Int, (∀ x ∈ x5, x < n) ↔ ∀ e ∈ bH s.pure, e.1 < n := fun n => by rw [e5]; simp
 refine yW aE 0 aA rfl rfl rfl rfl rfl (by decide) ⟨rfl, rfl⟩ p.threads.length rfl z43 z43 (fun z0 => ?_)
 refine LoopW.mk ⟨{ q : Nat × Sl × List Int // q.1 ≤ x5.length ∧ q.2.2.length = p.threads.length ∧ (∀ x ∈ x5.take q.1, x < (p.threads.length : Int)) ∧ ∀ (t : Nat) (ht : t < q.2.2.length), q.2.2[t] = (cnt (x5.take q.1) t : Int) },
   fun q => .mk [(2, .p 0 0), (3, .p 1 0), (6, .v (y5.val x5.length)), (13, .v (q.1.2.1.val q.1.2.2.length)), (14, .v (.int .i64 (q.1.1 : Int)))] 2 0 [(0, 26, 5), (1, 35, 9)] [((0, 0), .v (p.h0.val p.sems.length)), ((0, 1), .v (p.h1.val p.groups.length)), ((0, 2), .v (p.h2.val p.barriers.length)), ((0, 3), .v (p.h3.val p.rooms.length)), ((0, 4), .v (p.h4.val p.threads.length)), ((1, 0), .v (s.h0.val s.places.length)), ((1, 1), .v (s.h1.val s.status.length)), ((1, 2), .v (s.h2.val s.sems.length)), ((1, 3), .v (s.h3.val s.onces.length)), ((1, 4), .v (s.h4.val s.groups.length)), ((1, 5), .v (s.h5.val s.barriers.length)), ((1, 6), .v (s.h6.val s.chans.length)), ((1, 7), .v (s.h7.val s.said.length)), ((1, 8), .v (.int .i64 s.fault))] [own q.1.2.1 3 aJ 1 q.1.2.2, own y5 3 aJ 1 x5, fR (aY p), fR (aK s)],
   fun q => x5.length - q.1.1, ⟨(0, z0, List.replicate p.threads.length 0), Nat.zero_le _, by simp, by simp, by simp [cnt]⟩, ?_, ?_⟩
 · refine aC [0, 1, 2, 3] ?_ ?_ ?_ ?_ ?_ rfl rfl
   · exact zw26
   · exact zw0
   · exact zw26
   · exact zw5
   · repeat (first | exact trivial | refine ⟨.inl ⟨_, rfl, (by first | rfl | ((simp)))⟩, ?_⟩ | refine ⟨.inr z139, ?_⟩)
 rintro ⟨⟨i, z, cs⟩, hi, hcl, hlt5, hcs⟩
 simp only at hi hcl hlt5 hcs
 apply CaseB.mk <;> intro g
 · have hlt : i < x5.length := by simpa using g
   have hw := bD i _ hlt (by omega)
   refine aG aE aA rfl rfl rfl rfl rfl ⟨rfl, rfl⟩ (aL 1 rfl (Rd.own (o := false) (o' := false))) i rfl z43 (fun ad => ?_)
   apply CaseB.mk <;> intro g
   · have n : ¬ x5[i] < (p.threads.length : Int) := by have g' : (cs.length : Int) ≤ x5[i] := of_decide_eq_true g; omega
     exact bG [0] ⟨z, cs, false, rfl, rfl, tno fun e => n ((hev _).2 e _ (List.getElem_mem hlt)), fun e => z105⟩ z144 rfl ⟨rfl, trivial⟩ (fun _ => rfl)
   have hx : x5[i] < (p.threads.length : Int) := by have g' : ¬ (cs.length : Int) ≤ x5[i] := of_decide_eq_false g; omega
   have hx0 := h0 _ (List.getElem_mem hlt)
   obtain ⟨j, hj⟩ : ∃ j : Nat, x5[i] = (j : Int) := ⟨_, (Int.toNat_of_nonneg hx0).symm⟩
   have hjl : j < cs.length := by omega
   have hcj := hcs j hjl
   have hcn : cnt (x5.take i) j ≤ 90 := by
     have h1 : cnt (x5.take i) j ≤ (x5.take i).length := List.length_filter_le _ _
     have h2 : (x5.take i).length ≤ x5.length := by simp; omega
     omega
   have hwr : IntKind.i64.wrap (cs[j] + 1) = cs[j] + 1 := by rw [IntKind.wrap_i64]; omega
   refine gG 0 rfl (show 0 < cs.length by omega) fun gg hgg _ _ => ?_
   refine aF aA z102 z102 z102 200 [] [1] [_] trivial trivial ⟨rfl, trivial⟩ rfl ?_
   refine bO (ti := aU tab) aE aA rfl rfl rfl rfl rfl ⟨rfl, rfl⟩ (aL 0 rfl (Rd.own (o := false) (o' := false))) i rfl z43 (fun ad1 => ?_)
   refine bO (ti := aU tab) aE aA rfl rfl rfl rfl rfl ⟨rfl, rfl⟩ (aL 0 rfl (Rd.own (o := false) (o' := false))) i rfl z43 (fun ad2 => ?_)
   refine jO (ti := aU tab) aA rfl rfl rfl rfl rfl ⟨rfl, rfl⟩ hgg j hj hjl ?_
   refine gB0 (ti := aU tab) aE 0 aA rfl rfl rfl ⟨rfl, rfl⟩ rfl hgg j 0 rfl hjl rfl ?_
   refine jO (ti := aU tab) aA rfl rfl rfl rfl rfl ⟨rfl, rfl⟩ hgg j hj hjl ?_
   refine gH (ti := aU tab) aE 0 aA rfl rfl rfl rfl rfl rfl rfl rfl hgg j 0 (cs[j] + 1) rfl hjl rfl [.int .i64 (cs[j] + 1)] (fun _ => by simp [SV.den, hwr]) rfl z100 ?_
   obtain ⟨cs', hcs'⟩ : ∃ cs', cs' = cs.set j (cs[j] + 1) := ⟨_, rfl⟩
   rw [← hcs']
   refine ⟨⟨(i + 1, z, cs'), by omega, by rw [hcs', List.length_set]; exact hcl, ?_, ?_⟩, ?_, by simp only; omega⟩
   · intro x hm
     rw [List.take_succ_eq_append_getElem hlt] at hm
     rcases List.mem_append.1 hm with hm | hm
     · exact hlt5 x hm
     · rw [List.mem_singleton.1 hm]; exact hx
   · intro t ht
     have ht2 : t < cs.length := by have e : cs'.length = cs.length := by rw [hcs', List.length_set]
                                    have ht3 : t < cs'.length := ht
                                    omega
     have e : cnt (x5.take (i + 1)) t = cnt (x5.take i) t + if x5[i] = (t : Int) then 1 else 0 := by
       rw [List.take_succ_eq_append_getElem hlt]
       simp only [cnt, List.filter_append, List.length_append, List.filter_cons, List.filter_nil]
       by_cases h : x5[i] = (t : Int) <;> simp [h]
     show cs'[t] = _
     rw [e]
     simp only [hcs', List.getElem_set, hcs t ht2]
     by_cases h : j = t
     · subst h; rw [if_pos rfl, if_pos hj, hcj]; rfl
     · rw [if_neg h, if_neg (by omega)]; rfl
   · refine aC [0, 1, 2, 3] ?_ ?_ ?_ ?_ ?_ rfl rfl
     · exact zw18
     · exact zw0
     · exact zw18
     · exact zw5
     · repeat (first | exact trivial | refine ⟨.inl ⟨_, rfl, (by first | rfl | ((first | exact congrArg (fun z => SV.v (Value.int .i64 z)) hw | (simp only [hcs', List.length_set]; done) | (subst hcs'; simp; done))))⟩, ?_⟩ | refine ⟨.inr z139, ?_⟩)
 have hge : x5.length ≤ i := by simpa using g
 rw [List.take_of_length_le hge] at hlt5 hcs
 exact bG [0] ⟨z, cs, true, rfl, rfl, jS ((hev _).1 hlt5), fun _ => ⟨hcl, fun t ht => by rw [← eH0, ← e5]; exact hcs t ht⟩⟩ z144 rfl ⟨rfl, trivial⟩ (fun _ => rfl)
theorem xE {α β : Type} {f : Nat → α → List β} {e : β} {xs : List α} : e ∈ evL f 0 xs ↔ ∃ j x, xs[j]? = some x ∧ e ∈ f j x := by
 have : ∀ (xs : List α) (i j : Nat) (x : α), xs[j]? = some x → e ∈ f (i + j) x → e ∈ evL f i xs := by
   intro xs
   induction xs with
   | nil => intro i j x h; simp at h
   | cons y r ih =>
     intro i j x h hm
     simp only [evL, List.mem_append]
     cases j with
     | zero => simp at h; subst h; exact .inl hm
     | succ j => exact .inr (ih (i + 1) j x z95 (by rw [show i + 1 + j = i + (j + 1) by omega]; exact hm))
 constructor
 · intro h
   obtain ⟨j, x, hx, hm⟩ := oY h
   exact ⟨j, x, hx, by rwa [Nat.zero_add] at hm⟩
 · rintro ⟨j, x, hx, hm⟩
   exact this xs 0 j x hx (by rwa [Nat.zero_add])
theorem jZ {β : Type} {es : List (Int × β)} {t : Int} {x : β} : x ∈ aN es t ↔ (t, x) ∈ es := by
 simp only [aN, List.mem_map, List.mem_filter, beq_iff_eq]
 constructor
 · rintro ⟨⟨a, b⟩, ⟨h, rfl⟩, rfl⟩; exact h
 · intro h; exact ⟨_, ⟨h, rfl⟩, rfl⟩
theorem zE {p : Prog} {s : State} {op : Op} {t : Int} (ho : OpOk p op) : fE s op t ↔ kE op ∈ aN (bH s) t := by
 have o0 : 0 ≤ op.on := ho.2.2.1
 have hz : ∀ j : Nat, ((j : Int) = op.on ↔ j = op.on.toNat) := fun j => by omega
 rw [jZ]
 simp only [bH, List.mem_append, xE, fE, kE, dH, cR, cT, cK, dC, List.mem_map, Prod.mk.injEq, Waiting.mk.injEq]
 by_cases k2 : op.kind = 2
 · simp only [k2, if_true, true_or]
   constructor
   · rintro ⟨x, hx, hm⟩
     exact .inl (.inl (.inl (.inl ⟨_, x, hx, _, hm, by simp, by simp, by omega, by simp⟩)))
   · rintro ((((⟨j, x, hx, y, hm, h1, h2, h3, h4⟩ | ⟨j, x, hx, y, hm, h1, h2, h3, h4⟩) | ⟨j, x, hx, y, hm, h1, h2, h3, h4⟩) | ⟨j, x, hx, y, hm, h1, h2, h3, h4⟩) | ⟨j, x, hx, ⟨y, hm, h1, h2, h3, h4⟩ | ⟨y, hm, h1, h2, h3, h4⟩⟩)
     · obtain rfl := (hz j).1 h3
       refine ⟨x, hx, ?_⟩
       obtain ⟨a, b⟩ := y
       simp only at h1 h4; subst h1; subst h4; exact hm
     all_goals omega
 by_cases k4 : op.kind = 4
 · simp only [k4, if_true, if_neg (show ¬ (4 : Int) = 2 by decide), if_neg (show ¬ ((4 : Int) = 2 ∨ (4 : Int) = 8) by decide)]
   constructor
   · rintro ⟨x, hx, hm⟩
     exact .inl (.inl (.inl (.inr ⟨_, x, hx, _, hm, by simp, by simp, by omega, by simp⟩)))
   · rintro ((((⟨j, x, hx, y, hm, h1, h2, h3, h4⟩ | ⟨j, x, hx, y, hm, h1, h2, h3, h4⟩) | ⟨j, x, hx, y, hm, h1, h2, h3, h4⟩) | ⟨j, x, hx, y, hm, h1, h2, h3, h4⟩) | ⟨j, x, hx, ⟨y, hm, h1, h2, h3, h4⟩ | ⟨y, hm, h1, h2, h3, h4⟩⟩)
     · omega
     · obtain rfl := (hz j).1 h3
       subst h1; exact ⟨x, hx, hm⟩
     all_goals omega
 by_cases k6 : op.kind = 6
 · simp only [k6, if_true, if_neg (show ¬ (6 : Int) = 2 by decide), if_neg (show ¬ (6 : Int) = 4 by decide), if_neg (show ¬ ((6 : Int) = 2 ∨ (6 : Int) = 8) by decide)]
   constructor
   · rintro ⟨x, hx, hm⟩
     exact .inl (.inl (.inr ⟨_, x, hx, _, hm, by simp, by simp, by omega, by simp⟩))
   · rintro ((((⟨j, x, hx, y, hm, h1, h2, h3, h4⟩ | ⟨j, x, hx, y, hm, h1, h2, h3, h4⟩) | ⟨j, x, hx, y, hm, h1, h2, h3, h4⟩) | ⟨j, x, hx, y, hm, h1, h2, h3, h4⟩) | ⟨j, x, hx, ⟨y, hm, h1, h2, h3, h4⟩ | ⟨y, hm, h1, h2, h3, h4⟩⟩)
     · omega
     · omega
     · obtain rfl := (hz j).1 h3
       subst h1; exact ⟨x, hx, hm⟩
     all_goals omega
 by_cases k7 : op.kind = 7
 · simp only [k7, if_true, if_neg (show ¬ (7 : Int) = 2 by decide), if_neg (show ¬ (7 : Int) = 4 by decide), if_neg (show ¬ (7 : Int) = 6 by decide), if_neg (show ¬ ((7 : Int) = 2 ∨ (7 : Int) = 8) by decide)]
   constructor
   · rintro ⟨x, hx, hm⟩
     exact .inl (.inr ⟨_, x, hx, _, hm, by simp, by simp, by omega, by simp⟩)
   · rintro ((((⟨j, x, hx, y, hm, h1, h2, h3, h4⟩ | ⟨j, x, hx, y, hm, h1, h2, h3, h4⟩) | ⟨j, x, hx, y, hm, h1, h2, h3, h4⟩) | ⟨j, x, hx, y, hm, h1, h2, h3, h4⟩) | ⟨j, x, hx, ⟨y, hm, h1, h2, h3, h4⟩ | ⟨y, hm, h1, h2, h3, h4⟩⟩)
     · omega
     · omega
     · omega
     · obtain rfl := (hz j).1 h3
       subst h1; exact ⟨x, hx, hm⟩
     all_goals omega
 by_cases k8 : op.kind = 8
 · simp only [k8, if_true, if_neg (show ¬ (8 : Int) = 2 by decide), if_neg (show ¬ (8 : Int) = 4 by decide), if_neg (show ¬ (8 : Int) = 6 by decide), if_neg (show ¬ (8 : Int) = 7 by decide), or_true]
   constructor
   · rintro ⟨x, hx, hm⟩
     exact .inr ⟨_, x, hx, .inl ⟨_, hm, by simp, by simp, by omega, by simp⟩⟩
   · rintro ((((⟨j, x, hx, y, hm, h1, h2, h3, h4⟩ | ⟨j, x, hx, y, hm, h1, h2, h3, h4⟩) | ⟨j, x, hx, y, hm, h1, h2, h3, h4⟩) | ⟨j, x, hx, y, hm, h1, h2, h3, h4⟩) | ⟨j, x, hx, ⟨y, hm, h1, h2, h3, h4⟩ | ⟨y, hm, h1, h2, h3, h4⟩⟩)
     · omega
     · omega
     · omega
     · omega
     · obtain rfl := (hz j).1 h3
       refine ⟨x, hx, ?_⟩
       obtain ⟨a, b⟩ := y
       simp only at h1 h4; subst h1; subst h4; exact hm
     · omega
 by_cases k9 : op.kind = 9
 · simp only [k9, if_true, if_neg (show ¬ (9 : Int) = 2 by decide), if_neg (show ¬ (9 : Int) = 4 by decide), if_neg (show ¬ (9 : Int) = 6 by decide), if_neg (show ¬ (9 : Int) = 7 by decide), if_neg (show ¬ (9 : Int) = 8 by decide), if_neg (show ¬ ((9 : Int) = 2 ∨ (9 : Int) = 8) by decide)]
   constructor
   · rintro ⟨x, hx, hm⟩
     exact .inr ⟨_, x, hx, .inr ⟨_, hm, by simp, by simp, by omega, by simp⟩⟩
   · rintro ((((⟨j, x, hx, y, hm, h1, h2, h3, h4⟩ | ⟨j, x, hx, y, hm, h1, h2, h3, h4⟩) | ⟨j, x, hx, y, hm, h1, h2, h3, h4⟩) | ⟨j, x, hx, y, hm, h1, h2, h3, h4⟩) | ⟨j, x, hx, ⟨y, hm, h1, h2, h3, h4⟩ | ⟨y, hm, h1, h2, h3, h4⟩⟩)
     · omega
     · omega
     · omega
     · omega
     · omega
     · obtain rfl := (hz j).1 h3
       subst h1; exact ⟨x, hx, hm⟩
 simp only [k2, k4, k6, k7, k8, k9, if_false]
 constructor
 · exact False.elim
 · rintro ((((⟨j, x, hx, y, hm, h1, h2, h3, h4⟩ | ⟨j, x, hx, y, hm, h1, h2, h3, h4⟩) | ⟨j, x, hx, y, hm, h1, h2, h3, h4⟩) | ⟨j, x, hx, y, hm, h1, h2, h3, h4⟩) | ⟨j, x, hx, ⟨y, hm, h1, h2, h3, h4⟩ | ⟨y, hm, h1, h2, h3, h4⟩⟩) <;> omega
theorem zF : ∀ (i : Nat) (xs : List Once), ((evL iC i xs).map (·.2)).Nodup ∧ ∀ z ∈ (evL iC i xs).map (·.2), (i : Int) ≤ z
 | i, [] => by simp [evL]
 | i, x :: r => by
   obtain ⟨h1, h2⟩ := zF (i + 1) r
   simp only [evL, iC]
   split
   · simp only [List.singleton_append, List.map_cons, List.nodup_cons]
     refine ⟨⟨fun hm => ?_, h1⟩, fun z hz => ?_⟩
     · have := h2 _ hm; omega
     · rcases List.mem_cons.1 hz with rfl | hz
       · exact Int.le_refl _
       · have := h2 _ hz; omega
   · refine ⟨h1, fun z hz => ?_⟩
     have := h2 z hz; omega
theorem aS0 (s : State) (t : Int) : (aN (cJ s) t).Nodup := by
 refine (zF 0 s.onces).1.sublist ?_
 exact (List.filter_sublist ..).map _
theorem iM {s : State} {t i : Int} : i ∈ aN (cJ s) t ↔ ∃ (j : Nat) (x : Once), s.onces[j]? = some x ∧ x.state = 1 ∧ x.owner = t ∧ i = j := by
 rw [jZ, cJ, xE]
 constructor
 · rintro ⟨j, x, hx, hm⟩
   simp only [iC] at hm
   split at hm
   · rename_i h1
     simp only [List.mem_singleton, Prod.mk.injEq] at hm
     exact ⟨j, x, hx, h1, hm.1.symm, hm.2⟩
   · cases hm
 · rintro ⟨j, x, hx, h1, rfl, rfl⟩
   exact ⟨j, x, hx, by simp [iC, h1]⟩
theorem oU0 {l : List Int} {a : Int} (hd : l.Nodup) (hm : a ∈ l) (ha : ∀ x ∈ l, x = a) : l = [a] := by
 match l, hd, hm, ha with
 | [x], _, _, ha => rw [ha x (by simp)]
 | x :: y :: r, hd, _, ha =>
   have h1 := ha x (by simp)
   have h2 := ha y (by simp)
   simp [h1, h2] at hd
theorem kE0 {p : Prog} {s : State} (ok : ProgOk p) (sh : SharedOk p s) (np : s.places.length = p.threads.length) (ns : s.status.length = p.threads.length) (lsaid : s.said.length ≤ 64) (f0 : 0 ≤ s.fault) (f4 : s.fault ≤ 4) (said : ∀ v ∈ s.said, aV v = true) :
   Fits p s ↔ ((∀ e ∈ bH s, e.1 < (p.threads.length : Int)) ∧ (∀ (t : Nat) ops at_ st, p.threads[t]? = some ops → s.places[t]? = some at_ → s.status[t]? = some st → nN s ops t at_ st (aN (bH s) t).length) ∧ gE0 p s) := by
 have hop : ∀ (t : Nat) ops (at_ : Int) op, p.threads[t]? = some ops → ops[at_.toNat]? = some op → OpOk p op := fun t ops at_ op h1 h2 => (ok.ops _ (List.mem_of_getElem? h1)).2 _ (List.mem_of_getElem? h2)
 constructor
 · intro h
   refine ⟨fun e he => (h.ev e he).2, fun t ops at_ st h1 h2 h3 => ?_, fun i x hx h1 => ?_⟩
   · obtain ⟨a0, a1, h4⟩ := h.threads t ops at_ st h1 h2 h3
     refine ⟨a0, a1, ?_⟩
     rcases h4 with ⟨e1, e2, e3, e4⟩ | ⟨op, e1, e2⟩
     · exact .inl ⟨e1, e2, by rw [e3]; rfl⟩
     · refine .inr ⟨op, e1, ?_⟩
       rcases e2 with ⟨e2, e3, e4⟩ | ⟨e2, e3, e4⟩ | ⟨e2, e3, e4, e5⟩
       · exact .inl ⟨e2, by rw [e3]; rfl⟩
       · exact .inr (.inl ⟨e2, by rw [e4]; rfl, (zE (hop t ops at_ op h1 e1)).2 (by rw [e4]; simp)⟩)
       · refine .inr (.inr ⟨e2, by rw [e3]; rfl, e4, ?_⟩)
         have hm : op.on ∈ aN (cJ s) t := by rw [e5]; simp
         obtain ⟨j, x, hx, h5, h6, h7⟩ := iM.1 hm
         exact ⟨x, by rw [h7]; simpa using hx, h5, h6⟩
   · have hm : (x.owner, (i : Int)) ∈ cJ s := jZ.1 (iM.2 ⟨i, x, hx, h1, rfl, rfl⟩)
     obtain ⟨o0, o1⟩ := h.ow _ hm
     simp only at o0 o1
     obtain ⟨t, ht⟩ : ∃ t : Nat, x.owner = t := ⟨_, (Int.toNat_of_nonneg o0).symm⟩
     have hlt : t < p.threads.length := by omega
     have hpl : t < s.places.length := by omega
     have hsl : t < s.status.length := by omega
     have hmem : (i : Int) ∈ aN (cJ s) t := jZ.2 (ht ▸ hm)
     obtain ⟨a0, a1, h4⟩ := h.threads t _ _ _ (List.getElem?_eq_getElem hlt) (List.getElem?_eq_getElem hpl) (List.getElem?_eq_getElem hsl)
     rcases h4 with ⟨e1, e2, e3, e4⟩ | ⟨op, e1, e2⟩
     · rw [e4] at hmem; cases hmem
     · rcases e2 with ⟨e2, e3, e4⟩ | ⟨e2, e3, e4⟩ | ⟨e2, e3, e4, e5⟩
       · rw [e4] at hmem; cases hmem
       · rw [e3] at hmem; cases hmem
       · rw [e5] at hmem
         exact ⟨t, ht, _, _, op, List.getElem?_eq_getElem hlt, by rw [List.getElem?_eq_getElem hsl, e2], List.getElem?_eq_getElem hpl, e1, (List.mem_singleton.1 hmem).symm⟩
 · rintro ⟨hev, hth, how⟩
   have own2 : ∀ (t : Nat) (i : Int), i ∈ aN (cJ s) t → ∃ ops at_ op, p.threads[t]? = some ops ∧ s.status[t]? = some 2 ∧ s.places[t]? = some at_ ∧ ops[at_.toNat]? = some op ∧ op.on = i := by
     intro t i hm
     obtain ⟨j, x, hx, h1, h2, rfl⟩ := iM.1 hm
     obtain ⟨t', e1, ops, at_, op, e2, e3, e4, e5, e6⟩ := how j x hx h1
     obtain rfl : t' = t := by omega
     exact ⟨ops, at_, op, e2, e3, e4, e5, e6⟩
   have none : ∀ (t : Nat) st, s.status[t]? = some st → st ≠ 2 → aN (cJ s) t = [] := fun t st h1 h2 => by
     refine List.eq_nil_iff_forall_not_mem.2 fun i hm => ?_
     obtain ⟨_, _, _, _, e, _⟩ := own2 t i hm
     rw [h1] at e; injection e with e; exact h2 e
   refine ⟨ok, np, ns, sh.lsems, sh.lgroups, sh.lbarriers, sh.lchans, sh.lonces, lsaid, f0, f4, sh.sems, sh.groups, sh.barriers, sh.chans, sh.onces, said, fun t ops at_ st h1 h2 h3 => ?_, fun e he => ⟨zD sh e he, hev e he⟩, fun e he => ?_⟩
   · obtain ⟨a0, a1, h4⟩ := hth t ops at_ st h1 h2 h3
     have l0 : ∀ {l : List Waiting}, ((l.length : Nat) : Int) = 0 → l = [] := fun h => List.eq_nil_of_length_eq_zero (by omega)
     refine ⟨a0, a1, ?_⟩
     rcases h4 with ⟨e1, e2, e3⟩ | ⟨op, e1, e2⟩
     · exact .inl ⟨e1, e2, l0 e3, none t st h3 (by omega)⟩
     · refine .inr ⟨op, e1, ?_⟩
       rcases e2 with ⟨e2, e3⟩ | ⟨e2, e3, e4⟩ | ⟨e2, e3, e4, x, e5, e6, e7⟩
       · exact .inl ⟨e2, l0 e3, none t st h3 (by omega)⟩
       · refine .inr (.inl ⟨e2, none t st h3 (by omega), ?_⟩)
         have hm := (zE (hop t ops at_ op h1 e1)).1 e4
         obtain ⟨a, ha⟩ : ∃ a, aN (bH s) t = [a] := List.length_eq_one_iff.1 (by omega)
         rw [ha] at hm ⊢
         rw [List.mem_singleton.1 hm]
       · have o0 := (hop t ops at_ op h1 e1).2.2.1
         refine .inr (.inr ⟨e2, l0 e3, e4, oU0 (aS0 s t) (iM.2 ⟨_, x, e5, e6, e7, by omega⟩) fun i hi => ?_⟩)
         obtain ⟨ops', at', op', g1, _, g3, g4, g5⟩ := own2 t i hi
         rw [h1] at g1; injection g1 with g1; subst g1
         rw [h2] at g3; injection g3 with g3; subst g3
         rw [e1] at g4; injection g4 with g4; subst g4
         exact g5.symm
   · obtain ⟨a, b⟩ := e
     obtain ⟨j, x, hx, h1, h2, h3⟩ := iM.1 (jZ.2 he)
     obtain ⟨t, e1, ops, _, _, e2, _⟩ := how j x hx h1
     have := (List.getElem?_eq_some_iff.1 e2).1
     exact ⟨by simp only; omega, by simp only; omega⟩
theorem tI (p : ProgH) (s : StateH) (w : World) (h : At w [fR (aY p), fR (aK s)]) (hp : p.pure.small20) (hs : s.pure.small20) :
   Calls Tryz.prog 82 #[dW p, aM s] w (iD w (Fits p.pure s.pure)) := by
 have mlen : ∀ {α β : Type} (f : α → β) (xs : List α), (xs.map f).length = xs.length := fun f xs => by simp
 have lt : p.pure.threads.length = p.threads.length := mlen _ _
 refine cB Tryz.func82 rfl aA w _ rfl _ rfl _ h ⟨rfl, rfl, rfl, rfl, trivial⟩ _ _ (by decide) ?_
 refine aB _ fH0 rfl rfl rfl rfl ⟨rfl, rfl⟩ (fun A w hW => mE p w ⟨hW.get 0 rfl (.refl _), trivial⟩ ⟨hp.1, hp.2.1, hp.2.2.1, hp.2.2.2.1⟩) ?_
 rintro v L ⟨b, rfl, hb, rfl⟩
 apply CaseB.mk <;> intro g
 · exact aH ⟨_, rfl, tno fun e => (by rw [hb.2 e.prog] at g; cases g), rfl⟩ (fun _ => rfl)
 have ok : ProgOk p.pure := hb.1 z98
 apply CaseB.mk <;> intro g
 · have q : ¬ s.places.length = p.threads.length := by simp at g; omega
   exact aH ⟨_, rfl, tno fun e => q (by have := e.np; simpa [StateH.pure, ProgH.pure] using this), rfl⟩ (fun _ => rfl)
 have c0 : s.places.length = p.threads.length := by simp at g; omega
 apply CaseB.mk <;> intro g
 · have q : ¬ s.status.length = p.threads.length := by simp at g; omega
   exact aH ⟨_, rfl, tno fun e => q (by have := e.ns; simpa [StateH.pure, ProgH.pure] using this), rfl⟩ (fun _ => rfl)
 have c1 : s.status.length = p.threads.length := by simp at g; omega
 refine aB _ cl145 rfl rfl rfl rfl ⟨rfl, rfl⟩ (fun A w hW => jZ0 p s w ⟨hW.get 0 rfl (.refl _), hW.get 1 rfl (.refl _), trivial⟩ ok hs) ?_
 rintro v L ⟨bb, rfl, hbb, rfl⟩
 apply CaseB.mk <;> intro g
 · exact aH ⟨_, rfl, tno fun e => (by rw [hbb.2 e.shared] at g; cases g), rfl⟩ (fun _ => rfl)
 have sh := hbb.1 z98
 apply CaseB.mk <;> intro g
 · have q : ¬ s.said.length ≤ 64 := by have g' := of_decide_eq_true g; omega
   exact aH ⟨_, rfl, tno fun e => q e.lsaid, rfl⟩ (fun _ => rfl)
 have c7 : s.said.length ≤ 64 := by have g' := of_decide_eq_false g; omega
 apply CaseB.mk <;> intro g
 · have q : ¬ 0 ≤ s.fault := by have g' := of_decide_eq_true g; omega
   exact aH ⟨_, rfl, tno fun e => q e.f0, rfl⟩ (fun _ => rfl)
 have c8 : 0 ≤ s.fault := by have g' := of_decide_eq_false g; omega
 apply CaseB.mk <;> intro g
 · have q : ¬ s.fault ≤ 4 := by have g' := of_decide_eq_true g; omega
   exact aH ⟨_, rfl, tno fun e => q e.f4, rfl⟩ (fun _ => rfl)
 have c9 : s.fault ≤ 4 := by have g' := of_decide_eq_false g; omega
 have n4 : p.threads.length ≤ 4 := by have := ok.n4; rwa [lt] at this
 refine LoopW.mk ⟨{ k : Nat // k ≤ s.said.length ∧ ∀ x ∈ s.said.take k, aV x = true },
   fun k => .mk [(2, .p 0 0), (3, .p 1 0), (5, .v (.int .i64 (p.threads.length : Int))), (6, .v (.int .i64 (k.1 : Int)))] 2 0 [(0, 26, 5), (1, 35, 9)] [((0, 0), .v (p.h0.val p.sems.length)), ((0, 1), .v (p.h1.val p.groups.length)), ((0, 2), .v (p.h2.val p.barriers.length)), ((0, 3), .v (p.h3.val p.rooms.length)), ((0, 4), .v (p.h4.val p.threads.length)), ((1, 0), .v (s.h0.val s.places.length)), ((1, 1), .v (s.h1.val s.status.length)), ((1, 2), .v (s.h2.val s.sems.length)), ((1, 3), .v (s.h3.val s.onces.length)), ((1, 4), .v (s.h4.val s.groups.length)), ((1, 5), .v (s.h5.val s.barriers.length)), ((1, 6), .v (s.h6.val s.chans.length)), ((1, 7), .v (s.h7.val s.said.length)), ((1, 8), .v (.int .i64 s.fault))] [fR (aY p), fR (aK s)],
   fun k => s.said.length - k.1, ⟨0, Nat.zero_le _, by simp⟩, ?_, ?_⟩
 · exact aC [0, 1] zw2 zw0 zw2 zw5 zw4 rfl rfl
 rintro ⟨k, hk, hinv⟩
 apply CaseB.mk <;> intro g
 · have hlt : k < s.said.length := by simpa using g
   have hw := bD k _ hlt (by omega)
   refine aG aE aA rfl rfl rfl rfl rfl ⟨rfl, rfl⟩ (aL 1 rfl (.ofR (fM s))) k rfl z43 (fun ad => ?_)
   refine aB _ pU rfl rfl rfl rfl ⟨rfl, rfl⟩ (fun A w hW => gF _ w) ?_
   rintro v L ⟨rfl, rfl⟩
   apply CaseB.mk <;> intro g
   · exact aH ⟨_, rfl, tno fun e => (by have := e.said _ (List.getElem_mem hlt); rw [this] at g; cases g), rfl⟩ (fun _ => rfl)
   have q1 : aV s.said[k] = true := by simpa using g
   refine ⟨⟨k + 1, by omega, fun x hm => ?_⟩, ?_, by simp only; omega⟩
   · rw [List.take_succ_eq_append_getElem hlt] at hm
     rcases List.mem_append.1 hm with hm | hm
     · exact hinv x hm
     · rw [List.mem_singleton.1 hm]; exact q1
   · exact aC [0, 1] zw1 zw0 zw1 zw5 zw3 rfl rfl
 have hge : s.said.length ≤ k := by simpa using g
 rw [List.take_of_length_le hge] at hinv
 have hF := kE0 ok sh (by rw [lt]; exact c0) (by rw [lt]; exact c1) c7 c8 c9 hinv
 rw [lt] at hF
 refine aB _ cl147 rfl rfl rfl rfl ⟨rfl, rfl⟩ (fun A w hW => kD0 p s w ⟨hW.get 0 rfl (.refl _), hW.get 1 rfl (.refl _), trivial⟩ ok sh) ?_
 rintro v L ⟨y, cs, bq, rfl, rfl, hb1, hb2⟩
 apply CaseB.mk <;> intro g
 · exact aH ⟨_, rfl, tno fun e => (by rw [hb1.2 (hF.1 e).1] at g; cases g), rfl⟩ (fun _ => rfl)
 have bt : bq = true := by simpa using g
 obtain ⟨hcl, hcs⟩ := hb2 bt
 have hev := hb1.1 bt
 refine LoopW.mk ⟨{ k : Nat // k ≤ p.threads.length ∧ ∀ (t : Nat) (ht : t < p.threads.length), t < k → nN s.pure (p.threads[t]).m t s.places[t] s.status[t] (aN (bH s.pure) t).length },
   fun k => .mk [(2, .p 0 0), (3, .p 1 0), (5, .v (.int .i64 (p.threads.length : Int))), (7, .v (y.val cs.length)), (9, .v (.int .i64 (k.1 : Int)))] 2 0 [(0, 26, 5), (1, 35, 9)] [((0, 0), .v (p.h0.val p.sems.length)), ((0, 1), .v (p.h1.val p.groups.length)), ((0, 2), .v (p.h2.val p.barriers.length)), ((0, 3), .v (p.h3.val p.rooms.length)), ((0, 4), .v (p.h4.val p.threads.length)), ((1, 0), .v (s.h0.val s.places.length)), ((1, 1), .v (s.h1.val s.status.length)), ((1, 2), .v (s.h2.val s.sems.length)), ((1, 3), .v (s.h3.val s.onces.length)), ((1, 4), .v (s.h4.val s.groups.length)), ((1, 5), .v (s.h5.val s.barriers.length)), ((1, 6), .v (s.h6.val s.chans.length)), ((1, 7), .v (s.h7.val s.said.length)), ((1, 8), .v (.int .i64 s.fault))] [own y 3 aJ 1 cs, fR (aY p), fR (aK s)],
   fun k => p.threads.length - k.1, ⟨0, Nat.zero_le _, fun t ht h => by omega⟩, ?_, ?_⟩
 · exact aC [0, 1, 2] zw2 zw0 zw2 zw5 zw4 rfl rfl
 rintro ⟨k, hk, hth⟩
 have hfull : ∀ (t : Nat) (ht : t < p.threads.length) ops at_ st, p.pure.threads[t]? = some ops → s.pure.places[t]? = some at_ → s.pure.status[t]? = some st → ops = (p.threads[t]).m ∧ at_ = s.places[t] ∧ st = s.status[t] := fun t ht ops at_ st h1 h2 h3 => by
   have e1 : p.pure.threads[t]? = some (p.threads[t]).m := by simp [ProgH.pure, ht]
   have e2 : s.pure.places[t]? = some s.places[t] := List.getElem?_eq_getElem (show t < s.places.length by omega)
   have e3 : s.pure.status[t]? = some s.status[t] := List.getElem?_eq_getElem (show t < s.status.length by omega)
   rw [e1] at h1; rw [e2] at h2; rw [e3] at h3
   injection h1 with h1; injection h2 with h2; injection h3 with h3
   exact ⟨h1.symm, h2.symm, h3.symm⟩
 have hone : Fits p.pure s.pure → ∀ (t : Nat) (ht : t < p.threads.length), nN s.pure (p.threads[t]).m t s.places[t] s.status[t] (aN (bH s.pure) t).length := fun e t ht =>
   (hF.1 e).2.1 t _ _ _ (by simp [ProgH.pure, ht]) (List.getElem?_eq_getElem (show t < s.places.length by omega)) (List.getElem?_eq_getElem (show t < s.status.length by omega))
 apply CaseB.mk <;> intro g
 · have hlt : k < p.threads.length := by simpa using g
   have hw := bD k _ hlt (by omega)
   have hkc : k < cs.length := by omega
   refine aF aA z102 z102 z102 200 [((0, 0), .v (p.h0.val p.sems.length)), ((0, 1), .v (p.h1.val p.groups.length)), ((0, 2), .v (p.h2.val p.barriers.length)), ((0, 3), .v (p.h3.val p.rooms.length)), ((0, 4), .v (p.h4.val p.threads.length)), ((1, 0), .v (s.h0.val s.places.length)), ((1, 1), .v (s.h1.val s.status.length)), ((1, 2), .v (s.h2.val s.sems.length)), ((1, 3), .v (s.h3.val s.onces.length)), ((1, 4), .v (s.h4.val s.groups.length)), ((1, 5), .v (s.h5.val s.barriers.length)), ((1, 6), .v (s.h6.val s.chans.length)), ((1, 7), .v (s.h7.val s.said.length)), ((1, 8), .v (.int .i64 s.fault))] [0] [_] z106 z111 ⟨rfl, trivial⟩ rfl ?_
   refine bO (ti := aU tab) aE aA rfl rfl rfl rfl rfl ⟨rfl, rfl⟩ (aL 0 rfl (Rd.own (o := false) (o' := false))) k rfl z43 (fun ad => ?_)
   rw [hcs k hkc]
   refine bN _ cl148 rfl rfl rfl rfl ⟨rfl, rfl⟩ (fun A w hW => kB0 p s k _ w ⟨hW.get 1 rfl (.refl _), hW.get 2 rfl (.refl _), trivial⟩ ok sh c0 c1 hlt) ?_
   rintro v L ⟨bt2, rfl, hbt, rfl⟩
   apply CaseB.mk <;> intro g
   · exact aH ⟨_, rfl, tno fun e => (by rw [hbt.2 (hone e k hlt)] at g; cases g), rfl⟩ (fun _ => rfl)
   have q1 := hbt.1 z98
   refine ⟨⟨k + 1, by omega, fun t ht h => ?_⟩, ?_, by simp only; omega⟩
   · by_cases e : t < k
     · exact hth t ht e
     · obtain rfl : t = k := by omega
       exact q1
   · exact aC [0, 1, 2] zw1 zw0 zw1 zw5 zw3 rfl rfl
 have hge : p.threads.length ≤ k := by simpa using g
 have hall : ∀ (t : Nat) (ht : t < p.threads.length), nN s.pure (p.threads[t]).m t s.places[t] s.status[t] (aN (bH s.pure) t).length := fun t ht => hth t ht (by omega)
 have hst : ∀ (t : Nat) (ht : t < p.threads.length), s.status[t] = 2 → 0 ≤ s.places[t] ∧ s.places[t] < (p.threads[t]).m.length := fun t ht h2 => by
   obtain ⟨a0, a1, h4⟩ := hall t ht
   rcases h4 with ⟨_, e2, _⟩ | ⟨op, e1, _⟩
   · omega
   · have := (List.getElem?_eq_some_iff.1 e1).1; omega
 refine aB _ cl149 rfl rfl rfl rfl ⟨rfl, rfl⟩ (fun A w hW => kC0 p s w ⟨hW.get 1 rfl (.refl _), hW.get 2 rfl (.refl _), trivial⟩ ok sh c0 c1 hst) ?_
 rintro v L ⟨bo, rfl, hbo, rfl⟩
 refine aH ⟨_, rfl, ?_, rfl⟩ (fun _ => rfl)
 rw [hbo, hF]
 constructor
 · intro e
   refine ⟨hev, fun t ops at_ st h1 h2 h3 => ?_, e⟩
   have ht : t < p.threads.length := by rw [← lt]; exact (List.getElem?_eq_some_iff.1 h1).1
   obtain ⟨rfl, rfl, rfl⟩ := hfull t ht _ _ _ h1 h2 h3
   exact hall t ht
 · intro e; exact e.2.2
end Go.Proofs.YtijmjecehppbfaaGreat
