/- FnFormatState: texts that its proof stands on, part 6. -/
import Derived.Shelf.Strings.OnBuilder
import Derived.Shelf.Strconv.Itoa3
import Derived.Test.YtchkcjeeknfchaaGreatDoorQFormatStatee
namespace Go.Proofs.YtchkcjeeknfchaaGreatDoor
set_option maxRecDepth 100000
set_option maxHeartbeats 100000000
open Go Go.Sx Go.RowKit
theorem hP0 {p : Prog} {s : State} (ok : ProgOk p) (sh : SharedOk p s) (np : s.places.length = p.threads.length) (ns : s.status.length = p.threads.length) (lsaid : s.said.length ≤ 64) (f0 : 0 ≤ s.fault) (f4 : s.fault ≤ 4) (said : ∀ v ∈ s.said, aR v = true) :
   Fits p s ↔ ((∀ e ∈ bB s, e.1 < (p.threads.length : Int)) ∧ (∀ (t : Nat) ops at_ st, p.threads[t]? = some ops → s.places[t]? = some at_ → s.status[t]? = some st → mA s ops t at_ st (aK (bB s) t).length) ∧ dU0 p s) := by
 have hop : ∀ (t : Nat) ops (at_ : Int) op, p.threads[t]? = some ops → ops[at_.toNat]? = some op → OpOk p op := fun t ops at_ op h1 h2 => (ok.ops _ (List.mem_of_getElem? h1)).2 _ (List.mem_of_getElem? h2)
 constructor
 · intro h
   refine ⟨fun e he => (h.ev e he).2, fun t ops at_ st h1 h2 h3 => ?_, fun i x hx h1 => ?_⟩
   · obtain ⟨a0, a1, h4⟩ := h.threads t ops at_ st h1 h2 h3
     refine ⟨a0, a1, ?_⟩
     rcases h4 with ⟨e1, e2, e3, e4⟩ | ⟨op, e1, e2⟩
     · exact .inl ⟨e1, e2, by rw [e3]; rfl⟩
     · refine .inr ⟨op, e1, ?_⟩
       rcases e2 with ⟨e2, e3, e4⟩ | ⟨e2, e3, e4⟩ | ⟨e2, e3, e4, e5⟩
       · exact .inl ⟨e2, by rw [e3]; rfl⟩
       · exact .inr (.inl ⟨e2, by rw [e4]; rfl, (xO (hop t ops at_ op h1 e1)).2 (by rw [e4]; simp)⟩)
       · refine .inr (.inr ⟨e2, by rw [e3]; rfl, e4, ?_⟩)
         have hm : op.on ∈ aK (bO s) t := by rw [e5]; simp
         obtain ⟨j, x, hx, h5, h6, h7⟩ := gH.1 hm
         exact ⟨x, by rw [h7]; simpa using hx, h5, h6⟩
   · have hm : (x.owner, (i : Int)) ∈ bO s := iH.1 (gH.2 ⟨i, x, hx, h1, rfl, rfl⟩)
     obtain ⟨o0, o1⟩ := h.ow _ hm
     simp only at o0 o1
     obtain ⟨t, ht⟩ : ∃ t : Nat, x.owner = t := ⟨_, (Int.toNat_of_nonneg o0).symm⟩
     have hlt : t < p.threads.length := by omega
     have hpl : t < s.places.length := by omega
     have hsl : t < s.status.length := by omega
     have hmem : (i : Int) ∈ aK (bO s) t := iH.2 (ht ▸ hm)
     obtain ⟨a0, a1, h4⟩ := h.threads t _ _ _ (List.getElem?_eq_getElem hlt) (List.getElem?_eq_getElem hpl) (List.getElem?_eq_getElem hsl)
     rcases h4 with ⟨e1, e2, e3, e4⟩ | ⟨op, e1, e2⟩
     · rw [e4] at hmem; cases hmem
     · rcases e2 with ⟨e2, e3, e4⟩ | ⟨e2, e3, e4⟩ | ⟨e2, e3, e4, e5⟩
       · rw [e4] at hmem; cases hmem
       · rw [e3] at hmem; cases hmem
       · rw [e5] at hmem
         exact ⟨t, ht, _, _, op, List.getElem?_eq_getElem hlt, by rw [List.getElem?_eq_getElem hsl, e2], List.getElem?_eq_getElem hpl, e1, (List.mem_singleton.1 hmem).symm⟩
 · rintro ⟨hev, hth, how⟩
   have own2 : ∀ (t : Nat) (i : Int), i ∈ aK (bO s) t → ∃ ops at_ op, p.threads[t]? = some ops ∧ s.status[t]? = some 2 ∧ s.places[t]? = some at_ ∧ ops[at_.toNat]? = some op ∧ op.on = i := by
     intro t i hm
     obtain ⟨j, x, hx, h1, h2, rfl⟩ := gH.1 hm
     obtain ⟨t', e1, ops, at_, op, e2, e3, e4, e5, e6⟩ := how j x hx h1
     obtain rfl : t' = t := by omega
     exact ⟨ops, at_, op, e2, e3, e4, e5, e6⟩
   have none : ∀ (t : Nat) st, s.status[t]? = some st → st ≠ 2 → aK (bO s) t = [] := fun t st h1 h2 => by
     refine List.eq_nil_iff_forall_not_mem.2 fun i hm => ?_
     obtain ⟨_, _, _, _, e, _⟩ := own2 t i hm
     rw [h1] at e; injection e with e; exact h2 e
   refine ⟨ok, np, ns, sh.lsems, sh.lgroups, sh.lbarriers, sh.lchans, sh.lonces, lsaid, f0, f4, sh.sems, sh.groups, sh.barriers, sh.chans, sh.onces, said, fun t ops at_ st h1 h2 h3 => ?_, fun e he => ⟨xN sh e he, hev e he⟩, fun e he => ?_⟩
   · obtain ⟨a0, a1, h4⟩ := hth t ops at_ st h1 h2 h3
     have l0 : ∀ {l : List Waiting}, ((l.length : Nat) : Int) = 0 → l = [] := fun h => List.eq_nil_of_length_eq_zero (by omega)
     refine ⟨a0, a1, ?_⟩
     rcases h4 with ⟨e1, e2, e3⟩ | ⟨op, e1, e2⟩
     · exact .inl ⟨e1, e2, l0 e3, none t st h3 (by omega)⟩
     · refine .inr ⟨op, e1, ?_⟩
       rcases e2 with ⟨e2, e3⟩ | ⟨e2, e3, e4⟩ | ⟨e2, e3, e4, x, e5, e6, e7⟩
       · exact .inl ⟨e2, l0 e3, none t st h3 (by omega)⟩
       · refine .inr (.inl ⟨e2, none t st h3 (by omega), ?_⟩)
         have hm := (xO (hop t ops at_ op h1 e1)).1 e4
         obtain ⟨a, ha⟩ : ∃ a, aK (bB s) t = [a] := List.length_eq_one_iff.1 (by omega)
         rw [ha] at hm ⊢
         rw [List.mem_singleton.1 hm]
       · have o0 := (hop t ops at_ op h1 e1).2.2.1
         refine .inr (.inr ⟨e2, l0 e3, e4, mI0 (yV s t) (gH.2 ⟨_, x, e5, e6, e7, by omega⟩) fun i hi => ?_⟩)
         obtain ⟨ops', at', op', g1, _, g3, g4, g5⟩ := own2 t i hi
         rw [h1] at g1; injection g1 with g1; subst g1
         rw [h2] at g3; injection g3 with g3; subst g3
         rw [e1] at g4; injection g4 with g4; subst g4
         exact g5.symm
   · obtain ⟨a, b⟩ := e
     obtain ⟨j, x, hx, h1, h2, h3⟩ := gH.1 (iH.2 he)
     obtain ⟨t, e1, ops, _, _, e2, _⟩ := how j x hx h1
     have := (List.getElem?_eq_some_iff.1 e2).1
     exact ⟨by simp only; omega, by simp only; omega⟩
theorem kP (p : ProgH) (s : StateH) (w : World) (h : At w [fR (bD p), fR (aJ s)]) (hp : p.pure.small20) (hs : s.pure.small20) :
   Calls Tryz.prog 15 #[eJ p, aM s] w (gC w (Fits p.pure s.pure)) := by
 have mlen : ∀ {α β : Type} (f : α → β) (xs : List α), (xs.map f).length = xs.length := fun f xs => by simp
 have lt : p.pure.threads.length = p.threads.length := mlen _ _
 refine cN Tryz.func15 rfl aA w _ rfl _ rfl _ h ⟨rfl, rfl, rfl, rfl, trivial⟩ _ _ (by decide) ?_
 refine aB _ jH0 rfl rfl rfl rfl ⟨rfl, rfl⟩ (fun A w hW => kO p w ⟨hW.get 0 rfl (.refl _), trivial⟩ ⟨hp.1, hp.2.1, hp.2.2.1, hp.2.2.2.1⟩) ?_
 rintro v L ⟨b, rfl, hb, rfl⟩
 apply CaseB.mk <;> intro g
 · exact aG ⟨_, rfl, tno fun e => (by rw [hb.2 e.prog] at g; cases g), rfl⟩ (fun _ => rfl)
 have ok : ProgOk p.pure := hb.1 z85
 apply CaseB.mk <;> intro g
 · have q : ¬ s.places.length = p.threads.length := by simp at g; omega
   exact aG ⟨_, rfl, tno fun e => q (by have := e.np; simpa [StateH.pure, ProgH.pure] using this), rfl⟩ (fun _ => rfl)
 have c0 : s.places.length = p.threads.length := by simp at g; omega
 apply CaseB.mk <;> intro g
 · have q : ¬ s.status.length = p.threads.length := by simp at g; omega
   exact aG ⟨_, rfl, tno fun e => q (by have := e.ns; simpa [StateH.pure, ProgH.pure] using this), rfl⟩ (fun _ => rfl)
 have c1 : s.status.length = p.threads.length := by simp at g; omega
 refine aB _ cl50 rfl rfl rfl rfl ⟨rfl, rfl⟩ (fun A w hW => hK0 p s w ⟨hW.get 0 rfl (.refl _), hW.get 1 rfl (.refl _), trivial⟩ ok hs) ?_
 rintro v L ⟨bb, rfl, hbb, rfl⟩
 apply CaseB.mk <;> intro g
 · exact aG ⟨_, rfl, tno fun e => (by rw [hbb.2 e.shared] at g; cases g), rfl⟩ (fun _ => rfl)
 have sh := hbb.1 z85
 apply CaseB.mk <;> intro g
 · have q : ¬ s.said.length ≤ 64 := by have g' := of_decide_eq_true g; omega
   exact aG ⟨_, rfl, tno fun e => q e.lsaid, rfl⟩ (fun _ => rfl)
 have c7 : s.said.length ≤ 64 := by have g' := of_decide_eq_false g; omega
 apply CaseB.mk <;> intro g
 · have q : ¬ 0 ≤ s.fault := by have g' := of_decide_eq_true g; omega
   exact aG ⟨_, rfl, tno fun e => q e.f0, rfl⟩ (fun _ => rfl)
 have c8 : 0 ≤ s.fault := by have g' := of_decide_eq_false g; omega
 apply CaseB.mk <;> intro g
 · have q : ¬ s.fault ≤ 4 := by have g' := of_decide_eq_true g; omega
   exact aG ⟨_, rfl, tno fun e => q e.f4, rfl⟩ (fun _ => rfl)
 have c9 : s.fault ≤ 4 := by have g' := of_decide_eq_false g; omega
 have n4 : p.threads.length ≤ 4 := by have := ok.n4; rwa [lt] at this
 refine LoopW.mk ⟨{ k : Nat // k ≤ s.said.length ∧ ∀ x ∈ s.said.take k, aR x = true },
   fun k => .mk [(2, .p 0 0), (3, .p 1 0), (5, .v (.int .i64 (p.threads.length : Int))), (6, .v (.int .i64 (k.1 : Int)))] 2 0 [(0, 38, 5), (1, 46, 9)] [((0, 0), .v (p.h0.val p.sems.length)), ((0, 1), .v (p.h1.val p.groups.length)), ((0, 2), .v (p.h2.val p.barriers.length)), ((0, 3), .v (p.h3.val p.rooms.length)), ((0, 4), .v (p.h4.val p.threads.length)), ((1, 0), .v (s.h0.val s.places.length)), ((1, 1), .v (s.h1.val s.status.length)), ((1, 2), .v (s.h2.val s.sems.length)), ((1, 3), .v (s.h3.val s.onces.length)), ((1, 4), .v (s.h4.val s.groups.length)), ((1, 5), .v (s.h5.val s.barriers.length)), ((1, 6), .v (s.h6.val s.chans.length)), ((1, 7), .v (s.h7.val s.said.length)), ((1, 8), .v (.int .i64 s.fault))] [fR (bD p), fR (aJ s)],
   fun k => s.said.length - k.1, ⟨0, Nat.zero_le _, by simp⟩, ?_, ?_⟩
 · exact aC [0, 1] zw2 zw0 zw2 zw5 zw4 rfl rfl
 rintro ⟨k, hk, hinv⟩
 apply CaseB.mk <;> intro g
 · have hlt : k < s.said.length := by simpa using g
   have hw := bA k _ hlt (by omega)
   refine aF aI aA rfl rfl rfl rfl rfl ⟨rfl, rfl⟩ (aN 1 rfl (.ofR (jP s))) k rfl z37 (fun ad => ?_)
   refine aB _ uE rfl rfl rfl rfl ⟨rfl, rfl⟩ (fun A w hW => eM _ w) ?_
   rintro v L ⟨rfl, rfl⟩
   apply CaseB.mk <;> intro g
   · exact aG ⟨_, rfl, tno fun e => (by have := e.said _ (List.getElem_mem hlt); rw [this] at g; cases g), rfl⟩ (fun _ => rfl)
   have q1 : aR s.said[k] = true := by simpa using g
   refine ⟨⟨k + 1, by omega, fun x hm => ?_⟩, ?_, by simp only; omega⟩
   · rw [List.take_succ_eq_append_getElem hlt] at hm
     rcases List.mem_append.1 hm with hm | hm
     · exact hinv x hm
     · rw [List.mem_singleton.1 hm]; exact q1
   · exact aC [0, 1] zw1 zw0 zw1 zw5 zw3 rfl rfl
 have hge : s.said.length ≤ k := by simpa using g
 rw [List.take_of_length_le hge] at hinv
 have hF := hP0 ok sh (by rw [lt]; exact c0) (by rw [lt]; exact c1) c7 c8 c9 hinv
 rw [lt] at hF
 refine aB _ cl52 rfl rfl rfl rfl ⟨rfl, rfl⟩ (fun A w hW => hO0 p s w ⟨hW.get 0 rfl (.refl _), hW.get 1 rfl (.refl _), trivial⟩ ok sh) ?_
 rintro v L ⟨y, cs, bq, rfl, rfl, hb1, hb2⟩
 apply CaseB.mk <;> intro g
 · exact aG ⟨_, rfl, tno fun e => (by rw [hb1.2 (hF.1 e).1] at g; cases g), rfl⟩ (fun _ => rfl)
 have bt : bq = true := by simpa using g
 obtain ⟨hcl, hcs⟩ := hb2 bt
 have hev := hb1.1 bt
 refine LoopW.mk ⟨{ k : Nat // k ≤ p.threads.length ∧ ∀ (t : Nat) (ht : t < p.threads.length), t < k → mA s.pure (p.threads[t]).m t s.places[t] s.status[t] (aK (bB s.pure) t).length },
   fun k => .mk [(2, .p 0 0), (3, .p 1 0), (5, .v (.int .i64 (p.threads.length : Int))), (7, .v (y.val cs.length)), (9, .v (.int .i64 (k.1 : Int)))] 2 0 [(0, 38, 5), (1, 46, 9)] [((0, 0), .v (p.h0.val p.sems.length)), ((0, 1), .v (p.h1.val p.groups.length)), ((0, 2), .v (p.h2.val p.barriers.length)), ((0, 3), .v (p.h3.val p.rooms.length)), ((0, 4), .v (p.h4.val p.threads.length)), ((1, 0), .v (s.h0.val s.places.length)), ((1, 1), .v (s.h1.val s.status.length)), ((1, 2), .v (s.h2.val s.sems.length)), ((1, 3), .v (s.h3.val s.onces.length)), ((1, 4), .v (s.h4.val s.groups.length)), ((1, 5), .v (s.h5.val s.barriers.length)), ((1, 6), .v (s.h6.val s.chans.length)), ((1, 7), .v (s.h7.val s.said.length)), ((1, 8), .v (.int .i64 s.fault))] [own y 3 aL 1 cs, fR (bD p), fR (aJ s)],
   fun k => p.threads.length - k.1, ⟨0, Nat.zero_le _, fun t ht h => by omega⟩, ?_, ?_⟩
 · exact aC [0, 1, 2] zw2 zw0 zw2 zw5 zw4 rfl rfl
 rintro ⟨k, hk, hth⟩
 have hfull : ∀ (t : Nat) (ht : t < p.threads.length) ops at_ st, p.pure.threads[t]? = some ops → s.pure.places[t]? = some at_ → s.pure.status[t]? = some st → ops = (p.threads[t]).m ∧ at_ = s.places[t] ∧ st = s.status[t] := fun t ht ops at_ st h1 h2 h3 => by
   have e1 : p.pure.threads[t]? = some (p.threads[t]).m := by simp [ProgH.pure, ht]
   have e2 : s.pure.places[t]? = some s.places[t] := List.getElem?_eq_getElem (show t < s.places.length by omega)
   have e3 : s.pure.status[t]? = some s.status[t] := List.getElem?_eq_getElem (show t < s.status.length by omega)
   rw [e1] at h1; rw [e2] at h2; rw [e3] at h3
   injection h1 with h1; injection h2 with h2; injection h3 with h3
   exact ⟨h1.symm, h2.symm, h3.symm⟩
 have hone : Fits p.pure s.pure → ∀ (t : Nat) (ht : t < p.threads.length), mA s.pure (p.threads[t]).m t s.places[t] s.status[t] (aK (bB s.pure) t).length := fun e t ht =>
   (hF.1 e).2.1 t _ _ _ (by simp [ProgH.pure, ht]) (List.getElem?_eq_getElem (show t < s.places.length by omega)) (List.getElem?_eq_getElem (show t < s.status.length by omega))
 apply CaseB.mk <;> intro g
 · have hlt : k < p.threads.length := by simpa using g
   have hw := bA k _ hlt (by omega)
   have hkc : k < cs.length := by omega
   refine aH aA z88 z88 z88 200 [((0, 0), .v (p.h0.val p.sems.length)), ((0, 1), .v (p.h1.val p.groups.length)), ((0, 2), .v (p.h2.val p.barriers.length)), ((0, 3), .v (p.h3.val p.rooms.length)), ((0, 4), .v (p.h4.val p.threads.length)), ((1, 0), .v (s.h0.val s.places.length)), ((1, 1), .v (s.h1.val s.status.length)), ((1, 2), .v (s.h2.val s.sems.length)), ((1, 3), .v (s.h3.val s.onces.length)), ((1, 4), .v (s.h4.val s.groups.length)), ((1, 5), .v (s.h5.val s.barriers.length)), ((1, 6), .v (s.h6.val s.chans.length)), ((1, 7), .v (s.h7.val s.said.length)), ((1, 8), .v (.int .i64 s.fault))] [0] [_] z90 z92 ⟨rfl, trivial⟩ rfl ?_
   refine bM (ti := aZ tab) aI aA rfl rfl rfl rfl rfl ⟨rfl, rfl⟩ (aN 0 rfl (Rd.own (o := false) (o' := false))) k rfl z37 (fun ad => ?_)
   rw [hcs k hkc]
   refine bV _ cl53 rfl rfl rfl rfl ⟨rfl, rfl⟩ (fun A w hW => hM0 p s k _ w ⟨hW.get 1 rfl (.refl _), hW.get 2 rfl (.refl _), trivial⟩ ok sh c0 c1 hlt) ?_
   rintro v L ⟨bt2, rfl, hbt, rfl⟩
   apply CaseB.mk <;> intro g
   · exact aG ⟨_, rfl, tno fun e => (by rw [hbt.2 (hone e k hlt)] at g; cases g), rfl⟩ (fun _ => rfl)
   have q1 := hbt.1 z85
   refine ⟨⟨k + 1, by omega, fun t ht h => ?_⟩, ?_, by simp only; omega⟩
   · by_cases e : t < k
     · exact hth t ht e
     · obtain rfl : t = k := by omega
       exact q1
   · exact aC [0, 1, 2] zw1 zw0 zw1 zw5 zw3 rfl rfl
 have hge : p.threads.length ≤ k := by simpa using g
 have hall : ∀ (t : Nat) (ht : t < p.threads.length), mA s.pure (p.threads[t]).m t s.places[t] s.status[t] (aK (bB s.pure) t).length := fun t ht => hth t ht (by omega)
 have hst : ∀ (t : Nat) (ht : t < p.threads.length), s.status[t] = 2 → 0 ≤ s.places[t] ∧ s.places[t] < (p.threads[t]).m.length := fun t ht h2 => by
   obtain ⟨a0, a1, h4⟩ := hall t ht
   rcases h4 with ⟨_, e2, _⟩ | ⟨op, e1, _⟩
   · omega
   · have := (List.getElem?_eq_some_iff.1 e1).1; omega
 refine aB _ cl54 rfl rfl rfl rfl ⟨rfl, rfl⟩ (fun A w hW => hN0 p s w ⟨hW.get 1 rfl (.refl _), hW.get 2 rfl (.refl _), trivial⟩ ok sh c0 c1 hst) ?_
 rintro v L ⟨bo, rfl, hbo, rfl⟩
 refine aG ⟨_, rfl, ?_, rfl⟩ (fun _ => rfl)
 rw [hbo, hF]
 constructor
 · intro e
   refine ⟨hev, fun t ops at_ st h1 h2 h3 => ?_, e⟩
   have ht : t < p.threads.length := by rw [← lt]; exact (List.getElem?_eq_some_iff.1 h1).1
   obtain ⟨rfl, rfl, rfl⟩ := hfull t ht _ _ _ h1 h2 h3
   exact hall t ht
 · intro e; exact e.2.2
theorem eY0 (s : Str) {a i : Nat} (h1 : a ≤ i) (h2 : i < s.length) : (s.drop a).take (i + 1 - a) = (s.drop a).take (i - a) ++ [s[i]] := by
 have e : i + 1 - a = (i - a) + 1 := by omega
 rw [e, List.take_succ_eq_append_getElem z74]
 congr 2
 rw [List.getElem_drop]
 congr 1
 omega
theorem xQ (a b : UInt8) : ((a.toNat : Int) = (b.toNat : Int)) ↔ a = b := by
 constructor
 · intro h; exact UInt8.toNat_inj.1 (by omega)
 · intro h; rw [h]
theorem dV0 (s : Str) (c : UInt8) (w : World) (hb : s.length ≤ 1000000) :
   Calls Tryz.prog 153 #[.string (bs s), .int .u8 (c.toNat : Int)] w (Ret w fun v L => ∃ y : Sl, v = y.val (fI c s).length ∧ L = [own y 9 pZ 1 (fI c s)]) := by
 refine cN Tryz.func153 rfl aA w _ rfl _ rfl [] trivial trivial _ _ (by decide) ?_
 refine AllSl.mk fun y0 => ?_
 refine LoopW.mk ⟨{ q : Nat × Nat × Sl × List Str // (q.1 ≤ s.length → q.2.1 ≤ q.1 ∧ fI c s = q.2.2.2 ++ sW c ((s.drop q.2.1).take (q.1 - q.2.1)) (s.drop q.1)) ∧ (s.length < q.1 → q.1 = s.length + 1 ∧ q.2.2.2 = fI c s) ∧ q.2.1 ≤ s.length + 1 ∧ q.2.2.2.length ≤ q.1 },
   fun q => .mk [(0, .v (.string (bs s))), (1, .v (.int .u8 (c.toNat : Int))), (5, .v (q.1.2.2.1.val q.1.2.2.2.length)), (6, .v (.int .i64 (q.1.2.1 : Int))), (7, .v (.int .i64 (q.1.1 : Int)))] 0 0 [] [] [own q.1.2.2.1 9 pZ 1 q.1.2.2.2],
   fun q => s.length + 1 - q.1.1, ⟨(0, 0, y0, []), fun _ => ⟨Nat.le_refl _, by simp [fI]⟩, fun h => z89, by simp, by simp⟩, ?_, ?_⟩
 · exact aC [0] zw2 zw0 zw2 zw5 zw4 rfl rfl
 rintro ⟨⟨i, a, y, out⟩, i1, i2, i3, i4⟩
 simp only at i1 i2 i3 i4 ⊢
 refine eA aA rfl rfl rfl rfl rfl rfl ⟨rfl, rfl⟩ ?_
 apply CaseB.mk <;> intro g
 · have hi : i ≤ s.length := by have := of_decide_eq_true g; omega
   obtain ⟨ha, hc⟩ := i1 hi
   have hw := bA i (s.length + 1) (by omega) (by omega)
   refine eA aA rfl rfl rfl rfl rfl rfl ⟨rfl, rfl⟩ ?_
   apply CaseB.mk <;> intro g
   · have hie : i = s.length := by have g' : (i : Int) = (s.length : Int) := z85; omega
     refine kT aA rfl rfl rfl ⟨rfl, rfl⟩ rfl rfl (a) (i) rfl rfl z37 z37 ?_
     refine AllSl.mk fun b3 => ?_
     refine bR dW 1 aA (xs := out) (ys := [(s.drop a).take (i - a)]) rfl rfl rfl rfl rfl rfl rfl rfl rfl (by decide) ⟨rfl, rfl⟩ rfl z31 z37 z37 (fun z3 => ?_)
     refine ⟨⟨(i + 1, i + 1, z3, out ++ [(s.drop a).take (i - a)]), fun h => by have h : i + 1 ≤ s.length := h; omega, fun _ => ⟨show i + 1 = s.length + 1 by omega, ?_⟩, show i + 1 ≤ s.length + 1 by omega, by simp; omega⟩, ?_, by simp only; omega⟩
     · rw [hc, List.drop_eq_nil_of_le (show s.length ≤ i by omega)]; rfl
     · exact aC [0] zw1 zw0 zw1 zw5 zw3 rfl rfl
   have hil : i < s.length := by have g' : ¬ (i : Int) = (s.length : Int) := z85; omega
   have hd : s.drop i = s[i] :: s.drop (i + 1) := List.drop_eq_getElem_cons hil
   refine gR aA rfl rfl rfl rfl ⟨rfl, rfl⟩ (i) rfl z37 ?_
   refine CaseB.mk (fun g2 => ?_) (fun g2 => ?_)
   · have e : s[i] = c := (xQ _ _).1 z82
     refine kT aA rfl rfl rfl ⟨rfl, rfl⟩ rfl rfl (a) (i) rfl rfl z37 z37 ?_
     refine AllSl.mk fun b3 => ?_
     refine bR dW 1 aA (xs := out) (ys := [(s.drop a).take (i - a)]) rfl rfl rfl rfl rfl rfl rfl rfl rfl (by decide) ⟨rfl, rfl⟩ rfl z31 z37 z37 (fun z3 => ?_)
     refine ⟨⟨(i + 1, i + 1, z3, out ++ [(s.drop a).take (i - a)]), fun _ => ⟨show i + 1 ≤ i + 1 by omega, ?_⟩, fun h => by have h : s.length < i + 1 := h; omega, show i + 1 ≤ s.length + 1 by omega, by simp; omega⟩, ?_, by simp only; omega⟩
     · rw [hc, hd, sW, if_pos e]; simp
     · exact aC [0] zw1 zw0 zw1 zw5 zw3 rfl rfl
   have e : ¬ s[i] = c := fun h => by rw [h] at g2; simp at g2
   refine ⟨⟨(i + 1, a, y, out), fun _ => ⟨show a ≤ i + 1 by omega, ?_⟩, fun h => by have h : s.length < i + 1 := h; omega, i3, show out.length ≤ i + 1 by omega⟩, ?_, by simp only; omega⟩
   · rw [hc, hd, sW, if_neg e, eY0 s ha hil]
   · exact aC [0] zw1 zw0 zw1 zw5 zw3 rfl rfl
 have hi : s.length < i := by have := of_decide_eq_false g; omega
 obtain ⟨_, e⟩ := i2 hi
 rw [← e]
 exact bY [0] ⟨y, rfl, rfl⟩ z118 rfl ⟨rfl, trivial⟩ (fun _ => rfl)
theorem cJ0 {a b : Nat} (h : a ≤ b) : 10 ^ a ≤ 10 ^ b := Nat.pow_le_pow_right (by decide) h
theorem tA {n : Int} {s : Str} {i : Nat} (h : i < s.length) : rV n (s.drop i) = if (s[i]).toNat < 48 ∨ 57 < (s[i]).toNat then none else rV (n * 10 + (((s[i]).toNat : Int) - 48)) (s.drop (i + 1)) := by
 rw [List.drop_eq_getElem_cons h, rV]
theorem hQ0 (s : Str) (w : World) (hb : s.length ≤ 1000000) :
   Calls Tryz.prog 165 #[.string (bs s)] w (Ret w fun v L => v = .tuple #[.int .i64 ((sY s).getD 0), .bool (sY s).isSome] ∧ L = []) := by
 generalize hM : sY s = M
 have hbad : vW s → M = none := fun h => by rw [← hM]; exact if_pos h
 refine bU Tryz.func165 rfl aA w _ rfl _ rfl [] trivial trivial _ (by decide) ?_
 refine eA aA rfl rfl rfl rfl rfl rfl ⟨rfl, rfl⟩ ?_
 apply CaseB.mk <;> intro g
 · have hpos : 0 < s.length := by have := of_decide_eq_true g; omega
   have hh : s.head? = some s[0] := by rw [List.head?_eq_getElem?, List.getElem?_eq_getElem hpos]
   refine gR aA rfl rfl rfl rfl ⟨rfl, rfl⟩ (0) rfl z37 ?_
   refine CaseB.mk (fun g2 => ?_) (fun g2 => ?_)
   refine kT aA rfl rfl rfl ⟨rfl, rfl⟩ rfl rfl (1) (s.length) rfl rfl z37 z37 ?_
   have hn : vV s = true := by rw [vV, hh]; exact decide_eq_true (congrArg some ((xQ _ 45).1 z82))
   have ht : lY s = (s.drop 1).take (s.length - 1) := by rw [lY, if_pos hn, List.take_of_length_le z74]
   have htl : (lY s).length ≤ 1000000 := by rw [ht]; simp; omega
   generalize (s.drop 1).take (s.length - 1) = t at ht ⊢
   generalize ((s[0].toNat : Int) == 45) = nb at g2 ⊢
   rw [← g2] at hn
   have hbad2 : t.length = 0 ∨ 17 < t.length ∨ (t.head? = some 48 ∧ (1 < t.length ∨ nb = true)) → M = none := fun h => hbad z75
   have hM2 : ¬ (t.length = 0 ∨ 17 < t.length ∨ (t.head? = some 48 ∧ (1 < t.length ∨ nb = true))) → M = (rV 0 t).map fun n => if nb = true then -n else n := fun h => by rw [← hM, sY, if_neg z75, ht, hn]
   rw [ht] at htl
   refine eA aA rfl rfl rfl rfl rfl rfl ⟨rfl, rfl⟩ ?_
   refine CaseB.mk (fun g3 => ?_) (fun g3 => ?_)
   · obtain rfl := hbad2 (.inl (by simpa using g3))
     exact aG ⟨rfl, rfl⟩ (fun _ => rfl)
   refine eA aA rfl rfl rfl rfl rfl rfl ⟨rfl, rfl⟩ ?_
   refine CaseB.mk (fun g4 => ?_) (fun g4 => ?_)
   · obtain rfl := hbad2 (.inr (.inl (by have := of_decide_eq_true g4; omega)))
     exact aG ⟨rfl, rfl⟩ (fun _ => rfl)
   have hp0 : 0 < t.length := by have h : ¬ (t.length : Int) = 0 := (by simpa using g3); omega
   have h17 : t.length ≤ 17 := by have := of_decide_eq_false g4; omega
   have hh2 : t.head? = some t[0] := by rw [List.head?_eq_getElem?, List.getElem?_eq_getElem hp0]
   refine gR aA rfl rfl rfl rfl ⟨rfl, rfl⟩ (0) rfl z37 ?_
   refine CaseB.mk (fun g5 => ?_) (fun g5 => ?_)
   · have e5 : t[0] = 48 := (xQ _ 48).1 (by simpa using g5)
     obtain rfl := hbad2 (.inr (.inr ⟨by rw [hh2, e5], .inr g2⟩))
     refine eA aA rfl rfl rfl rfl rfl rfl ⟨rfl, rfl⟩ ?_
     refine CaseB.mk (fun g6 => ?_) (fun g6 => ?_)
     · exact aG ⟨rfl, rfl⟩ (fun _ => rfl)
     refine CaseB.mk (fun g7 => ?_) (fun g7 => ?_)
     · exact aG ⟨rfl, rfl⟩ (fun _ => rfl)
     rw [g2] at g7; cases g7
   have hg : ¬ (t.length = 0 ∨ 17 < t.length ∨ (t.head? = some 48 ∧ (1 < t.length ∨ nb = true))) := by
     rintro (h | h | ⟨h, h'⟩)
     · omega
     · omega
     · rw [hh2] at h; rw [Option.some.inj h] at g5; simp at g5
   rotate_left
   have hn : vV s = false := by rw [vV, hh]; exact decide_eq_false (fun h => by rw [Option.some.inj h] at g2; simp at g2)
   have ht : lY s = s := by rw [lY, if_neg (by rw [hn]; decide)]
   have htl : (lY s).length ≤ 1000000 := by rw [ht]; exact hb
   generalize ((s[0].toNat : Int) == 45) = nb at g2 ⊢
   rw [← g2] at hn
   obtain ⟨t, rfl⟩ : ∃ t, t = s := ⟨s, rfl⟩
   have hbad2 : t.length = 0 ∨ 17 < t.length ∨ (t.head? = some 48 ∧ (1 < t.length ∨ nb = true)) → M = none := fun h => hbad z75
   have hM2 : ¬ (t.length = 0 ∨ 17 < t.length ∨ (t.head? = some 48 ∧ (1 < t.length ∨ nb = true))) → M = (rV 0 t).map fun n => if nb = true then -n else n := fun h => by rw [← hM, sY, if_neg z75, ht, hn]
   rw [ht] at htl
   refine eA aA rfl rfl rfl rfl rfl rfl ⟨rfl, rfl⟩ ?_
   refine CaseB.mk (fun g3 => ?_) (fun g3 => ?_)
   · obtain rfl := hbad2 (.inl (by simpa using g3))
     exact aG ⟨rfl, rfl⟩ (fun _ => rfl)
   refine eA aA rfl rfl rfl rfl rfl rfl ⟨rfl, rfl⟩ ?_
   refine CaseB.mk (fun g4 => ?_) (fun g4 => ?_)
   · obtain rfl := hbad2 (.inr (.inl (by have := of_decide_eq_true g4; omega)))
     exact aG ⟨rfl, rfl⟩ (fun _ => rfl)
   have hp0 : 0 < t.length := by have h : ¬ (t.length : Int) = 0 := (by simpa using g3); omega
   have h17 : t.length ≤ 17 := by have := of_decide_eq_false g4; omega
   have hh2 : t.head? = some t[0] := by rw [List.head?_eq_getElem?, List.getElem?_eq_getElem hp0]
   refine gR aA rfl rfl rfl rfl ⟨rfl, rfl⟩ (0) rfl z37 ?_
   refine CaseB.mk (fun g5 => ?_) (fun g5 => ?_)
   refine eA aA rfl rfl rfl rfl rfl rfl ⟨rfl, rfl⟩ ?_
   refine CaseB.mk (fun g6 => ?_) (fun g6 => ?_)
   · have e5 : t[0] = 48 := (xQ _ 48).1 (by simpa using g5)
     obtain rfl := hbad2 (.inr (.inr ⟨by rw [hh2, e5], .inl (by have := of_decide_eq_true g6; omega)⟩))
     exact aG ⟨rfl, rfl⟩ (fun _ => rfl)
   refine CaseB.mk (fun g7 => ?_) (fun g7 => ?_)
   · rw [g2] at g7; cases g7
   have hg : ¬ (t.length = 0 ∨ 17 < t.length ∨ (t.head? = some 48 ∧ (1 < t.length ∨ nb = true))) := by
     rintro (h | h | ⟨h, h'⟩)
     · omega
     · omega
     · have := of_decide_eq_false g6
       rcases h' with h' | h'
       · omega
       · rw [g7] at h'; cases h'
   rotate_left
   have hg : ¬ (t.length = 0 ∨ 17 < t.length ∨ (t.head? = some 48 ∧ (1 < t.length ∨ nb = true))) := by
     rintro (h | h | ⟨h, h'⟩)
     · omega
     · omega
     · rw [hh2] at h; rw [Option.some.inj h] at g5; simp at g5
   rotate_left
   all_goals
     have hG := hM2 hg
     refine LoopW.mk ⟨{ q : Nat × Int // q.1 ≤ t.length ∧ rV 0 t = rV q.2 (t.drop q.1) ∧ 0 ≤ q.2 ∧ q.2 < ((10 ^ q.1 : Nat) : Int) },
       fun q => .mk [(0, .v (.string (bs t))), (4, .v (.bool nb)), (5, .v (.int .i64 q.1.2)), (6, .v (.int .i64 (q.1.1 : Int)))] 0 0 [] [] [],
       fun q => t.length - q.1.1, ⟨(0, 0), Nat.zero_le _, rfl, by decide, by decide⟩, ?_, ?_⟩
     · exact aC [] zw2 zw0 zw2 zw5 zw4 rfl rfl
     rintro ⟨⟨i, n⟩, i1, i2, i3, i4⟩
     simp only at i1 i2 i3 i4 ⊢
     have hno : rV 0 t = none → M = none := fun h => by rw [hG, h]; rfl
     refine eA aA rfl rfl rfl rfl rfl rfl ⟨rfl, rfl⟩ ?_
     refine CaseB.mk (fun gi => ?_) (fun gi => ?_)
     · have hlt : i < t.length := by have := of_decide_eq_true gi; omega
       have hw := bA i _ hlt (by omega)
       refine gR aA rfl rfl rfl rfl ⟨rfl, rfl⟩ (i) rfl z37 ?_
       refine CaseB.mk (fun g8 => ?_) (fun g8 => ?_)
       · obtain rfl := hno (by rw [i2, tA hlt, if_pos (.inl (by have := of_decide_eq_true g8; omega))])
         exact aG ⟨rfl, rfl⟩ (fun _ => rfl)
       refine gR aA rfl rfl rfl rfl ⟨rfl, rfl⟩ (i) rfl z37 ?_
       refine CaseB.mk (fun g9 => ?_) (fun g9 => ?_)
       · obtain rfl := hno (by rw [i2, tA hlt, if_pos (.inr (by have := of_decide_eq_true g9; omega))])
         exact aG ⟨rfl, rfl⟩ (fun _ => rfl)
       have d0 : 48 ≤ (t[i].toNat : Int) := by have := of_decide_eq_false g8; omega
       have d9 : (t[i].toNat : Int) ≤ 57 := by have := of_decide_eq_false g9; omega
       have hp := cJ0 (show i ≤ 16 by omega)
       have hp2 : 10 ^ (i + 1) = 10 ^ i * 10 := Nat.pow_succ ..
       have e16 : 10 ^ 16 = 10000000000000000 := rfl
       have hv : IntKind.i64.wrap (IntKind.i64.wrap (n * 10) + IntKind.i64.wrap (IntKind.u8.wrap ((t[i].toNat : Int) - 48))) = n * 10 + ((t[i].toNat : Int) - 48) := by
         have w1 : IntKind.i64.wrap (n * 10) = n * 10 := cE (by omega) (by omega)
         have w2 : IntKind.u8.wrap ((t[i].toNat : Int) - 48) = (t[i].toNat : Int) - 48 := by rw [IntKind.wrap_u8]; omega
         have w3 : IntKind.i64.wrap ((t[i].toNat : Int) - 48) = (t[i].toNat : Int) - 48 := cE (by omega) (by omega)
         rw [w1, w2, w3, cE (by omega) (by omega)]
       refine gR aA rfl rfl rfl rfl ⟨rfl, rfl⟩ (i) rfl z37 ?_
       refine ⟨⟨(i + 1, n * 10 + ((t[i].toNat : Int) - 48)), hlt, ?_, show (0 : Int) ≤ n * 10 + ((t[i].toNat : Int) - 48) by omega, show n * 10 + ((t[i].toNat : Int) - 48) < ((10 ^ (i + 1) : Nat) : Int) by omega⟩, ?_, by simp only; omega⟩
       · rw [i2, tA hlt, if_neg (by omega)]
       · refine aC [] ?_ ?_ ?_ ?_ ?_ rfl rfl
         · exact zw17
         · exact zw0
         · exact zw17
         · exact zw5
         · repeat (first | exact trivial | refine ⟨.inl ⟨_, rfl, (by first | rfl | ((first | exact congrArg (fun z => SV.v (Value.int .i64 z)) hw | exact congrArg (fun z => SV.v (Value.int .i64 z)) hv)))⟩, ?_⟩ | refine ⟨.inr z111, ?_⟩)
     have hge : t.length ≤ i := by have := of_decide_eq_false gi; omega
     rw [List.drop_eq_nil_of_le hge] at i2
     have hMn : M = some (if nb = true then -n else n) := by rw [hG, i2]; rfl
     refine CaseB.mk (fun gn => ?_) (fun gn => ?_)
     · rw [hMn, gn]
       have hp := cJ0 (show i ≤ 17 by omega)
       have e17 : 10 ^ 17 = 100000000000000000 := rfl
       have hw : IntKind.i64.wrap (0 - n) = -n := by rw [IntKind.wrap_i64]; omega
       exact bY [] (v := .tuple #[.int .i64 (IntKind.i64.wrap (0 - n)), .bool true]) ⟨by rw [hw]; rfl, rfl⟩ trivial rfl trivial (fun _ => rfl)
     · rw [hMn, gn]
       exact aG ⟨rfl, rfl⟩ (fun _ => rfl)
 obtain rfl : s = [] := List.eq_nil_of_length_eq_zero z72
 obtain rfl := hbad (.inl rfl)
 refine eA aA rfl rfl rfl rfl rfl rfl ⟨rfl, rfl⟩ ?_
 refine CaseB.mk (fun g3 => ?_) (fun g3 => by simp at g3)
 exact aG ⟨rfl, rfl⟩ (fun _ => rfl)
theorem pD (k : Int) (w : World) : Calls Tryz.prog 179 #[.int .i64 k] w (Ret w fun v L => v = .int .i64 (gU k) ∧ L = []) := by
 refine bU Tryz.func179 rfl aA w _ rfl _ rfl [] trivial trivial _ (by decide) ?_
 repeat' (refine CaseB.mk (fun h => ?_) (fun h => ?_))
 all_goals
   simp only [beq_iff_eq, beq_eq_false_iff_ne] at *
   first
     | (exfalso; omega)
     | (refine aG ⟨?_, rfl⟩ (fun _ => rfl); simp [gU, *])
theorem hR0 (k : Int) (w : World) : Calls Tryz.prog 119 #[.int .i64 k] w (Ret w fun v L => v = .string (bs (eW k)) ∧ L = []) := by
 refine bU Tryz.func119 rfl aA w _ rfl _ rfl [] trivial trivial _ (by decide) ?_
 refine AllSl.mk fun l => ?_
 refine CaseB.mk (fun h => ?_) (fun h => ?_)
 · have e : eW k = [] := if_pos (.inl (by have := of_decide_eq_true h; omega))
   rw [e]
   exact aG ⟨rfl, rfl⟩ (fun _ => rfl)
 refine CaseB.mk (fun h2 => ?_) (fun h2 => ?_)
 · have e : eW k = [] := if_pos (.inr (by have := of_decide_eq_true h2; omega))
   rw [e]
   exact aG ⟨rfl, rfl⟩ (fun _ => rfl)
 have h1 : 1 ≤ k := by have := of_decide_eq_false h; omega
 have h10 : k ≤ 10 := by have := of_decide_eq_false h2; omega
 obtain ⟨j, rfl⟩ : ∃ j : Nat, k = j := ⟨k.toNat, (Int.toNat_of_nonneg (by omega)).symm⟩
 have hj : j < wordsL.length := by show j < 11; omega
 have e : eW (j : Int) = wordsL[j] := by rw [eW, if_neg (by omega), Int.toNat_natCast, List.getD_eq_getElem?_getD, List.getElem?_eq_getElem hj]; rfl
 rw [e]
 refine aF dW (xs := wordsL) aA rfl rfl rfl rfl rfl ⟨rfl, rfl⟩ (bF 0 rfl) j rfl hj (fun ad => ?_)
 exact aG ⟨rfl, rfl⟩ (fun _ => rfl)
theorem aS0 {G : List Fct} (k : Nat) {old : Bool} {i : Sl} {e m : Nat} {cs : List Value} {s : Str} (hk : G[k]? = some (gX old i e 1 cs m)) (hm : m = s.length) (hc : cs = s.map fun b => .int .u8 (b.toNat : Int)) : ∀ w, (∀ f ∈ G, f.P w) → RdS w i 1 (s.map fun b => .int .u8 (b.toNat : Int)) s.length := by
 subst hm; subst hc; exact bF k hk
theorem eZ0 (f n : Nat) (out : Str) (h : 9 < n) : nQ (f + 1) n out = nQ f (n / 10) (UInt8.ofNat (48 + n % 10) :: out) := if_pos h
theorem lJ0 (d : Nat) (h : d < 10) : IntKind.u8.wrap (IntKind.i64.wrap (48 + (d : Int))) = ((UInt8.ofNat (48 + d)).toNat : Int) := by
 have e : (UInt8.ofNat (48 + d)).toNat = 48 + d := by rw [UInt8.toNat_ofNat']; omega
 rw [e, cE (by omega) (by omega), IntKind.wrap_u8]; omega
theorem hS0 (n : Nat) (w : World) (hn : n < 1000000000000000000) : Calls Tryz.prog 23 #[.int .i64 (n : Int)] w (Ret w fun v L => v = .string (bs (nQ 19 n [])) ∧ L = []) := by
 refine bU Tryz.func23 rfl aA w _ rfl _ rfl [] trivial trivial _ (by decide) ?_
 refine CaseB.mk (fun g => by have := of_decide_eq_true g; omega) (fun _ => ?_)
 refine CaseB.mk (fun g => by have := of_decide_eq_true g; omega) (fun _ => ?_)
 refine LoopW.mk ⟨{ q : Nat × Nat × Str // nQ 19 n [] = nQ q.1 q.2.1 q.2.2 ∧ q.2.1 < 10 ^ q.1 ∧ 1 ≤ q.1 ∧ q.2.2.length + q.1 ≤ 19 ∧ q.2.1 < 1000000000000000000 },
   fun q => .mk [(0, .v (.int .i64 (q.1.2.1 : Int))), (3, .v (.string (bs q.1.2.2)))] 0 0 [] [] [],
   fun q => q.1.1, ⟨(19, n, []), rfl, by show n < 10 ^ 19; omega, by show 1 ≤ 19; omega, by simp, hn⟩, ?_, ?_⟩
 · exact aC [] zw2 zw0 zw2 zw5 zw4 rfl rfl
 rintro ⟨⟨f, m, out⟩, i1, i2, i3, i4, i5⟩
 simp only at i1 i2 i3 i4 i5 ⊢
 apply CaseB.mk <;> intro g
 · have h9 : 9 < m := by have := of_decide_eq_true g; omega
   obtain ⟨f, rfl⟩ : ∃ f', f = f' + 1 := ⟨f - 1, by omega⟩
   have hp : 10 ^ (f + 1) = 10 ^ f * 10 := Nat.pow_succ ..
   have hf : 1 ≤ f := by
     rcases Nat.eq_zero_or_pos f with h | h
     · subst h; simp at i2; omega
     · exact h
   refine bJ rfl rfl rfl ⟨rfl, rfl⟩ (.int .i64 ((m % 10 : Nat) : Int)) (fun w => dX w) (fun w => rD (by omega) (by rw [Int.tmod_eq_emod_of_nonneg (by omega)]; omega) w) ?_
   refine AllSl.mk fun b => ?_
   refine aN0 (s := [UInt8.ofNat (48 + m % 10)]) aA rfl rfl rfl rfl rfl ⟨rfl, rfl⟩ (aS0 0 rfl rfl (by rw [lJ0 (m % 10) (by omega)]; rfl)) (Nat.zero_lt_one) ?_
   refine bJ rfl rfl rfl ⟨rfl, rfl⟩ (.string (bs ([UInt8.ofNat (48 + m % 10)] ++ out))) (fun w => aO w) (fun w => bP z51 w) ?_
   refine bJ rfl rfl rfl ⟨rfl, rfl⟩ (.int .i64 ((m / 10 : Nat) : Int)) (fun w => dX w) (fun w => yK (by omega) (by rw [Int.tdiv_eq_ediv_of_nonneg (by omega), cE (by omega) (by omega)]; omega) w) ?_
   refine ⟨⟨(f, m / 10, UInt8.ofNat (48 + m % 10) :: out), i1.trans (eZ0 f m out h9), show m / 10 < 10 ^ f by omega, hf, by simp only [List.length_cons]; omega, show m / 10 < 1000000000000000000 by omega⟩, ?_, by simp only; omega⟩
   exact aC [] zw2 zw0 zw2 zw5 zw4 rfl rfl
 have h9 : m ≤ 9 := by have := of_decide_eq_false g; omega
 obtain ⟨f, rfl⟩ : ∃ f', f = f' + 1 := ⟨f - 1, by omega⟩
 refine AllSl.mk fun b => ?_
 refine aN0 (s := [UInt8.ofNat (48 + m)]) aA rfl rfl rfl rfl rfl ⟨rfl, rfl⟩ (aS0 0 rfl rfl (by rw [lJ0 m (by omega)]; rfl)) (Nat.zero_lt_one) ?_
 refine bJ rfl rfl rfl ⟨rfl, rfl⟩ (.string (bs ([UInt8.ofNat (48 + m)] ++ out))) (fun w => aO w) (fun w => bP z51 w) ?_
 have e : nQ 19 n [] = [UInt8.ofNat (48 + m)] ++ out := by rw [i1, nQ, if_neg (by omega)]; rfl
 rw [e]
 exact aG ⟨rfl, rfl⟩ (fun _ => rfl)
theorem vZ (n : Int) (w : World) (h1 : -1000000000000000000 < n) (h2 : n < 1000000000000000000) : Calls Tryz.prog 23 #[.int .i64 n] w (Ret w fun v L => v = .string (bs (dF n)) ∧ L = []) := by
 by_cases hn : 0 ≤ n
 · obtain ⟨k, rfl⟩ : ∃ k : Nat, n = k := ⟨n.toNat, (Int.toNat_of_nonneg hn).symm⟩
   have e : dF (k : Int) = nQ 19 k [] := by rw [dF, if_neg (by omega)]; rfl
   rw [e]
   exact hS0 k w (by omega)
 obtain ⟨k, rfl⟩ : ∃ k : Nat, n = -(k : Int) := ⟨(-n).toNat, by omega⟩
 have e : dF (-(k : Int)) = [45] ++ nQ 19 k [] := by
   rw [dF, if_pos (by omega), show (-(k : Int)).natAbs = k by omega]; rfl
 rw [e]
 have hw : IntKind.i64.wrap (0 - -(k : Int)) = (k : Int) := by rw [cE] <;> omega
 refine bU Tryz.func23 rfl aA w _ rfl _ rfl [] trivial trivial _ (by decide) ?_
 refine CaseB.mk (fun g => by have := of_decide_eq_true g; omega) (fun _ => ?_)
 refine CaseB.mk (fun g => ?_) (fun g => by have := of_decide_eq_false g; omega)
 refine aB _ aA0 rfl rfl rfl rfl ⟨rfl, rfl⟩ (fun A w hW => (by rw [hw]; exact hS0 k w (by omega))) ?_
 rintro v L ⟨rfl, rfl⟩
 have hl := rX 19 k []
 refine bJ rfl rfl rfl ⟨rfl, rfl⟩ (.string (bs ([45] ++ (nQ 19 k [])))) (fun w => aO w) (fun w => bP (by simp only [List.length_cons, List.length_nil] at hl ⊢; omega) w) ?_
 exact aG ⟨rfl, rfl⟩ (fun _ => rfl)
def dW0 (p : ProgH) (s : StateH) (v : Value) (L : List Fct) : Prop := ∃ t : Str, v = .string (bs t) ∧ (Fits p.pure s.pure → t = qD s.pure) ∧ (¬ Fits p.pure s.pure → t = []) ∧ L = []
theorem dX0 (s : StateH) {k : Nat} (h : k < s.said.length) : (s.said.map dF).take (k + 1) = (s.said.map dF).take k ++ [dF s.said[k]] := by
 rw [List.take_succ_eq_append_getElem (by rw [List.length_map]; exact h), List.getElem_map]
theorem aT0 (p : ProgH) (s : StateH) (w : World) (h : At w [fR (bD p), fR (aJ s)]) (hp : p.pure.small20) (hs : s.pure.small20) :
   Calls Tryz.prog 7 #[eJ p, aM s] w (Ret w (dW0 p s)) := by
 have hb : s.status.length ≤ 1048576 := hs.2.1
 refine cN Tryz.func7 rfl aA w _ rfl _ rfl _ h ⟨rfl, rfl, rfl, rfl, trivial⟩ _ _ (by decide) ?_
 refine aB _ jF0 rfl rfl rfl rfl ⟨rfl, rfl⟩ (fun A w hW => kP p s w ⟨hW.get 0 rfl (.refl _), hW.get 1 rfl (.refl _), trivial⟩ hp hs) ?_
 rintro v L ⟨b, rfl, hbb, rfl⟩
 apply CaseB.mk <;> intro g
 · have n : ¬ Fits p.pure s.pure := fun e => by rw [hbb.2 e] at g; cases g
   exact aG ⟨[], rfl, fun e => (n e).elim, fun _ => rfl, rfl⟩ (fun _ => rfl)
 have ft := hbb.1 z85
 obtain ⟨hlen, h1, h4, hpl, hsl, hsd, f0, f4⟩ := ft.textOk
 have hpn : (cD s.places s.status).length = s.places.length := jT hlen
 refine AllSl.mk fun l => ?_
 refine LoopW.mk ⟨{ q : Nat × Str // q.1 ≤ s.places.length ∧ q.2 = dS ((cD s.places s.status).take q.1) ∧ q.2.length ≤ 40 * q.1 },
   fun q => .mk [(3, .p 1 0), (5, .v (l.val 4)), (6, .v (.string (bs q.1.2))), (7, .v (.int .i64 (q.1.1 : Int)))] 2 0 [(0, 38, 5), (1, 46, 9)] [((1, 0), .v (s.h0.val s.places.length)), ((1, 1), .v (s.h1.val s.status.length)), ((1, 7), .v (s.h7.val s.said.length)), ((1, 8), .v (.int .i64 s.fault))] [own l 9 pZ 1 signsL, fR (aJ s)],
   fun q => s.places.length - q.1.1, ⟨(0, []), Nat.zero_le _, rfl, by simp⟩, ?_, ?_⟩
 · exact aC [0, 2] zw2 zw0 zw2 zw5 zw4 rfl rfl
 rintro ⟨⟨i, out⟩, i1, i2, i3⟩
 simp only at i1 i2 i3 ⊢
 apply CaseB.mk <;> intro g
 · have hlt : i < s.places.length := by simpa using g
   have hlt2 : i < s.status.length := by omega
   have hw := bA i _ hlt (by omega)
   obtain ⟨⟨a0, a8⟩, t0, t3⟩ := hpl i hlt hlt2
   obtain ⟨j, hjl, hj, hsg⟩ := vX _ t0 t3
   have sl := sZ s.status[i]
   have dl := gG s.places[i]
   have hd1 : -1000000000000000000 < s.places[i] := by omega
   have hd2 : s.places[i] < 1000000000000000000 := by omega
   have nx := eW0 (lJ s.places[i] s.status[i]) (xs := (cD s.places s.status).take i) (n := i) (by rw [List.length_take]; omega)
   rw [← tU hlen hlt hlt2, ← i2] at nx
   refine CaseB.mk (fun g2 => ?_) (fun g2 => ?_)
   have i0 : ¬ i = 0 := by have := of_decide_eq_true g2; omega
   rw [if_neg i0] at nx
   refine bJ rfl rfl rfl ⟨rfl, rfl⟩ (.string (bs (out ++ [32]))) (fun w => aO w) (fun w => bP z51 w) ?_
   have ol : (out ++ [32]).length ≤ 40 * i + 1 := by simp only [List.length_append, List.length_cons, List.length_nil]; omega
   generalize out ++ [32] = o2 at nx ol ⊢
   rotate_left
   have i0 : i = 0 := by have := of_decide_eq_false g2; omega
   rw [if_pos i0] at nx
   have ol : out.length ≤ 40 * i + 1 := by omega
   generalize out = o2 at nx ol ⊢
   rotate_left
   all_goals
     refine aH aA z88 z88 z88 200 [((1, 0), .v (s.h0.val s.places.length)), ((1, 1), .v (s.h1.val s.status.length))] [0, 1] [_, _] z107 z116 ⟨rfl, rfl, trivial⟩ rfl ?_
     refine bM (ti := aZ tab) aI aA rfl rfl rfl rfl rfl ⟨rfl, rfl⟩ (aN 1 rfl (.ofR (fY s))) i rfl z37 (fun ad => ?_)
     refine bM (ti := aZ tab) aI aA rfl rfl rfl rfl rfl ⟨rfl, rfl⟩ (aN 1 rfl (.ofR (cR s))) i rfl z37 (fun ad2 => ?_)
     refine bM (ti := aZ tab) dW aA rfl rfl rfl rfl rfl ⟨rfl, rfl⟩ (bF 0 rfl) j hj z37 (fun ad3 => ?_)
     refine bV _ aA0 rfl rfl rfl rfl ⟨rfl, rfl⟩ (fun A w hW => (vZ _ w hd1 hd2)) ?_
     rintro v L ⟨rfl, rfl⟩
     refine jB rfl rfl rfl ⟨rfl, rfl⟩ (.string (bs (o2 ++ (dF s.places[i])))) (fun w => aO w) (fun w => bP (by omega) w) ?_
     have hle : (o2 ++ dF s.places[i]).length + (signsL[j]).length ≤ 9223372036854775807 := by rw [hsg, List.length_append]; omega
     refine jB rfl rfl rfl ⟨rfl, rfl⟩ (.string (bs ((o2 ++ dF s.places[i]) ++ (signsL[j])))) (fun w => aO w) (fun w => bP hle w) ?_
     have hnl : ((o2 ++ dF s.places[i]) ++ signsL[j]).length ≤ 40 * (i + 1) := by rw [hsg]; simp only [List.length_append]; omega
     refine ⟨⟨(i + 1, (o2 ++ dF s.places[i]) ++ signsL[j]), by omega, ?_, hnl⟩, ?_, by simp only; omega⟩
     · rw [nx, hsg, lJ, List.append_assoc]
     · exact aC [0, 1] zw1 zw0 zw1 zw5 zw3 rfl rfl
 have hie : i = s.places.length := by have := of_decide_eq_false g; omega
 subst hie
 rw [List.take_of_length_le (by omega)] at i2
 refine bJ rfl rfl rfl ⟨rfl, rfl⟩ (.string (bs (out ++ [32, 124]))) (fun w => aO w) (fun w => bP z51 w) ?_
 have hne : cD s.places s.status ≠ [] := fun e => by rw [e] at hpn; simp at hpn; omega
 have e2 : out ++ [32, 124] = dS ((cD s.places s.status ++ [[124]]) ++ (s.said.map dF).take 0) := by rw [List.take_zero, List.append_nil, jG _ hne, i2]
 have l2 : (out ++ [32, 124]).length ≤ 162 := by simp only [List.length_append, List.length_cons, List.length_nil]; omega
 generalize out ++ [32, 124] = o2 at e2 l2 ⊢
 refine LoopW.mk ⟨{ q : Nat × Str // q.1 ≤ s.said.length ∧ q.2 = dS ((cD s.places s.status ++ [[124]]) ++ (s.said.map dF).take q.1) ∧ q.2.length ≤ 162 + 40 * q.1 },
   fun q => .mk [(3, .p 1 0), (6, .v (.string (bs q.1.2))), (8, .v (.int .i64 (q.1.1 : Int)))] 2 0 [(0, 38, 5), (1, 46, 9)] [((1, 7), .v (s.h7.val s.said.length)), ((1, 8), .v (.int .i64 s.fault))] [fR (aJ s)],
   fun q => s.said.length - q.1.1, ⟨(0, o2), Nat.zero_le _, e2, l2⟩, ?_, ?_⟩
 · exact aC [1] zw2 zw0 zw2 zw5 zw4 rfl rfl
 rintro ⟨⟨k, ot⟩, k1, k2, k3⟩
 simp only at k1 k2 k3 ⊢
 apply CaseB.mk <;> intro g
 · have hlt : k < s.said.length := by simpa using g
   have hw := bA k _ hlt (by omega)
   obtain ⟨a0, a9⟩ := hsd k hlt
   have dl := gG s.said[k]
   have hd1 : -1000000000000000000 < s.said[k] := by omega
   have hd2 : s.said[k] < 1000000000000000000 := by omega
   refine bJ rfl rfl rfl ⟨rfl, rfl⟩ (.string (bs (ot ++ [32]))) (fun w => aO w) (fun w => bP z51 w) ?_
   refine aF aI aA rfl rfl rfl rfl rfl ⟨rfl, rfl⟩ (aN 0 rfl (.ofR (jP s))) k rfl z37 (fun ad => ?_)
   refine aB _ aA0 rfl rfl rfl rfl ⟨rfl, rfl⟩ (fun A w hW => (vZ _ w hd1 hd2)) ?_
   rintro v L ⟨rfl, rfl⟩
   refine bJ rfl rfl rfl ⟨rfl, rfl⟩ (.string (bs ((ot ++ [32]) ++ (dF s.said[k])))) (fun w => aO w) (fun w => bP z51 w) ?_
   refine ⟨⟨(k + 1, (ot ++ [32]) ++ dF s.said[k]), by omega, ?_, by simp only [List.length_append, List.length_cons, List.length_nil]; omega⟩, ?_, by simp only; omega⟩
   · rw [dX0 s hlt, ← List.append_assoc, jG _ (by simp), ← k2]; simp
   · exact aC [0] zw1 zw0 zw1 zw5 zw3 rfl rfl
 have hke : k = s.said.length := by have := of_decide_eq_false g; omega
 subst hke
 rw [List.take_of_length_le (by rw [List.length_map]; omega)] at k2
 have hA : (cD s.places s.status ++ [[124]]) ++ s.said.map dF = nS s.pure := by rw [List.append_assoc]; rfl
 rw [hA] at k2
 apply CaseB.mk <;> intro g
 · have n0 : ¬ s.fault = 0 := by simpa using g
   obtain ⟨j, hjl, hj, hsg⟩ := tT _ f0 f4
   have fl := qS s.fault
   refine AllSl.mk fun l2 => ?_
   refine bJ rfl rfl rfl ⟨rfl, rfl⟩ (.string (bs (ot ++ [32, 102, 97, 117, 108, 116, 32]))) (fun w => aO w) (fun w => bP z51 w) ?_
   refine aF dW aA rfl rfl rfl rfl rfl ⟨rfl, rfl⟩ (bF 0 rfl) j hj z37 (fun ad => ?_)
   have hle : (ot ++ [32, 102, 97, 117, 108, 116, 32]).length + (faultsL[j]).length ≤ 9223372036854775807 := by rw [hsg, List.length_append]; simp only [List.length_cons, List.length_nil]; omega
   refine bJ rfl rfl rfl ⟨rfl, rfl⟩ (.string (bs ((ot ++ [32, 102, 97, 117, 108, 116, 32]) ++ (faultsL[j])))) (fun w => aO w) (fun w => bP hle w) ?_
   refine aG ⟨_, rfl, fun _ => ?_, fun e => (e ft).elim, rfl⟩ (fun _ => rfl)
   rw [pB, if_neg (show ¬ s.pure.fault = 0 from n0), hI0 _ _ (by rw [← hA]; simp), ← k2, hsg]
   simp only [List.append_assoc, List.cons_append, List.nil_append]
   rfl
 have z0 : s.fault = 0 := by simpa using g
 refine aG ⟨_, rfl, fun _ => ?_, fun e => (e ft).elim, rfl⟩ (fun _ => rfl)
 rw [pB, if_pos (show s.pure.fault = 0 from z0), List.append_nil, ← k2]
end Go.Proofs.YtchkcjeeknfchaaGreatDoor
namespace Go.Proofs.YtchkcjeeknfchaaGreatDoor
set_option maxRecDepth 100000
set_option maxHeartbeats 100000000
open Go Go.Sx Go.RowKit Go.Shelf
def aU0 : Go.Shelf.Ren := ⟨fun | 171 => 31 | 243 => 67 | 246 => 105 | 283 => 128 | 284 => 129 | 285 => 130 | 286 => 131 | 129 => 149 | 317 => 148 | 318 => 150 | 319 => 151 | 320 => 152 | 337 => 163 | 338 => 164 | n => n, fun | 3 => 3 | 9 => 9 | 2 => 2 | 4 => 4 | 171 => 196 | 0 => 0 | 53 => 197 | 37 => 51 | 5 => 5 | 173 => 200 | 212 => 224 | 51 => 225 | 20 => 20 | 213 => 226 | 46 => 227 | 232 => 263 | 233 => 264 | n => n, fun | 17 => 0 | 18 => 2 | 19 => 3 | n => n⟩
theorem kA0 : Lays.n171 Tryz.prog aU0 := {
 mixed := by kernel_rfl
 f129 := Tryz.func149.trans (congrArg some z88)
 f171 := Tryz.func31.trans (congrArg some z88)
 f243 := Tryz.func67.trans (congrArg some z88)
 f246 := Tryz.func105.trans (congrArg some z88)
 f283 := Tryz.func128.trans (congrArg some z88)
 f284 := Tryz.func129.trans (congrArg some z88)
 f285 := Tryz.func130.trans (congrArg some z88)
 f286 := Tryz.func131.trans (congrArg some z88)
 f317 := Tryz.func148.trans (congrArg some z88)
 f318 := Tryz.func150.trans (congrArg some z88)
 f319 := Tryz.func151.trans (congrArg some z88)
 f320 := Tryz.func152.trans (congrArg some z88)
 f337 := Tryz.func163.trans (congrArg some z88)
 f338 := Tryz.func164.trans (congrArg some z88)
 t0 := Tryz.underlying0
 a0 := Tryz.isAgg0
 z0 := Tryz.sizeOf0
 v0 := Tryz.zeroValue0
 t2 := Tryz.underlying2
 a2 := Tryz.isAgg2
 z2 := Tryz.sizeOf2
 v2 := Tryz.zeroValue2
 t3 := Tryz.underlying3
 a3 := Tryz.isAgg3
 z3 := Tryz.sizeOf3
 v3 := Tryz.zeroValue3
 t4 := Tryz.underlying4
 a4 := Tryz.isAgg4
 z4 := Tryz.sizeOf4
 v4 := Tryz.zeroValue4
 t5 := Tryz.underlying5
 a5 := Tryz.isAgg5
 z5 := Tryz.sizeOf5
 v5 := Tryz.zeroValue5
 t9 := Tryz.underlying9
 a9 := Tryz.isAgg9
 z9 := Tryz.sizeOf9
 v9 := Tryz.zeroValue9
 t20 := Tryz.underlying20
 a20 := Tryz.isAgg20
 z20 := Tryz.sizeOf20
 v20 := Tryz.zeroValue20
 t37 := Tryz.underlying51
 a37 := Tryz.isAgg51
 z37 := Tryz.sizeOf51
 v37 := Tryz.zeroValue51
 t46 := Tryz.underlying227
 a46 := Tryz.isAgg227
 z46 := Tryz.sizeOf227
 v46 := Tryz.zeroValue227
 t51 := Tryz.underlying225
 a51 := Tryz.isAgg225
 z51 := Tryz.sizeOf225
 v51 := Tryz.zeroValue225
 t53 := Tryz.underlying197
 a53 := Tryz.isAgg197
 z53 := Tryz.sizeOf197
 v53 := Tryz.zeroValue197
 t171 := Tryz.underlying196
 a171 := Tryz.isAgg196
 z171 := Tryz.sizeOf196
 v171 := Tryz.zeroValue196
 t173 := Tryz.underlying200
 a173 := Tryz.isAgg200
 z173 := Tryz.sizeOf200
 v173 := Tryz.zeroValue200
 t212 := Tryz.underlying224
 a212 := Tryz.isAgg224
 z212 := Tryz.sizeOf224
 v212 := Tryz.zeroValue224
 t213 := Tryz.underlying226
 a213 := Tryz.isAgg226
 z213 := Tryz.sizeOf226
 t232 := Tryz.underlying263
 a232 := Tryz.isAgg263
 z232 := Tryz.sizeOf263
 v232 := Tryz.zeroValue263
 t233 := Tryz.underlying264
 a233 := Tryz.isAgg264
 z233 := Tryz.sizeOf264
 v233 := Tryz.zeroValue264
 g17 := by kernel_rfl
 g18 := by kernel_rfl
 g19 := by kernel_rfl }
def tV : Go.Shelf.Ren := ⟨fun | 156 => 32 | 165 => 68 | 166 => 69 | 169 => 70 | 240 => 106 | 241 => 107 | 276 => 132 | 277 => 133 | n => n, fun | 31 => 63 | 9 => 9 | 3 => 3 | 4 => 4 | 0 => 0 | 20 => 20 | 72 => 138 | 76 => 142 | 70 => 136 | 37 => 51 | 75 => 141 | 127 => 178 | 164 => 202 | 5 => 5 | 80 => 144 | n => n, fun n => n⟩
theorem kB0 : Lays.n156 Tryz.prog tV := {
 mixed := by kernel_rfl
 f156 := Tryz.func32.trans (congrArg some z88)
 f165 := Tryz.func68.trans (congrArg some z88)
 f166 := Tryz.func69.trans (congrArg some z88)
 f169 := Tryz.func70.trans (congrArg some z88)
 f240 := Tryz.func106.trans (congrArg some z88)
 f241 := Tryz.func107.trans (congrArg some z88)
 f276 := Tryz.func132.trans (congrArg some z88)
 f277 := Tryz.func133.trans (congrArg some z88)
 t0 := Tryz.underlying0
 a0 := Tryz.isAgg0
 z0 := Tryz.sizeOf0
 v0 := Tryz.zeroValue0
 t3 := Tryz.underlying3
 a3 := Tryz.isAgg3
 z3 := Tryz.sizeOf3
 v3 := Tryz.zeroValue3
 t4 := Tryz.underlying4
 a4 := Tryz.isAgg4
 z4 := Tryz.sizeOf4
 v4 := Tryz.zeroValue4
 t9 := Tryz.underlying9
 a9 := Tryz.isAgg9
 z9 := Tryz.sizeOf9
 v9 := Tryz.zeroValue9
 t20 := Tryz.underlying20
 a20 := Tryz.isAgg20
 z20 := Tryz.sizeOf20
 v20 := Tryz.zeroValue20
 t31 := Tryz.underlying63
 a31 := Tryz.isAgg63
 z31 := Tryz.sizeOf63
 v31 := Tryz.zeroValue63
 t37 := Tryz.underlying51
 a37 := Tryz.isAgg51
 z37 := Tryz.sizeOf51
 v37 := Tryz.zeroValue51
 t70 := Tryz.underlying136
 a70 := Tryz.isAgg136
 z70 := Tryz.sizeOf136
 v70 := Tryz.zeroValue136
 t72 := Tryz.underlying138
 a72 := Tryz.isAgg138
 z72 := Tryz.sizeOf138
 v72 := Tryz.zeroValue138
 t75 := Tryz.underlying141
 a75 := Tryz.isAgg141
 z75 := Tryz.sizeOf141
 v75 := Tryz.zeroValue141
 t76 := Tryz.underlying142
 a76 := Tryz.isAgg142
 z76 := Tryz.sizeOf142
 v76 := Tryz.zeroValue142
 t127 := Tryz.underlying178
 a127 := Tryz.isAgg178
 z127 := Tryz.sizeOf178
 v127 := Tryz.zeroValue178
 t164 := Tryz.underlying202
 a164 := Tryz.isAgg202
 z164 := Tryz.sizeOf202
 v164 := Tryz.zeroValue202 }
theorem hU0 : Builder.Extra Tryz.prog tV := {
 sizeBuilder := by kernel_rfl
 liesBuilder := by kernel_rfl
 t5 := Tryz.underlying5
 a5 := Tryz.isAgg5
 z5 := Tryz.sizeOf5
 v5 := Tryz.zeroValue5
 infoByte := by kernel_rfl
 cellsByte := by kernel_rfl
 sizeByte := by kernel_rfl
 neB5 := by decide }
theorem yW (n : Int) (w : World) (h0 : 0 ≤ n) (h1 : n < 100) :
   Calls Tryz.prog 31 #[.int .i64 n] w (Ret w fun v L => v = .string (bs (dF n)) ∧ L = []) := by
 obtain ⟨k, rfl⟩ : ∃ k : Nat, n = k := ⟨n.toNat, (Int.toNat_of_nonneg h0).symm⟩
 refine Calls.mono (Any.strconv_Itoa_small kA0 k (by omega) w) ?_
 rintro e w' ⟨rfl, rfl⟩
 exact ⟨_, [], rfl, ExtX.refl _ _, New.nil _ _, by rw [eV0 (by omega)]; rfl, rfl⟩
theorem fA0 (xs : List Str) : cells pZ xs = xs.map fun x => Value.string (bs x) := by
 induction xs with
 | nil => rfl
 | cons x r ih => rw [List.map_cons, ← ih]; rfl
theorem dY0 (xs : List Str) : (xs.map bs).map (fun x => x.data.toList) = xs := by
 induction xs with
 | nil => rfl
 | cons x r ih => rw [List.map_cons, List.map_cons, ih]; rfl
theorem hV0 (i : Sl) (g : Nat) (hi : i.a = some ⟨g, 0, none⟩) (xs : List Str) (w : World) (h : At w [slo i pZ 1 xs]) (h0 : 0 < xs.length) (hN : xs.length ≤ 1000000) (hl : (dS xs).length ≤ 1000000) :
   Calls Tryz.prog 32 #[i.val xs.length, .string (bs [32])] w (Ret w fun v L => v = .string (bs (dS xs)) ∧ L = []) := by
 obtain ⟨⟨hr, hf⟩, _⟩ := h
 obtain ⟨_, hc, _, hcell⟩ := hr
 obtain ⟨ad, ha, hcl⟩ := hcell h0
 rw [hi] at ha
 obtain rfl := Option.some.inj ha
 have hg : g < w.heap.size := hf g ⟨h0, _, hi, rfl⟩
 have e32 : (bs [32]).data.toList = [32] := rfl
 have key := Any.strings_Join kB0 hU0 g 0 i.c (xs.map bs) (bs [32]) w (fun j x hx => by
   rw [List.getElem?_map] at hx
   obtain ⟨y, hy, rfl⟩ := Option.map_eq_some_iff.1 hx
   have := hcl j (.string (bs y)) (by rw [fA0, List.getElem?_map, hy]; rfl)
   rw [Addr.add_lit] at this
   exact this) hg (by rw [List.length_map]; omega) (by rw [List.length_map]; exact hc) (by rw [dY0, e32, yU]; omega)
 rw [dY0, e32, yU, List.length_map] at key
 have hv : i.val xs.length = .slice (some ⟨g, 0, none⟩) xs.length i.c := by simp [Sl.val, hi]
 rw [hv]
 refine Calls.mono key ?_
 rintro e w' ⟨rfl, hb⟩
 exact ⟨_, [], rfl, Ext.of_below hb, New.nil _ _, rfl, rfl⟩
end Go.Proofs.YtchkcjeeknfchaaGreatDoor
namespace Go.Proofs.YtchkcjeeknfchaaGreatDoor
set_option maxRecDepth 100000
set_option maxHeartbeats 100000000
open Go Go.Sx Go.RowKit
theorem tW (p : ProgH) (s : StateH) (w : World) (h : At w [fR (bD p), fR (aJ s)]) (hp : p.pure.small20) (hs : s.pure.small20) :
   Calls Tryz.prog 14 #[eJ p, aM s] w (gC w (Fits p.pure s.pure)) := by
 obtain ⟨b0, b1, b2, b3, b4, b5, b6, b7⟩ := hs
 have mlen : ∀ {α β : Type} (f : α → β) (xs : List α), (xs.map f).length = xs.length := fun f xs => by simp
 have lt : p.pure.threads.length = p.threads.length := mlen _ _
 have l2 : s.pure.sems.length = s.sems.length := mlen _ _
 have l3 : s.pure.onces.length = s.onces.length := mlen _ _
 have l4 : s.pure.groups.length = s.groups.length := mlen _ _
 have l5 : s.pure.barriers.length = s.barriers.length := mlen _ _
 have l6 : s.pure.chans.length = s.chans.length := mlen _ _
 refine cN Tryz.func14 rfl aA w _ rfl _ rfl _ h ⟨rfl, rfl, rfl, rfl, trivial⟩ _ _ (by decide) ?_
 refine aB _ cl41 rfl rfl rfl rfl ⟨rfl, rfl⟩ (fun A w hW => aJ0 p w ⟨hW.get 0 rfl (.refl _), trivial⟩ ⟨hp.1, hp.2.1, hp.2.2.1, hp.2.2.2.1⟩) ?_
 rintro v L ⟨b, rfl, hb, rfl⟩
 apply CaseB.mk <;> intro g
 · exact aG ⟨_, rfl, tno fun e => (by rw [hb.2 e.prog] at g; cases g), rfl⟩ (fun _ => rfl)
 have ok : ProgOk p.pure := hb.1 z85
 apply CaseB.mk <;> intro g
 · have q : ¬ s.places.length = p.threads.length := by simp at g; omega
   exact aG ⟨_, rfl, tno fun e => q (by have := e.np; simpa [StateH.pure, ProgH.pure] using this), rfl⟩ (fun _ => rfl)
 have c0 : s.places.length = p.threads.length := by simp at g; omega
 apply CaseB.mk <;> intro g
 · have q : ¬ s.status.length = p.threads.length := by simp at g; omega
   exact aG ⟨_, rfl, tno fun e => q (by have := e.ns; simpa [StateH.pure, ProgH.pure] using this), rfl⟩ (fun _ => rfl)
 have c1 : s.status.length = p.threads.length := by simp at g; omega
 apply CaseB.mk <;> intro g
 · have q : ¬ s.sems.length = p.sems.length := by simp at g; omega
   exact aG ⟨_, rfl, tno fun e => q (by have := e.lsems; simpa [StateH.pure, ProgH.pure] using this), rfl⟩ (fun _ => rfl)
 have c2 : s.sems.length = p.sems.length := by simp at g; omega
 apply CaseB.mk <;> intro g
 · have q : ¬ s.groups.length = p.groups.length := by simp at g; omega
   exact aG ⟨_, rfl, tno fun e => q (by have := e.lgroups; simpa [StateH.pure, ProgH.pure] using this), rfl⟩ (fun _ => rfl)
 have c4 : s.groups.length = p.groups.length := by simp at g; omega
 apply CaseB.mk <;> intro g
 · have q : ¬ s.barriers.length = p.barriers.length := by simp at g; omega
   exact aG ⟨_, rfl, tno fun e => q (by have := e.lbarriers; simpa [StateH.pure, ProgH.pure] using this), rfl⟩ (fun _ => rfl)
 have c5 : s.barriers.length = p.barriers.length := by simp at g; omega
 apply CaseB.mk <;> intro g
 · have q : ¬ s.chans.length = p.rooms.length := by simp at g; omega
   exact aG ⟨_, rfl, tno fun e => q (by have := e.lchans; simpa [StateH.pure, ProgH.pure] using this), rfl⟩ (fun _ => rfl)
 have c6 : s.chans.length = p.rooms.length := by simp at g; omega
 apply CaseB.mk <;> intro g
 · have q : ¬ s.onces.length = 3 := by simp at g; omega
   exact aG ⟨_, rfl, tno fun e => q (by have := e.lonces; simpa [StateH.pure, ProgH.pure] using this), rfl⟩ (fun _ => rfl)
 have c3 : s.onces.length = 3 := by simp at g; omega
 apply CaseB.mk <;> intro g
 · have q : ¬ s.said.length ≤ 64 := by have g' := of_decide_eq_true g; omega
   exact aG ⟨_, rfl, tno fun e => q e.lsaid, rfl⟩ (fun _ => rfl)
 have c7 : s.said.length ≤ 64 := by have g' := of_decide_eq_false g; omega
 apply CaseB.mk <;> intro g
 · have q : ¬ 0 ≤ s.fault := by have g' := of_decide_eq_true g; omega
   exact aG ⟨_, rfl, tno fun e => q e.f0, rfl⟩ (fun _ => rfl)
 have c8 : 0 ≤ s.fault := by have g' := of_decide_eq_false g; omega
 apply CaseB.mk <;> intro g
 · have q : ¬ s.fault ≤ 4 := by have g' := of_decide_eq_true g; omega
   exact aG ⟨_, rfl, tno fun e => q e.f4, rfl⟩ (fun _ => rfl)
 have c9 : s.fault ≤ 4 := by have g' := of_decide_eq_false g; omega
 have n4 : p.threads.length ≤ 4 := by have := ok.n4; rwa [lt] at this
 have m0 : p.sems.length ≤ 3 := ok.sems.1
 have m1 : p.groups.length ≤ 3 := ok.groups.1
 have m2 : p.barriers.length ≤ 3 := ok.barriers.1
 have m3 : p.rooms.length ≤ 3 := ok.rooms.1
 refine LoopW.mk ⟨{ k : Nat // k ≤ s.sems.length ∧ ∀ (i : Nat) x, i < k → s.pure.sems[i]? = some x → SemOk x ∧ p.pure.sems[i]? = some x.limit },
   fun k => .mk [(2, .p 0 0), (3, .p 1 0), (106, .v (s.h2.val s.sems.length)), (107, .v (.int .i64 (s.sems.length : Int))), (108, .v (.int .i64 (k.1 : Int)))] 2 0 [(0, 38, 5), (1, 46, 9)] [((0, 0), .v (p.h0.val p.sems.length)), ((0, 1), .v (p.h1.val p.groups.length)), ((0, 2), .v (p.h2.val p.barriers.length)), ((0, 3), .v (p.h3.val p.rooms.length)), ((0, 4), .v (p.h4.val p.threads.length)), ((1, 0), .v (s.h0.val s.places.length)), ((1, 1), .v (s.h1.val s.status.length)), ((1, 2), .v (s.h2.val s.sems.length)), ((1, 3), .v (s.h3.val s.onces.length)), ((1, 4), .v (s.h4.val s.groups.length)), ((1, 5), .v (s.h5.val s.barriers.length)), ((1, 6), .v (s.h6.val s.chans.length)), ((1, 7), .v (s.h7.val s.said.length)), ((1, 8), .v (.int .i64 s.fault))] [fR (bD p), fR (aJ s)],
   fun k => s.sems.length - k.1, ⟨0, Nat.zero_le _, fun i x hi => by omega⟩, ?_, ?_⟩
 · exact aC [0, 1] zw2 zw0 zw2 zw5 zw4 rfl rfl
 rintro ⟨k, hk, hinv⟩
 apply CaseB.mk <;> intro g
 · have hlt : k < s.sems.length := by simpa using g
   have hw := bA k _ hlt (by omega)
   have hat : s.pure.sems[k]? = some (s.sems[k]).m := by simp [StateH.pure, hlt]
   have hsm := (cY b2).2 _ (List.getElem_mem hlt)
   unfold Sem.small20 at hsm
   refine aF dV aA rfl rfl rfl rfl rfl ⟨rfl, rfl⟩ (aN 1 rfl (.trans (.R_R (cI s)) (.ofR bK))) k rfl z37 (fun ad => ?_)
   refine aH aA z88 z88 z88 200 [((0, 0), .v (p.h0.val p.sems.length)), ((2, 0), .v (.int .i64 (s.sems[k]).m.free)), ((2, 1), .v (.int .i64 (s.sems[k]).m.limit)), ((2, 2), .v ((s.sems[k]).q.val (s.sems[k]).m.queue.length))] [0] [_] z98 z110 ⟨rfl, trivial⟩ rfl ?_
   refine bV _ cl42 rfl rfl rfl rfl ⟨rfl, rfl⟩ (fun A w hW => cA0 _ _ w ⟨hW.get 1 rfl (.trans (.R_R (cI s)) (.ofR (nO _ _ k hlt))), trivial⟩ (by omega)) ?_
   rintro v L ⟨bb, rfl, hbb, rfl⟩
   apply CaseB.mk <;> intro g
   · exact aG ⟨_, rfl, tno fun e => (by rw [hbb.2 ((e.sems k _ hat).1)] at g; cases g), rfl⟩ (fun _ => rfl)
   have q1 := hbb.1 z85
   have hlp : k < p.sems.length := by omega
   have hpat : p.pure.sems[k]? = some p.sems[k] := by simp [ProgH.pure, hlp]
   refine bM (ti := aZ tab) aI aA rfl rfl rfl rfl rfl ⟨rfl, rfl⟩ (aN 0 rfl (.ofR (fA p))) k rfl z37 (fun ad2 => ?_)
   apply CaseB.mk <;> intro g
   · have q : ¬ (s.sems[k]).m.limit = p.sems[k] := by simpa using g
     exact aG ⟨_, rfl, tno fun e => q z48, rfl⟩ (fun _ => rfl)
   have q2 : (s.sems[k]).m.limit = p.sems[k] := by simpa using g
   refine ⟨⟨k + 1, by omega, fun i x hi hx => ?_⟩, ?_, by simp only; omega⟩
   · by_cases e : i < k
     · exact hinv i x e hx
     · obtain rfl : i = k := by omega
       rw [hat] at hx
       injection hx with hx
       subst hx
       exact ⟨q1, by rw [hpat, q2]⟩
   · exact aC [0, 1] zw1 zw0 zw1 zw5 zw3 rfl rfl
 have hge : s.sems.length ≤ k := by simpa using g
 have vsems : ∀ (i : Nat) x, s.pure.sems[i]? = some x → SemOk x ∧ p.pure.sems[i]? = some x.limit := fun i x hx => hinv i x z68 hx
 refine LoopW.mk ⟨{ k : Nat // k ≤ s.groups.length ∧ ∀ (i : Nat) x, i < k → s.pure.groups[i]? = some x → fE x },
   fun k => .mk [(2, .p 0 0), (3, .p 1 0), (128, .v (s.h4.val s.groups.length)), (129, .v (.int .i64 (s.groups.length : Int))), (130, .v (.int .i64 (k.1 : Int)))] 2 0 [(0, 38, 5), (1, 46, 9)] [((0, 0), .v (p.h0.val p.sems.length)), ((0, 1), .v (p.h1.val p.groups.length)), ((0, 2), .v (p.h2.val p.barriers.length)), ((0, 3), .v (p.h3.val p.rooms.length)), ((0, 4), .v (p.h4.val p.threads.length)), ((1, 0), .v (s.h0.val s.places.length)), ((1, 1), .v (s.h1.val s.status.length)), ((1, 2), .v (s.h2.val s.sems.length)), ((1, 3), .v (s.h3.val s.onces.length)), ((1, 4), .v (s.h4.val s.groups.length)), ((1, 5), .v (s.h5.val s.barriers.length)), ((1, 6), .v (s.h6.val s.chans.length)), ((1, 7), .v (s.h7.val s.said.length)), ((1, 8), .v (.int .i64 s.fault))] [fR (bD p), fR (aJ s)],
   fun k => s.groups.length - k.1, ⟨0, Nat.zero_le _, fun i x hi => by omega⟩, ?_, ?_⟩
 · exact aC [0, 1] zw2 zw0 zw2 zw5 zw4 rfl rfl
 rintro ⟨k, hk, hinv⟩
 apply CaseB.mk <;> intro g
 · have hlt : k < s.groups.length := by simpa using g
   have hw := bA k _ hlt (by omega)
   have hat : s.pure.groups[k]? = some (s.groups[k]).m := by simp [StateH.pure, hlt]
   have hsm := (cY b4).2 _ (List.getElem_mem hlt)
   unfold Group.small20 at hsm
   refine aF cP aA rfl rfl rfl rfl rfl ⟨rfl, rfl⟩ (aN 1 rfl (.trans (.R_R (bZ s)) (.ofR bK))) k rfl z37 (fun ad => ?_)
   refine aB _ cl43 rfl rfl rfl rfl ⟨rfl, rfl⟩ (fun A w hW => yQ _ _ w ⟨hW.get 1 rfl (.trans (.R_R (bZ s)) (.ofR (iE _ _ k hlt))), trivial⟩ (by omega)) ?_
   rintro v L ⟨bb, rfl, hbb, rfl⟩
   apply CaseB.mk <;> intro g
   · exact aG ⟨_, rfl, tno fun e => (by rw [hbb.2 (e.groups _ (List.mem_of_getElem? hat))] at g; cases g), rfl⟩ (fun _ => rfl)
   have q1 := hbb.1 z85
   refine ⟨⟨k + 1, by omega, fun i x hi hx => ?_⟩, ?_, by simp only; omega⟩
   · by_cases e : i < k
     · exact hinv i x e hx
     · obtain rfl : i = k := by omega
       rw [hat] at hx
       injection hx with hx
       subst hx
       exact q1
   · exact aC [0, 1] zw1 zw0 zw1 zw5 zw3 rfl rfl
 have hge : s.groups.length ≤ k := by simpa using g
 have vgroups : ∀ (i : Nat) x, s.pure.groups[i]? = some x → fE x := fun i x hx => hinv i x z68 hx
 refine LoopW.mk ⟨{ k : Nat // k ≤ s.barriers.length ∧ ∀ (i : Nat) x, i < k → s.pure.barriers[i]? = some x → dE x ∧ p.pure.barriers[i]? = some x.parties },
   fun k => .mk [(2, .p 0 0), (3, .p 1 0), (139, .v (s.h5.val s.barriers.length)), (140, .v (.int .i64 (s.barriers.length : Int))), (141, .v (.int .i64 (k.1 : Int)))] 2 0 [(0, 38, 5), (1, 46, 9)] [((0, 0), .v (p.h0.val p.sems.length)), ((0, 1), .v (p.h1.val p.groups.length)), ((0, 2), .v (p.h2.val p.barriers.length)), ((0, 3), .v (p.h3.val p.rooms.length)), ((0, 4), .v (p.h4.val p.threads.length)), ((1, 0), .v (s.h0.val s.places.length)), ((1, 1), .v (s.h1.val s.status.length)), ((1, 2), .v (s.h2.val s.sems.length)), ((1, 3), .v (s.h3.val s.onces.length)), ((1, 4), .v (s.h4.val s.groups.length)), ((1, 5), .v (s.h5.val s.barriers.length)), ((1, 6), .v (s.h6.val s.chans.length)), ((1, 7), .v (s.h7.val s.said.length)), ((1, 8), .v (.int .i64 s.fault))] [fR (bD p), fR (aJ s)],
   fun k => s.barriers.length - k.1, ⟨0, Nat.zero_le _, fun i x hi => by omega⟩, ?_, ?_⟩
 · exact aC [0, 1] zw2 zw0 zw2 zw5 zw4 rfl rfl
 rintro ⟨k, hk, hinv⟩
 apply CaseB.mk <;> intro g
 · have hlt : k < s.barriers.length := by simpa using g
   have hw := bA k _ hlt (by omega)
   have hat : s.pure.barriers[k]? = some (s.barriers[k]).m := by simp [StateH.pure, hlt]
   have hsm := (cY b5).2 _ (List.getElem_mem hlt)
   unfold Barrier.small20 at hsm
   refine aF cH aA rfl rfl rfl rfl rfl ⟨rfl, rfl⟩ (aN 1 rfl (.trans (.R_R (bN s)) (.ofR bK))) k rfl z37 (fun ad => ?_)
   refine aH aA z88 z88 z88 200 [((0, 2), .v (p.h2.val p.barriers.length)), ((2, 0), .v (.int .i64 (s.barriers[k]).m.parties)), ((2, 1), .v (.int .i64 (s.barriers[k]).m.round)), ((2, 2), .v ((s.barriers[k]).q.val (s.barriers[k]).m.waits.length))] [0] [_] z98 z110 ⟨rfl, trivial⟩ rfl ?_
   refine bV _ cl44 rfl rfl rfl rfl ⟨rfl, rfl⟩ (fun A w hW => vT _ _ w ⟨hW.get 1 rfl (.trans (.R_R (bN s)) (.ofR (fJ _ _ k hlt))), trivial⟩ (by omega)) ?_
   rintro v L ⟨bb, rfl, hbb, rfl⟩
   apply CaseB.mk <;> intro g
   · exact aG ⟨_, rfl, tno fun e => (by rw [hbb.2 ((e.barriers k _ hat).1)] at g; cases g), rfl⟩ (fun _ => rfl)
   have q1 := hbb.1 z85
   have hlp : k < p.barriers.length := by omega
   have hpat : p.pure.barriers[k]? = some p.barriers[k] := by simp [ProgH.pure, hlp]
   refine bM (ti := aZ tab) aI aA rfl rfl rfl rfl rfl ⟨rfl, rfl⟩ (aN 0 rfl (.ofR (fG p))) k rfl z37 (fun ad2 => ?_)
   apply CaseB.mk <;> intro g
   · have q : ¬ (s.barriers[k]).m.parties = p.barriers[k] := by simpa using g
     exact aG ⟨_, rfl, tno fun e => q z45, rfl⟩ (fun _ => rfl)
   have q2 : (s.barriers[k]).m.parties = p.barriers[k] := by simpa using g
   refine ⟨⟨k + 1, by omega, fun i x hi hx => ?_⟩, ?_, by simp only; omega⟩
   · by_cases e : i < k
     · exact hinv i x e hx
     · obtain rfl : i = k := by omega
       rw [hat] at hx
       injection hx with hx
       subst hx
       exact ⟨q1, by rw [hpat, q2]⟩
   · exact aC [0, 1] zw1 zw0 zw1 zw5 zw3 rfl rfl
 have hge : s.barriers.length ≤ k := by simpa using g
 have vbarriers : ∀ (i : Nat) x, s.pure.barriers[i]? = some x → dE x ∧ p.pure.barriers[i]? = some x.parties := fun i x hx => hinv i x z68 hx
 refine LoopW.mk ⟨{ k : Nat // k ≤ s.chans.length ∧ ∀ (i : Nat) x, i < k → s.pure.chans[i]? = some x → x.valid = true ∧ p.pure.rooms[i]? = some x.room },
   fun k => .mk [(2, .p 0 0), (3, .p 1 0), (161, .v (s.h6.val s.chans.length)), (162, .v (.int .i64 (s.chans.length : Int))), (163, .v (.int .i64 (k.1 : Int)))] 2 0 [(0, 38, 5), (1, 46, 9)] [((0, 0), .v (p.h0.val p.sems.length)), ((0, 1), .v (p.h1.val p.groups.length)), ((0, 2), .v (p.h2.val p.barriers.length)), ((0, 3), .v (p.h3.val p.rooms.length)), ((0, 4), .v (p.h4.val p.threads.length)), ((1, 0), .v (s.h0.val s.places.length)), ((1, 1), .v (s.h1.val s.status.length)), ((1, 2), .v (s.h2.val s.sems.length)), ((1, 3), .v (s.h3.val s.onces.length)), ((1, 4), .v (s.h4.val s.groups.length)), ((1, 5), .v (s.h5.val s.barriers.length)), ((1, 6), .v (s.h6.val s.chans.length)), ((1, 7), .v (s.h7.val s.said.length)), ((1, 8), .v (.int .i64 s.fault))] [fR (bD p), fR (aJ s)],
   fun k => s.chans.length - k.1, ⟨0, Nat.zero_le _, fun i x hi => by omega⟩, ?_, ?_⟩
 · exact aC [0, 1] zw2 zw0 zw2 zw5 zw4 rfl rfl
 rintro ⟨k, hk, hinv⟩
 apply CaseB.mk <;> intro g
 · have hlt : k < s.chans.length := by simpa using g
   have hw := bA k _ hlt (by omega)
   have hat : s.pure.chans[k]? = some (s.chans[k]).m := by simp [StateH.pure, hlt]
   have hsm := (cY b6).2 _ (List.getElem_mem hlt)
   unfold Chan.small20 at hsm
   refine aF cX aA rfl rfl rfl rfl rfl ⟨rfl, rfl⟩ (aN 1 rfl (.trans (.R_R (bC s)) (.ofR bK))) k rfl z37 (fun ad => ?_)
   refine aH aA z88 z88 z88 200 [((0, 3), .v (p.h3.val p.rooms.length)), ((2, 0), .v (.int .i64 (s.chans[k]).m.room)), ((2, 1), .v ((s.chans[k]).q0.val (s.chans[k]).m.items.length)), ((2, 2), .v ((s.chans[k]).q1.val (s.chans[k]).m.senders.length)), ((2, 3), .v ((s.chans[k]).q2.val (s.chans[k]).m.getters.length)), ((2, 4), .v (.bool (s.chans[k]).m.closed))] [0] [_] z93 z103 ⟨rfl, trivial⟩ rfl ?_
   refine bV _ cl45 rfl rfl rfl rfl ⟨rfl, rfl⟩ (fun A w hW => jW0 _ _ _ _ w ⟨hW.get 1 rfl (.trans (.R_R (bC s)) (.ofR (vP _ _ k hlt))), hW.get 1 rfl (.trans (.R_R (bC s)) (.ofR (lG _ _ k hlt))), hW.get 1 rfl (.trans (.R_R (bC s)) (.ofR (nC _ _ k hlt))), trivial⟩ ⟨by omega, by omega, by omega⟩) ?_
   rintro v L ⟨rfl, rfl⟩
   apply CaseB.mk <;> intro g
   · exact aG ⟨_, rfl, tno fun e => (by rw [(e.chans k _ hat).1] at g; cases g), rfl⟩ (fun _ => rfl)
   have q1 : (s.chans[k]).m.valid = true := by simpa using g
   have hlp : k < p.rooms.length := by omega
   have hpat : p.pure.rooms[k]? = some p.rooms[k] := by simp [ProgH.pure, hlp]
   refine bM (ti := aZ tab) aI aA rfl rfl rfl rfl rfl ⟨rfl, rfl⟩ (aN 0 rfl (.ofR (iF p))) k rfl z37 (fun ad2 => ?_)
   apply CaseB.mk <;> intro g
   · have q : ¬ (s.chans[k]).m.room = p.rooms[k] := by simpa using g
     exact aG ⟨_, rfl, tno fun e => q z47, rfl⟩ (fun _ => rfl)
   have q2 : (s.chans[k]).m.room = p.rooms[k] := by simpa using g
   refine ⟨⟨k + 1, by omega, fun i x hi hx => ?_⟩, ?_, by simp only; omega⟩
   · by_cases e : i < k
     · exact hinv i x e hx
     · obtain rfl : i = k := by omega
       rw [hat] at hx
       injection hx with hx
       subst hx
       exact ⟨q1, by rw [hpat, q2]⟩
   · exact aC [0, 1] zw1 zw0 zw1 zw5 zw3 rfl rfl
 have hge : s.chans.length ≤ k := by simpa using g
 have vchans : ∀ (i : Nat) x, s.pure.chans[i]? = some x → x.valid = true ∧ p.pure.rooms[i]? = some x.room := fun i x hx => hinv i x z68 hx
 refine LoopW.mk ⟨{ k : Nat // k ≤ s.onces.length ∧ ∀ (i : Nat) x, i < k → s.pure.onces[i]? = some x → cS x },
   fun k => .mk [(2, .p 0 0), (3, .p 1 0), (183, .v (s.h3.val s.onces.length)), (184, .v (.int .i64 (s.onces.length : Int))), (185, .v (.int .i64 (k.1 : Int)))] 2 0 [(0, 38, 5), (1, 46, 9)] [((0, 0), .v (p.h0.val p.sems.length)), ((0, 1), .v (p.h1.val p.groups.length)), ((0, 2), .v (p.h2.val p.barriers.length)), ((0, 3), .v (p.h3.val p.rooms.length)), ((0, 4), .v (p.h4.val p.threads.length)), ((1, 0), .v (s.h0.val s.places.length)), ((1, 1), .v (s.h1.val s.status.length)), ((1, 2), .v (s.h2.val s.sems.length)), ((1, 3), .v (s.h3.val s.onces.length)), ((1, 4), .v (s.h4.val s.groups.length)), ((1, 5), .v (s.h5.val s.barriers.length)), ((1, 6), .v (s.h6.val s.chans.length)), ((1, 7), .v (s.h7.val s.said.length)), ((1, 8), .v (.int .i64 s.fault))] [fR (bD p), fR (aJ s)],
   fun k => s.onces.length - k.1, ⟨0, Nat.zero_le _, fun i x hi => by omega⟩, ?_, ?_⟩
 · exact aC [0, 1] zw2 zw0 zw2 zw5 zw4 rfl rfl
 rintro ⟨k, hk, hinv⟩
 apply CaseB.mk <;> intro g
 · have hlt : k < s.onces.length := by simpa using g
   have hw := bA k _ hlt (by omega)
   have hat : s.pure.onces[k]? = some (s.onces[k]).m := by simp [StateH.pure, hlt]
   have hsm := (cY b3).2 _ (List.getElem_mem hlt)
   unfold Once.small20 at hsm
   refine aF dM aA rfl rfl rfl rfl rfl ⟨rfl, rfl⟩ (aN 1 rfl (.trans (.R_R (cF s)) (.ofR bK))) k rfl z37 (fun ad => ?_)
   refine aB _ cl46 rfl rfl rfl rfl ⟨rfl, rfl⟩ (fun A w hW => aI0 _ _ w ⟨hW.get 1 rfl (.trans (.R_R (cF s)) (.ofR (lF _ _ k hlt))), trivial⟩ (by omega)) ?_
   rintro v L ⟨bb, rfl, hbb, rfl⟩
   apply CaseB.mk <;> intro g
   · exact aG ⟨_, rfl, tno fun e => (by rw [hbb.2 (e.onces _ (List.mem_of_getElem? hat))] at g; cases g), rfl⟩ (fun _ => rfl)
   have q1 := hbb.1 z85
   refine ⟨⟨k + 1, by omega, fun i x hi hx => ?_⟩, ?_, by simp only; omega⟩
   · by_cases e : i < k
     · exact hinv i x e hx
     · obtain rfl : i = k := by omega
       rw [hat] at hx
       injection hx with hx
       subst hx
       exact q1
   · exact aC [0, 1] zw1 zw0 zw1 zw5 zw3 rfl rfl
 have hge : s.onces.length ≤ k := by simpa using g
 have vonces : ∀ (i : Nat) x, s.pure.onces[i]? = some x → cS x := fun i x hx => hinv i x z68 hx
 refine LoopW.mk ⟨{ k : Nat // k ≤ s.said.length ∧ ∀ x ∈ s.said.take k, aR x = true },
   fun k => .mk [(2, .p 0 0), (3, .p 1 0), (194, .v (s.h7.val s.said.length)), (195, .v (.int .i64 (s.said.length : Int))), (196, .v (.int .i64 (k.1 : Int)))] 2 0 [(0, 38, 5), (1, 46, 9)] [((0, 0), .v (p.h0.val p.sems.length)), ((0, 1), .v (p.h1.val p.groups.length)), ((0, 2), .v (p.h2.val p.barriers.length)), ((0, 3), .v (p.h3.val p.rooms.length)), ((0, 4), .v (p.h4.val p.threads.length)), ((1, 0), .v (s.h0.val s.places.length)), ((1, 1), .v (s.h1.val s.status.length)), ((1, 2), .v (s.h2.val s.sems.length)), ((1, 3), .v (s.h3.val s.onces.length)), ((1, 4), .v (s.h4.val s.groups.length)), ((1, 5), .v (s.h5.val s.barriers.length)), ((1, 6), .v (s.h6.val s.chans.length)), ((1, 7), .v (s.h7.val s.said.length)), ((1, 8), .v (.int .i64 s.fault))] [fR (bD p), fR (aJ s)],
   fun k => s.said.length - k.1, ⟨0, Nat.zero_le _, by simp⟩, ?_, ?_⟩
 · exact aC [0, 1] zw2 zw0 zw2 zw5 zw4 rfl rfl
 rintro ⟨k, hk, hinv⟩
 apply CaseB.mk <;> intro g
 · have hlt : k < s.said.length := by simpa using g
   have hw := bA k _ hlt (by omega)
   refine aF aI aA rfl rfl rfl rfl rfl ⟨rfl, rfl⟩ (aN 1 rfl (.ofR (jP s))) k rfl z37 (fun ad => ?_)
   refine aB _ aB0 rfl rfl rfl rfl ⟨rfl, rfl⟩ (fun A w hW => iC _ w) ?_
   rintro v L ⟨rfl, rfl⟩
   apply CaseB.mk <;> intro g
   · exact aG ⟨_, rfl, tno fun e => (by rw [e.said _ (List.getElem_mem (l := s.said) hlt)] at g; cases g), rfl⟩ (fun _ => rfl)
   refine ⟨⟨k + 1, by omega, fun x hx => ?_⟩, ?_, by simp only; omega⟩
   · rw [List.take_succ_eq_append_getElem hlt] at hx
     rcases List.mem_append.1 hx with hx | hx
     · exact hinv x hx
     · simp at hx; subst hx; simpa using g
   · exact aC [0, 1] zw1 zw0 zw1 zw5 zw3 rfl rfl
 have hge : s.said.length ≤ k := by simpa using g
 have vsaid : ∀ x ∈ s.said, aR x = true := by rw [List.take_of_length_le hge] at hinv; exact hinv
 have hN : (bB s.pure).length ≤ 1048576 := by
   have ge : ∀ {α : Type} {xs : List α} {Q : α → Prop}, (∀ (i : Nat) x, xs[i]? = some x → Q x) → ∀ x ∈ xs, Q x := fun h x hx => by
     obtain ⟨i, hi⟩ := List.getElem?_of_mem hx
     exact h i x hi
   have e1 := nP (f := cO) (C := 6) (i := 0) (xs := s.pure.sems) fun i x hx => by
     have := (ge (Q := SemOk) (fun i x h => (vsems i x h).1) x hx).q6; simpa [cO] using this
   have e2 := nP (f := bX) (C := 6) (i := 0) (xs := s.pure.onces) fun i x hx => by
     have := eD (ge vonces x hx); simpa [bX] using this
   have e3 := nP (f := cA) (C := 6) (i := 0) (xs := s.pure.groups) fun i x hx => by
     have := gF (ge vgroups x hx); simpa [cA] using this
   have e4 := nP (f := bQ) (C := 6) (i := 0) (xs := s.pure.barriers) fun i x hx => by
     have := fZ (ge (Q := dE) (fun i x h => (vbarriers i x h).1) x hx); simpa [bQ] using this
   have e5 := nP (f := cK) (C := 6) (i := 0) (xs := s.pure.chans) fun i x hx => by
     have := lH (ge (Q := fun x => x.valid = true) (fun i x h => (vchans i x h).1) x hx); simpa [cK] using this
   simp only [bB, List.length_append]
   omega
 refine aB _ cl48 rfl rfl rfl rfl ⟨rfl, rfl⟩ (fun A w hW => yP s w ⟨hW.get 1 rfl (.refl _), trivial⟩ hN ⟨by omega, by omega, by omega, by omega, by omega⟩) ?_
 rintro v L ⟨r, r2, ps, os, rfl, hps, hos, rfl⟩
 have kps : jR ps := aK0.1 (by rw [hps]; exact tQ _)
 have kos : jR os := aK0.1 (by rw [hos]; exact tQ _)
 refine LoopW.mk ⟨{ q : Nat × List (Int × LH Waiting) × List (Int × LH Int) // q.1 ≤ p.threads.length ∧ Left ps q.2.1 q.1 ∧ Left os q.2.2 q.1 ∧ ∀ (t : Nat) ops at_ st, t < q.1 → p.pure.threads[t]? = some ops → s.pure.places[t]? = some at_ → s.pure.status[t]? = some st → jS ops at_ st (aK (bB s.pure) t) (aK (bO s.pure) t) },
   fun q => .mk [(2, .p 0 0), (3, .p 1 0), (18, .v (.map (some r))), (19, .v (.map (some r2))), (210, .v (p.h4.val p.threads.length)), (211, .v (.int .i64 (p.threads.length : Int))), (212, .v (.int .i64 (q.1.1 : Int)))] 2 0 [(0, 38, 5), (1, 46, 9)] [((0, 0), .v (p.h0.val p.sems.length)), ((0, 1), .v (p.h1.val p.groups.length)), ((0, 2), .v (p.h2.val p.barriers.length)), ((0, 3), .v (p.h3.val p.rooms.length)), ((0, 4), .v (p.h4.val p.threads.length)), ((1, 0), .v (s.h0.val s.places.length)), ((1, 1), .v (s.h1.val s.status.length)), ((1, 2), .v (s.h2.val s.sems.length)), ((1, 3), .v (s.h3.val s.onces.length)), ((1, 4), .v (s.h4.val s.groups.length)), ((1, 5), .v (s.h5.val s.barriers.length)), ((1, 6), .v (s.h6.val s.chans.length)), ((1, 7), .v (s.h7.val s.said.length)), ((1, 8), .v (.int .i64 s.fault))] [fMW r q.1.2.1, iJ r2 pY q.1.2.2, fO (rW ps), fO (rI os), fR (bD p), fR (aJ s)],
   fun q => p.threads.length - q.1.1, ⟨(0, ps, os), Nat.zero_le _, Left.start kps, Left.start kos, fun t _ _ _ ht => by simp only at ht; omega⟩, ?_, ?_⟩
 · exact aC [0, 2, 1, 3, 4, 5] zw2 zw0 zw2 zw5 zw4 rfl rfl
 rintro ⟨⟨k, qs, ts⟩, hk, lq, lo, hinv⟩
 simp only at hk lq lo hinv
 apply CaseB.mk <;> intro g
 rotate_left
 · have hge : k = p.threads.length := by have g' : ¬ (k : Int) < p.threads.length := by simpa using g
                                         omega
   subst hge
   have dq := lq.done hps
   have dn := lo.done hos
   have fin : (∀ e ∈ bB s.pure, 0 ≤ e.1 ∧ e.1 < p.threads.length) → (∀ e ∈ bO s.pure, 0 ≤ e.1 ∧ e.1 < p.threads.length) → Fits p.pure s.pure := fun h1 h2 =>
     ⟨ok, by rw [lt]; exact c0, by rw [lt]; exact c1, by rw [l2]; exact c2, by rw [l4]; exact c4, by rw [l5]; exact c5, by rw [l6]; exact c6, by rw [l3]; exact c3, c7, c8, c9, vsems, fun x hx => by obtain ⟨i, hi⟩ := List.getElem?_of_mem hx; exact vgroups i x hi, vbarriers, vchans, fun x hx => by obtain ⟨i, hi⟩ := List.getElem?_of_mem hx; exact vonces i x hi, vsaid,
       fun t ops a st ht => hinv t ops a st (by have := (List.getElem?_eq_some_iff.1 ht).1; rw [lt] at this; exact this) ht, by rw [lt]; exact h1, by rw [lt]; exact h2⟩
   refine xH 0 (kt := 3) (et := 106) rfl rfl rfl rfl rfl rfl ⟨rfl, rfl⟩ z88 ?_
   apply CaseB.mk <;> intro g
   · have q0 : qs = [] := by simpa using g
     refine xH 1 (kt := 3) (et := 22) rfl rfl rfl rfl rfl rfl ⟨rfl, rfl⟩ z88 ?_
     refine aG ⟨_, rfl, ?_, rfl⟩ (fun _ => rfl)
     constructor
     · intro g2
       exact fin (dq.1 q0) (dn.1 z82)
     · intro e
       have := dn.2 (by rw [← lt]; exact e.ow)
       simp [this]
   · have q0 : ¬ qs = [] := by simpa using g
     exact aG ⟨_, rfl, tno fun e => q0 (dq.2 (by rw [← lt]; exact e.ev)), rfl⟩ (fun _ => rfl)
 have hlt : k < p.threads.length := by simpa using g
 have hw := bA k _ hlt (by omega)
 have hops : p.pure.threads[k]? = some (p.threads[k]).m := by simp [ProgH.pure, hlt]
 have hlp : k < s.places.length := by omega
 have hls : k < s.status.length := by omega
 have hpl : s.pure.places[k]? = some s.places[k] := List.getElem?_eq_getElem hlp
 have hst : s.pure.status[k]? = some s.status[k] := List.getElem?_eq_getElem hls
 have hth : Fits p.pure s.pure → jS (p.threads[k]).m s.places[k] s.status[k] (aK (bB s.pure) k) (aK (bO s.pure) k) := fun e => e.threads k _ _ _ hops hpl hst
 obtain ⟨u, hu⟩ : ∃ u, u = (bS qs (k : Int)).getD LH.nil := ⟨_, rfl⟩
 obtain ⟨o, ho⟩ : ∃ o, o = (bS ts (k : Int)).getD LH.nil := ⟨_, rfl⟩
 have hux : u.xs = aK (bB s.pure) k := by rw [hu]; exact lq.at hps
 have hox : o.xs = aK (bO s.pure) k := by rw [ho]; exact lo.at hos
 have hnext : jS (p.threads[k]).m s.places[k] s.status[k] u.xs o.xs → ∀ (t : Nat) ops at_ st, t < k + 1 → p.pure.threads[t]? = some ops → s.pure.places[t]? = some at_ → s.pure.status[t]? = some st → jS ops at_ st (aK (bB s.pure) t) (aK (bO s.pure) t) := fun hok t ops a st ht h1 h2 h3 => by
   by_cases e : t < k
   · exact hinv t ops a st e h1 h2 h3
   · obtain rfl : t = k := by omega
     rw [hops] at h1; rw [hpl] at h2; rw [hst] at h3
     injection h1 with h1; injection h2 with h2; injection h3 with h3
     subst h1; subst h2; subst h3
     rw [← hux, ← hox]; exact hok
 rw [← hux, ← hox] at hth
 refine aF eR aA rfl rfl rfl rfl rfl ⟨rfl, rfl⟩ (aN 4 rfl (.trans (.R_R (bE p)) (.ofR bK))) k rfl z37 (fun ad => ?_)
 refine aF aI aA rfl rfl rfl rfl rfl ⟨rfl, rfl⟩ (aN 5 rfl (.ofR (fY s))) k rfl z37 (fun ad2 => ?_)
 apply CaseB.mk <;> intro g
 · have q : ¬ 0 ≤ s.places[k] := by have g' := of_decide_eq_true g; omega
   exact aG ⟨_, rfl, tno fun e => q (hth e).1, rfl⟩ (fun _ => rfl)
 have a0 : 0 ≤ s.places[k] := by have g' := of_decide_eq_false g; omega
 apply CaseB.mk <;> intro g
 · have q : ¬ s.places[k] ≤ (p.threads[k]).m.length := by have g' := of_decide_eq_true g; omega
   exact aG ⟨_, rfl, tno fun e => q (hth e).2.1, rfl⟩ (fun _ => rfl)
 have a1 : s.places[k] ≤ (p.threads[k]).m.length := by have g' := of_decide_eq_false g; omega
 refine aH aA z88 z88 z88 200 [] [2, 3, 5] [_, _, _] trivial trivial ⟨rfl, rfl, rfl, trivial⟩ rfl ?_
 refine BothW.mk ?_ ?_
 refine jQ 0 (qk := .i64) (kt := 3) (et := 106) (z := .slice none 0 0) rfl rfl rfl rfl ⟨rfl, rfl⟩ z88 z88 z88 (u.q.val u.xs.length) (by rw [hu]; cases bS qs (k : Int) <;> rfl) ?_
 refine jQ 1 (qk := .i64) (kt := 3) (et := 22) (z := .slice none 0 0) rfl rfl rfl rfl ⟨rfl, rfl⟩ z88 z88 z88 (o.q.val o.xs.length) (by rw [ho]; cases bS ts (k : Int) <;> rfl) ?_
 rotate_left
 refine jQ 1 (qk := .i64) (kt := 3) (et := 22) (z := .slice none 0 0) rfl rfl rfl rfl ⟨rfl, rfl⟩ z88 z88 z88 (o.q.val o.xs.length) (by rw [ho]; cases bS ts (k : Int) <;> rfl) ?_
 refine jQ 0 (qk := .i64) (kt := 3) (et := 106) (z := .slice none 0 0) rfl rfl rfl rfl ⟨rfl, rfl⟩ z88 z88 z88 (u.q.val u.xs.length) (by rw [hu]; cases bS qs (k : Int) <;> rfl) ?_
 all_goals
   refine tP 0 (qk := .i64) (kt := 3) (et := 106) rfl rfl rfl rfl rfl rfl rfl rfl z88 z88 _ rfl ?_
   refine tP 1 (qk := .i64) (kt := 3) (et := 22) rfl rfl rfl rfl rfl rfl rfl rfl z88 z88 _ rfl ?_
   have lq' := lq.next
   have lo' := lo.next
   apply CaseB.mk <;> intro g
   · have ae : s.places[k] = (p.threads[k]).m.length := by simpa using g
     have hne : ∀ {op : Op}, (p.threads[k]).m[(s.places[k]).toNat]? = some op → False := fun h => by
       have := (List.getElem?_eq_some_iff.1 h).1; omega
     have hfin : Fits p.pure s.pure → s.status[k] = 3 ∧ u.xs = [] ∧ o.xs = [] := fun e => by
       rcases (hth e).2.2 with h | ⟨op, h, _⟩
       · exact h.2
       · exact (hne h).elim
     refine aF aI aA rfl rfl rfl rfl rfl ⟨rfl, rfl⟩ (aN 5 rfl (.ofR (cR s))) k rfl z37 (fun ad3 => ?_)
     apply CaseB.mk <;> intro g
     · have q : ¬ s.status[k] = 3 := by simpa using g
       exact aG ⟨_, rfl, tno fun e => q (hfin e).1, rfl⟩ (fun _ => rfl)
     have s3 : s.status[k] = 3 := by simpa using g
     apply CaseB.mk <;> intro g
     · have q : ¬ u.xs = [] := dQ.1 g
       exact aG ⟨_, rfl, tno fun e => q (hfin e).2.1, rfl⟩ (fun _ => rfl)
     have ux : u.xs = [] := Classical.byContradiction fun n => by rw [dQ.2 n] at g; cases g
     apply CaseB.mk <;> intro g
     · have q : ¬ o.xs = [] := dQ.1 g
       exact aG ⟨_, rfl, tno fun e => q (hfin e).2.2, rfl⟩ (fun _ => rfl)
     have ox : o.xs = [] := Classical.byContradiction fun n => by rw [dQ.2 n] at g; cases g
     refine ⟨⟨(k + 1, eU qs (k : Int), eU ts (k : Int)), by omega, lq', lo', hnext ⟨a0, a1, .inl ⟨ae, s3, ux, ox⟩⟩⟩, ?_, by simp only; omega⟩
     exact aC [1, 0, 2, 3, 4, 5] zw1 zw0 zw1 zw5 zw3 rfl rfl
   have ane : ¬ s.places[k] = (p.threads[k]).m.length := by simpa using g
   have hlo : (s.places[k]).toNat < (p.threads[k]).m.length := by omega
   obtain ⟨op, hop⟩ : ∃ op, (p.threads[k]).m[(s.places[k]).toNat]? = some op := ⟨_, List.getElem?_eq_getElem hlo⟩
   have hopg : (p.threads[k]).m[(s.places[k]).toNat] = op := by rw [List.getElem?_eq_getElem hlo] at hop; injection hop
   have hfin : Fits p.pure s.pure → (s.status[k] = 0 ∧ u.xs = [] ∧ o.xs = []) ∨ (s.status[k] = 1 ∧ o.xs = [] ∧ u.xs = [iV op]) ∨ (s.status[k] = 2 ∧ u.xs = [] ∧ op.kind = 4 ∧ o.xs = [op.on]) := fun e => by
     rcases (hth e).2.2 with h | ⟨op', h, h2⟩
     · exact (ane h.1).elim
     · rw [hop] at h; injection h with h; subst h; exact h2
   have hgood : (s.status[k] = 0 ∧ u.xs = [] ∧ o.xs = []) ∨ (s.status[k] = 1 ∧ o.xs = [] ∧ u.xs = [iV op]) ∨ (s.status[k] = 2 ∧ u.xs = [] ∧ op.kind = 4 ∧ o.xs = [op.on]) → jS (p.threads[k]).m s.places[k] s.status[k] u.xs o.xs := fun h => ⟨a0, a1, .inr ⟨op, hop, h⟩⟩
   refine aF oX aA rfl rfl rfl rfl rfl ⟨rfl, rfl⟩ (aN 4 rfl (.trans (.R_R (bE p)) (.ofR (gD _ _ k hlt)))) (s.places[k]).toNat (by omega) z37 (fun ad3 => ?_)
   rw [hopg]
   refine aF aI aA rfl rfl rfl rfl rfl ⟨rfl, rfl⟩ (aN 5 rfl (.ofR (cR s))) k rfl z37 (fun ad4 => ?_)
   refine CaseB.mk (fun g => ?_) (fun g0 => ?_)
   · have s0 : s.status[k] = 0 := by simpa using g
     have hf0 : Fits p.pure s.pure → u.xs = [] ∧ o.xs = [] := fun e => by
       rcases hfin e with h | h | h
       · exact h.2
       · rw [s0] at h; exact absurd h.1 (by decide)
       · rw [s0] at h; exact absurd h.1 (by decide)
     apply CaseB.mk <;> intro g
     · have q : ¬ u.xs = [] := dQ.1 g
       exact aG ⟨_, rfl, tno fun e => q (hf0 e).1, rfl⟩ (fun _ => rfl)
     have ux : u.xs = [] := Classical.byContradiction fun n => by rw [dQ.2 n] at g; cases g
     apply CaseB.mk <;> intro g
     · have q : ¬ o.xs = [] := dQ.1 g
       exact aG ⟨_, rfl, tno fun e => q (hf0 e).2, rfl⟩ (fun _ => rfl)
     have ox : o.xs = [] := Classical.byContradiction fun n => by rw [dQ.2 n] at g; cases g
     refine ⟨⟨(k + 1, eU qs (k : Int), eU ts (k : Int)), by omega, lq', lo', hnext (hgood (.inl ⟨s0, ux, ox⟩))⟩, ?_, by simp only; omega⟩
     exact aC [1, 0, 2, 3, 4, 5] zw1 zw0 zw1 zw5 zw3 rfl rfl
   have n0 : ¬ s.status[k] = 0 := by simpa using g0
   refine CaseB.mk (fun g => ?_) (fun g1 => ?_)
   · have s1 : s.status[k] = 1 := by simpa using g
     have hf1 : Fits p.pure s.pure → o.xs = [] ∧ u.xs = [iV op] := fun e => by
       rcases hfin e with h | h | h
       · rw [s1] at h; exact absurd h.1 (by decide)
       · exact h.2
       · rw [s1] at h; exact absurd h.1 (by decide)
     apply CaseB.mk <;> intro g
     · have hk2 : op.kind = 2 ∨ op.kind = 8 := .inl z85
       have hwant : iV op = ⟨op.kind, op.on, op.arg⟩ := by simp only [iV, if_pos hk2]
       refine aH aA z88 z88 z88 200 [((3, 0), .v (.int .i64 op.kind)), ((3, 1), .v (.int .i64 op.on)), ((3, 2), .v (.int .i64 op.arg))] [2] [_] z102 z113 ⟨rfl, trivial⟩ rfl ?_
       apply CaseB.mk <;> intro g
       · have q : ¬ o.xs = [] := dQ.1 g
         exact aG ⟨_, rfl, tno fun e => q (hf1 e).1, rfl⟩ (fun _ => rfl)
       have ox : o.xs = [] := Classical.byContradiction fun n => by rw [dQ.2 n] at g; cases g
       apply CaseB.mk <;> intro g
       · have q : ¬ u.xs.length = 1 := by simp at g; omega
         exact aG ⟨_, rfl, tno fun e => q (by rw [(hf1 e).2]; rfl), rfl⟩ (fun _ => rfl)
       have ul : u.xs.length = 1 := by simp at g; omega
       obtain ⟨u0, huu⟩ : ∃ u0, u.xs = [u0] := by
         match hx : u.xs, ul with
         | [x], _ => exact ⟨x, rfl⟩
       have hin : ((k : Int), u) ∈ ps := by
         refine lq.sub.subset (uM ?_)
         cases hq : bS qs (k : Int) with
         | none => rw [hq] at hu; rw [hu] at ul; simp [LH.nil] at ul
         | some z => rw [hq] at hu; rw [hu]; rfl
       refine bM (ti := aZ tab) rN aA rfl rfl rfl rfl rfl ⟨rfl, rfl⟩ (aN 0 rfl (.ofO (uN hin))) 0 rfl z37 (fun ad5 => ?_)
       have hg0 : ∀ h0, u.xs[0]'h0 = u0 := fun h0 => by simp [huu]
       rw [hg0]
       refine jB rfl rfl rfl ⟨rfl, rfl⟩ (.bool (decide (u0 ≠ (⟨op.kind, op.on, op.arg⟩ : Waiting)))) (fun w => (run_eqGuard_agg w _ _ _ _ _ _ z88)) (fun w => (cB0 u0 ⟨op.kind, op.on, op.arg⟩ w)) ?_
       apply CaseB.mk <;> intro g
       · have q : ¬ u0 = (⟨op.kind, op.on, op.arg⟩ : Waiting) := by simpa using g
         exact aG ⟨_, rfl, tno fun e => q z62, rfl⟩ (fun _ => rfl)
       have ue : u0 = (⟨op.kind, op.on, op.arg⟩ : Waiting) := by simpa using g
       refine ⟨⟨(k + 1, eU qs (k : Int), eU ts (k : Int)), by omega, lq', lo', hnext (hgood (.inr (.inl ⟨s1, ox, by rw [huu, ue, hwant]⟩)))⟩, ?_, by simp only; omega⟩
       exact aC [1, 0, 2, 3, 4, 5] zw1 zw0 zw1 zw5 zw3 rfl rfl
     · have hn2 : ¬ op.kind = 2 := by simpa using g
       apply CaseB.mk <;> intro g
       · have hk2 : op.kind = 2 ∨ op.kind = 8 := .inr z85
         have hwant : iV op = ⟨op.kind, op.on, op.arg⟩ := by simp only [iV, if_pos hk2]
         refine aH aA z88 z88 z88 200 [((3, 0), .v (.int .i64 op.kind)), ((3, 1), .v (.int .i64 op.on)), ((3, 2), .v (.int .i64 op.arg))] [2] [_] z102 z113 ⟨rfl, trivial⟩ rfl ?_
         apply CaseB.mk <;> intro g
         · have q : ¬ o.xs = [] := dQ.1 g
           exact aG ⟨_, rfl, tno fun e => q (hf1 e).1, rfl⟩ (fun _ => rfl)
         have ox : o.xs = [] := Classical.byContradiction fun n => by rw [dQ.2 n] at g; cases g
         apply CaseB.mk <;> intro g
         · have q : ¬ u.xs.length = 1 := by simp at g; omega
           exact aG ⟨_, rfl, tno fun e => q (by rw [(hf1 e).2]; rfl), rfl⟩ (fun _ => rfl)
         have ul : u.xs.length = 1 := by simp at g; omega
         obtain ⟨u0, huu⟩ : ∃ u0, u.xs = [u0] := by
           match hx : u.xs, ul with
           | [x], _ => exact ⟨x, rfl⟩
         have hin : ((k : Int), u) ∈ ps := by
           refine lq.sub.subset (uM ?_)
           cases hq : bS qs (k : Int) with
           | none => rw [hq] at hu; rw [hu] at ul; simp [LH.nil] at ul
           | some z => rw [hq] at hu; rw [hu]; rfl
         refine bM (ti := aZ tab) rN aA rfl rfl rfl rfl rfl ⟨rfl, rfl⟩ (aN 0 rfl (.ofO (uN hin))) 0 rfl z37 (fun ad5 => ?_)
         have hg0 : ∀ h0, u.xs[0]'h0 = u0 := fun h0 => by simp [huu]
         rw [hg0]
         refine jB rfl rfl rfl ⟨rfl, rfl⟩ (.bool (decide (u0 ≠ (⟨op.kind, op.on, op.arg⟩ : Waiting)))) (fun w => (run_eqGuard_agg w _ _ _ _ _ _ z88)) (fun w => (cB0 u0 ⟨op.kind, op.on, op.arg⟩ w)) ?_
         apply CaseB.mk <;> intro g
         · have q : ¬ u0 = (⟨op.kind, op.on, op.arg⟩ : Waiting) := by simpa using g
           exact aG ⟨_, rfl, tno fun e => q z62, rfl⟩ (fun _ => rfl)
         have ue : u0 = (⟨op.kind, op.on, op.arg⟩ : Waiting) := by simpa using g
         refine ⟨⟨(k + 1, eU qs (k : Int), eU ts (k : Int)), by omega, lq', lo', hnext (hgood (.inr (.inl ⟨s1, ox, by rw [huu, ue, hwant]⟩)))⟩, ?_, by simp only; omega⟩
         exact aC [1, 0, 2, 3, 4, 5] zw1 zw0 zw1 zw5 zw3 rfl rfl
       · have hn8 : ¬ op.kind = 8 := by simpa using g
         have hwant : iV op = ⟨op.kind, op.on, 0⟩ := by simp only [iV, if_neg (show ¬ (op.kind = 2 ∨ op.kind = 8) from fun h => h.elim hn2 hn8)]
         refine aH aA z88 z88 z88 200 [((3, 0), .v (.int .i64 op.kind)), ((3, 1), .v (.int .i64 op.on)), ((3, 2), .v (.int .i64 0))] [2] [_] z102 z113 ⟨rfl, trivial⟩ rfl ?_
         apply CaseB.mk <;> intro g
         · have q : ¬ o.xs = [] := dQ.1 g
           exact aG ⟨_, rfl, tno fun e => q (hf1 e).1, rfl⟩ (fun _ => rfl)
         have ox : o.xs = [] := Classical.byContradiction fun n => by rw [dQ.2 n] at g; cases g
         apply CaseB.mk <;> intro g
         · have q : ¬ u.xs.length = 1 := by simp at g; omega
           exact aG ⟨_, rfl, tno fun e => q (by rw [(hf1 e).2]; rfl), rfl⟩ (fun _ => rfl)
         have ul : u.xs.length = 1 := by simp at g; omega
         obtain ⟨u0, huu⟩ : ∃ u0, u.xs = [u0] := by
           match hx : u.xs, ul with
           | [x], _ => exact ⟨x, rfl⟩
         have hin : ((k : Int), u) ∈ ps := by
           refine lq.sub.subset (uM ?_)
           cases hq : bS qs (k : Int) with
           | none => rw [hq] at hu; rw [hu] at ul; simp [LH.nil] at ul
           | some z => rw [hq] at hu; rw [hu]; rfl
         refine bM (ti := aZ tab) rN aA rfl rfl rfl rfl rfl ⟨rfl, rfl⟩ (aN 0 rfl (.ofO (uN hin))) 0 rfl z37 (fun ad5 => ?_)
         have hg0 : ∀ h0, u.xs[0]'h0 = u0 := fun h0 => by simp [huu]
         rw [hg0]
         refine jB rfl rfl rfl ⟨rfl, rfl⟩ (.bool (decide (u0 ≠ (⟨op.kind, op.on, 0⟩ : Waiting)))) (fun w => (run_eqGuard_agg w _ _ _ _ _ _ z88)) (fun w => (cB0 u0 ⟨op.kind, op.on, 0⟩ w)) ?_
         apply CaseB.mk <;> intro g
         · have q : ¬ u0 = (⟨op.kind, op.on, 0⟩ : Waiting) := by simpa using g
           exact aG ⟨_, rfl, tno fun e => q z62, rfl⟩ (fun _ => rfl)
         have ue : u0 = (⟨op.kind, op.on, 0⟩ : Waiting) := by simpa using g
         refine ⟨⟨(k + 1, eU qs (k : Int), eU ts (k : Int)), by omega, lq', lo', hnext (hgood (.inr (.inl ⟨s1, ox, by rw [huu, ue, hwant]⟩)))⟩, ?_, by simp only; omega⟩
         exact aC [1, 0, 2, 3, 4, 5] zw1 zw0 zw1 zw5 zw3 rfl rfl
   have n1 : ¬ s.status[k] = 1 := by simpa using g1
   refine CaseB.mk (fun g => ?_) (fun g2 => ?_)
   · have s2 : s.status[k] = 2 := by simpa using g
     have hf2 : Fits p.pure s.pure → u.xs = [] ∧ op.kind = 4 ∧ o.xs = [op.on] := fun e => by
       rcases hfin e with h | h | h
       · rw [s2] at h; exact absurd h.1 (by decide)
       · rw [s2] at h; exact absurd h.1 (by decide)
       · exact h.2
     refine aH aA z88 z88 z88 200 [((2, 0), .v (.int .i64 op.kind)), ((2, 1), .v (.int .i64 op.on))] [3] [_] z107 z116 ⟨rfl, trivial⟩ rfl ?_
     apply CaseB.mk <;> intro g
     · have q : ¬ u.xs = [] := dQ.1 g
       exact aG ⟨_, rfl, tno fun e => q (hf2 e).1, rfl⟩ (fun _ => rfl)
     have ux : u.xs = [] := Classical.byContradiction fun n => by rw [dQ.2 n] at g; cases g
     apply CaseB.mk <;> intro g
     · have q : ¬ op.kind = 4 := by simpa using g
       exact aG ⟨_, rfl, tno fun e => q (hf2 e).2.1, rfl⟩ (fun _ => rfl)
     have k4 : op.kind = 4 := by simpa using g
     apply CaseB.mk <;> intro g
     · have q : ¬ o.xs.length = 1 := by simp at g; omega
       exact aG ⟨_, rfl, tno fun e => q (by rw [(hf2 e).2.2]; rfl), rfl⟩ (fun _ => rfl)
     have ol : o.xs.length = 1 := by simp at g; omega
     obtain ⟨o0, hoo⟩ : ∃ o0, o.xs = [o0] := by
       match hx : o.xs, ol with
       | [x], _ => exact ⟨x, rfl⟩
     have hin : ((k : Int), o) ∈ os := by
       refine lo.sub.subset (uM ?_)
       cases hq : bS ts (k : Int) with
       | none => rw [hq] at ho; rw [ho] at ol; simp [LH.nil] at ol
       | some z => rw [hq] at ho; rw [ho]; rfl
     refine bM (ti := aZ tab) aI aA rfl rfl rfl rfl rfl ⟨rfl, rfl⟩ (aN 0 rfl (.ofO (uN hin))) 0 rfl z37 (fun ad5 => ?_)
     have hg0 : ∀ h0, o.xs[0]'h0 = o0 := fun h0 => by simp [hoo]
     rw [hg0]
     apply CaseB.mk <;> intro g
     · have q : ¬ o0 = op.on := by simpa using g
       exact aG ⟨_, rfl, tno fun e => q (by have := (hf2 e).2.2; rw [hoo] at this; injection this), rfl⟩ (fun _ => rfl)
     have oe : o0 = op.on := by simpa using g
     refine ⟨⟨(k + 1, eU qs (k : Int), eU ts (k : Int)), by omega, lq', lo', hnext (hgood (.inr (.inr ⟨s2, ux, k4, by rw [hoo, oe]⟩)))⟩, ?_, by simp only; omega⟩
     exact aC [1, 0, 2, 3, 4, 5] zw1 zw0 zw1 zw5 zw3 rfl rfl
   have n2 : ¬ s.status[k] = 2 := by simpa using g2
   exact aG ⟨_, rfl, tno fun e => (by rcases hfin e with h | h | h; exact n0 h.1; exact n1 h.1; exact n2 h.1), rfl⟩ (fun _ => rfl)
structure AllN (p : Nat → Prop) : Prop where
 mk :: (out : ∀ g, p g)
def mJ0 (E : Env) (ti : Nat → TI) (o : Oper) (Ms : List ((Nat × Nat) × SV)) (Fs : List Fct) (next : St → Prop) (T : List (Nat × SV)) (n c : Nat) (B : List (Nat × TypeId × Nat)) (M : List ((Nat × Nat) × SV)) (F : List Fct) : Go.Op → Prop
 | .buildSlice t len ps => (match ti t with
   | .mk _ _ _ _ (some e) _ _ _ => (match ti e with
     | .mk _ esz _ _ _ _ _ _ => (match o.dst with
       | some d => (match Nat.blt d E.N with
         | true => (match Nat.beq (dO ps.toList) len with
           | true => (match Nat.ble (len * esz + len) 16777216 with
             | true => (match oN T esz 0 ps.toList with
               | some cs => AllN fun g => next (.mk ((d, .v ((⟨some ⟨g, 0, none⟩, len⟩ : Sl).val len)) :: T) n (c + 1) B M (gX false ⟨some ⟨g, 0, none⟩, len⟩ e esz cs len :: F))
               | none => False)
             | false => False)
           | false => False)
         | false => False)
       | none => False)
     | .none => False)
   | _ => False)
 | op => jO0 E ti o Ms Fs next T n c B M F op
def vcH (E : Env) (ti : Nat → TI) (ops : List Oper) (n0 : Nat) (B0 : List (Nat × TypeId × Nat)) (Ms : List ((Nat × Nat) × SV)) (Fs : List Fct) (K : St → Prop) : Nat → List Bool → St → Prop
 | 0, _, _ => False
 | f + 1, L, .mk T n c B M F => match eN ti ops T c Ms (fM L 0 ops L) with
   | .pure i d s => (match d with
       | some d => (match Nat.blt d E.N with
         | true => vcH E ti ops n0 B0 Ms Fs K f (mG L i) (.mk ((d, s) :: T) n c B M F)
         | false => False)
       | none => vcH E ti ops n0 B0 Ms Fs K f (mG L i) (.mk T n c B M F))
   | .skip i d => (match d with
       | some d => (match Nat.blt d E.N with
         | true => vcH E ti ops n0 B0 Ms Fs K f (mG L i) (.mk ((d, .v undef) :: T) n c B M F)
         | false => False)
       | none => vcH E ti ops n0 B0 Ms Fs K f (mG L i) (.mk T n c B M F))
   | .split t b => CaseB b (vcH E ti ops n0 B0 Ms Fs K f L (.mk ((t, .lit true) :: T) n c B M F)) (vcH E ti ops n0 B0 Ms Fs K f L (.mk ((t, .lit false) :: T) n c B M F))
   | .idx i o => OpW (∀ A, ∃ s : SV, (∀ a w, WD E A n0 B0 Ms Fs w → TD E A T n c a w → (execOp a.eval o).run E.P w = .ok (.value (s.den A)) w ∧ s.okT n c w) ∧ (∃ d, Dst E o d ∧ vcH E ti ops n0 B0 Ms Fs K f (mG L i) (.mk ((d, s) :: T) n c B M F)))
   | .none => (match fM L 0 ops L with
     | [] => K (.mk T n c B M F)
     | i :: r => jN0 (i :: r) fun i => match nth ops i with
       | some o => (match eG ops T o.guard with
         | .go => mJ0 E ti o Ms Fs (fun s' => vcH E ti ops n0 B0 Ms Fs K f (mG L i) s') T n c B M F o.op
         | _ => False)
       | none => False)
section
variable {E : Env} {ti : Nat → TI}
theorem cK0 (hti : ∀ t, aT E.P t (ti t)) {o : Oper} {next : St → Prop} {A0 A : Nat → Nat} {n0 n c : Nat} {B0 B : List (Nat × TypeId × Nat)} {Ms M : List ((Nat × Nat) × SV)} {Fs F : List Fct} {T : List (Nat × SV)} {a : Act} {w ws : World}
   (hv : mJ0 E ti o Ms Fs next T n c B M F o.op) (hI : InvD E A0 n0 B0 Ms Fs A n B M F w) (hs : WD E A0 n0 B0 Ms Fs ws) (hT : TD E A T n c a w) {K : Act → World → Prop} {Q : Exit → Act → World → Prop}
   (hK : ∀ A' T' n' c' B' M' F' a' w', InvD E A0 n0 B0 Ms Fs A' n' B' M' F' w' → (∀ w2, TD E A' T' n' c' a' w2) → next (.mk T' n' c' B' M' F') → K a' w') :
   o.wp E.P a w K Q := by
 cases hop : o.op <;> rw [hop] at hv <;> simp only [mJ0] at hv
 case buildSlice t len ps =>
   split at hv
   · rename_i e ik kd bytes hte
     split at hv
     · rename_i agg2 esz zero2 fs2 el2 ik2 kd2 bytes2 hte2
       split at hv
       · rename_i d hd
         split at hv
         · rename_i hdn
           split at hv
           · rename_i hplen
             split at hv
             · rename_i h24
               split at hv
               · rename_i cs hcs
                 obtain ⟨hv⟩ := hv
                 obtain ⟨hr, hex, hnew⟩ := oU hti hT hop hte hte2 hplen h24 hcs
                 refine aQ hr ?_
                 rw [hd]
                 exact hK A _ _ _ _ _ _ _ _ ⟨hI.ag, hI.hn, hI.hb, hI.hm, fun f hf => List.mem_cons_of_mem _ (hI.hf f hf), hI.hw.learn hex hnew⟩ (fun w2 => (hT.step w2).put (d := d) (v := .v (Sl.val ⟨some ⟨w.heap.size, 0, none⟩, len⟩ len)) z78 trivial) (hv w.heap.size)
               · exact hv.elim
             · exact hv.elim
           · exact hv.elim
         · exact hv.elim
       · exact hv.elim
     · exact hv.elim
   · exact hv.elim
 all_goals exact vF hti (by rw [hop]; exact hv) hI hs hT hK
theorem gS (hti : ∀ t, aT E.P t (ti t)) {ops : List Oper} {A0 : Nat → Nat} {n0 : Nat} {B0 : List (Nat × TypeId × Nat)} {Ms : List ((Nat × Nat) × SV)} {Fs : List Fct} {K : St → Prop} {ws : World} (hs : WD E A0 n0 B0 Ms Fs ws) (hns : Region.noSelect ops.toArray = true) (hap : mU ops.toArray = true) :
   ∀ (f : Nat) (L : List Bool) (T : List (Nat × SV)) (n c : Nat) (B : List (Nat × TypeId × Nat)) (M : List ((Nat × Nat) × SV)) (F : List Fct) (A : Nat → Nat) (a : Act) (w : World) (k : Nat),
     vcH E ti ops n0 B0 Ms Fs K f L (.mk T n c B M F) → InvD E A0 n0 B0 Ms Fs A n B M F w → (∀ w2, WD E A0 n0 B0 Ms Fs w2 → TD E A T n c a w2) → unl L ≤ k →
     wpAnyH E.P .any ops.toArray (lN E K) (fun w => WD E A0 n0 B0 Ms Fs w) k L.toArray a w
 | 0, _, _, _, _, _, _, _, _, _, _, _, hv, _, _, _ => (hv : False).elim
 | f + 1, L, T, n, c, B, M, F, A, a, w, k, hv, hI, hT, hk => by
   have hS := hI.start hs
   have hTw := hT w hS
   have hloc : ∀ w2, WD E A0 n0 B0 Ms Fs w2 → WD E A n0 B0 Ms Fs w2 := fun w2 h => h.agree (fun k hk => (hI.ag k hk).symm)
   have hQ : ∀ (c : List PanicEntry) (a1 a2 : Act) (w : World), lN E K (.panic c) a1 w → lN E K (.panic c) a2 w := fun _ _ _ _ h => h
   have hset : ∀ i, L.toArray.setIfInBounds i true = (mG L i).toArray := fun i => by rw [yI]; simp
   have hunl : ∀ i, i ∈ fM L 0 ops L → unl (mG L i) + 1 = unl L := fun i hi => by
     have := wX (dA.1 hi)
     rw [hset] at this
     simpa using this
   obtain ⟨p1, p2, p3, p4⟩ := sQ (ti := ti) (ops := ops) (T := T) (c := c) (Ms := Ms) (fM L 0 ops L)
   simp only [vcH] at hv
   split at hv
   · rename_i i d s hp
     obtain ⟨hmem, o, ho, hg, hpv, hod⟩ := p1 i d s hp
     have hu := hunl i hmem
     have hmem' := dA.1 hmem
     obtain ⟨k', rfl⟩ : ∃ k', k = k' + 1 := ⟨k - 1, by omega⟩
     have hval : ∀ w2, WD E A0 n0 B0 Ms Fs w2 → OKV E A n c w2 ((execOp a.eval o).run E.P w2) s := fun w2 h2 =>
       oM hti (fun k o v hv => by
         obtain ⟨_, g1, g2⟩ := (hloc w2 h2).mem k o v hv
         exact ⟨g1, SV.small_more g2 hI.hn⟩) (hT w2 h2) hpv
     have hy : YieldsIf E.P ops.toArray (fun w => WD E A0 n0 B0 Ms Fs w) o (s.den A) a := .inl ⟨jC hTw hg o rfl, fun w2 h2 => (hval w2 h2).1⟩
     refine wpAnyH_take z81 hns (fX hap hmem') z77 (fun c a w h => h) hy hS ?_
     rw [hset]
     split at hv
     · rename_i d
       split at hv
       · rename_i hdn
         rw [hod]
         exact gS hti hs hns hap f _ _ n c B M F A _ w k' hv hI (fun w2 h2 => (hT w2 h2).put z78 (hval w2 h2).2) (by omega)
       · exact hv.elim
     · rw [hod]
       exact gS hti hs hns hap f _ _ n c B M F A _ w k' hv hI hT (by omega)
   · rename_i i d hp
     obtain ⟨hmem, o, ho, hg, hod⟩ := p2 i d hp
     have hu := hunl i hmem
     have hmem' := dA.1 hmem
     obtain ⟨k', rfl⟩ : ∃ k', k = k' + 1 := ⟨k - 1, by omega⟩
     have hy : YieldsIf E.P ops.toArray (fun w => WD E A0 n0 B0 Ms Fs w) o undef a := .inr ⟨vG hTw hg o rfl, rfl⟩
     refine wpAnyH_take z81 hns (fX hap hmem') z77 (fun c a w h => h) hy hS ?_
     rw [hset]
     split at hv
     · rename_i d
       split at hv
       · rename_i hdn
         rw [hod]
         exact gS hti hs hns hap f _ _ n c B M F A _ w k' hv hI (fun w2 h2 => (hT w2 h2).put (v := .v undef) z78 trivial) (by omega)
       · exact hv.elim
     · rw [hod]
       exact gS hti hs hns hap f _ _ n c B M F A _ w k' hv hI hT (by omega)
   · rename_i t b hp
     obtain ⟨o, hg⟩ := p3 t b hp
     have hl := tO hTw hg
     cases b with
     | true => exact gS hti hs hns hap f _ _ n c B M F A _ w k (hv.t rfl) hI (fun w2 h2 => (hT w2 h2).lit hl) hk
     | false => exact gS hti hs hns hap f _ _ n c B M F A _ w k (hv.f rfl) hI (fun w2 h2 => (hT w2 h2).lit hl) hk
   · rename_i i o hp
     obtain ⟨hmem, ho, hg⟩ := p4 i o hp
     have hu := hunl i hmem
     have hmem' := dA.1 hmem
     obtain ⟨k', rfl⟩ : ∃ k', k = k' + 1 := ⟨k - 1, by omega⟩
     obtain ⟨s, h1, d, hd, hv⟩ := hv.out A
     have hy : YieldsIf E.P ops.toArray (fun w => WD E A0 n0 B0 Ms Fs w) o (s.den A) a := .inl ⟨jC hTw hg o rfl, fun w2 h2 => (h1 a w2 (hloc w2 h2) (hT w2 h2)).1⟩
     refine wpAnyH_take z81 hns (fX hap hmem') z77 (fun c a w h => h) hy hS ?_
     rw [hd.1, hset]
     exact gS hti hs hns hap f _ _ n c B M F A _ w k' hv hI (fun w2 h2 => (hT w2 h2).put hd.lt (h1 a w2 (hloc w2 h2) (hT w2 h2)).2) (by omega)
   · split at hv
     · rename_i hr
       refine wpAnyH_done (List.eq_nil_iff_forall_not_mem.2 fun i hi => ?_) ⟨_, ⟨A, hI.hw, hTw⟩, hv⟩ k
       rw [← dA, hr] at hi
       cases hi
     · rename_i i0 r hr
       have hmem0 : i0 ∈ fM L 0 ops L := by rw [hr]; simp
       have hu := hunl i0 hmem0
       obtain ⟨k', rfl⟩ : ∃ k', k = k' + 1 := ⟨k - 1, by omega⟩
       refine wpAnyH_all rfl (fun e => by have := dA.1 hmem0; rw [e] at this; cases this) fun i hi => ?_
       have hmem := dA.2 hi
       have hvi := vE hv i (by rw [← hr]; exact hmem)
       have hui := hunl i hmem
       cases ho : nth ops i with
       | none => rw [ho] at hvi; exact hvi.elim
       | some o =>
         rw [ho] at hvi
         simp only at hvi
         rw [mE] at ho
         split at hvi
         · rename_i hg
           unfold wpOp
           simp only [show ops.toArray[i]? = some o by simpa using ho, jC hTw hg o rfl, if_true]
           refine .inl (cK0 hti hvi hI hs hTw ?_)
           intro A' T' n' c' B' M' F' a' w' hI' hT' hn
           rw [hset]
           exact ⟨hI'.start hs, gS hti hs hns hap f _ _ n' c' B' M' F' A' a' w' k' hn hI' (fun w2 _ => hT' w2) (by omega)⟩
         · exact hvi.elim
theorem aV0 {id : Nat} {ops : Array Oper} {T : List (Nat × SV)} {n c : Nat} {B : List (Nat × TypeId × Nat)} {M : List ((Nat × Nat) × SV)} {F : List Fct} {K : St → Prop} (hti : ∀ t, aT E.P t (ti t)) (hm : E.P.follows .mixedOrders = true) (hns : Region.noSelect ops = true) (hap : mU ops = true)
   (fuel : Nat) (Ms : List ((Nat × Nat) × SV)) (ix : List Nat) (Fs : List Fct) (hM : MW M n Ms) (hMB : MBW B Ms) (hF : FK F ix Fs) (hix : hJ ix = true)
   (hv : vcH E ti ops.toList n B Ms Fs K fuel (qK ops.toList) (.mk T n (c + 1) B M F)) :
   DrawW (∀ a w, Den E (.mk T n c B M F) a w → (Code.region id ops true).wp E.P (lN E K) a w) := by
 refine ⟨fun a w hd => ?_⟩
 obtain ⟨A, hW, hT⟩ := hd
 have hdr : Ext w { w with drawn := w.drawn + 1 } := ⟨rfl, rfl, rfl, Nat.le_refl _, fun _ _ _ => rfl⟩
 have hW' := hW.growExt hdr
 have hs : WD E A n B Ms Fs { w with drawn := w.drawn + 1 } := by
   have hp := hW'.pick ix hF.fw hix
   refine ⟨hp.key, hp.inj, fun k o v hv => ?_, hp.a0, hp.n0, hp.ext, hp.fct, hp.dj⟩
   obtain ⟨h1, h2⟩ := vB hM k o v hv
   exact ⟨uJ hMB k o v hv, (hp.mem k o v h1).2.1, h2⟩
 refine wp_region_held (S := fun w => WD E A n B Ms Fs w) hm ?_
 have := gS hti (ops := ops.toList) (K := K) hs (by simpa using hns) (by simpa using hap) fuel (qK ops.toList) T n (c + 1) B M F A a { w with drawn := w.drawn + 1 } ops.size hv
   ⟨fun _ _ => rfl, Nat.le_refl _, fun _ h => h, fun k o v hv => (vB hM k o v hv).1, hF.keep, hW'⟩ (fun w2 _ => hT.step w2) (by simp [mV, mH])
 rw [Array.toArray_toList, mV] at this
 simp only [Array.length_toList, List.toArray_replicate] at this
 exact this
end
end Go.Proofs.YtchkcjeeknfchaaGreatDoor
