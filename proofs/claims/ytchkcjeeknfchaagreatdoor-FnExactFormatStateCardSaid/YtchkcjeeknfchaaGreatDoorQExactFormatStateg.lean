/- FnExactFormatState: texts that its proof stands on, part 7. -/
import Derived.Shelf.Strings.OnBuilder
import Derived.Shelf.Strconv.Itoa3
import Derived.ProofKit
import Derived.Deep.Slices
import Derived.Laws.StructEq
import Derived.Test.YtchkcjeeknfchaaGreatDoorQExactFormatStatef
namespace Go.Proofs.YtchkcjeeknfchaaGreatDoor

open Go Go.Sx Go.RowKit

theorem fits_iff {p : Prog} {s : State} (ok : ProgOk p) (sh : SharedOk p s) (np : s.places.length = p.threads.length) (ns : s.status.length = p.threads.length) (lsaid : s.said.length ≤ 64) (f0 : 0 ≤ s.fault) (f4 : s.fault ≤ 4) (said : ∀ v ∈ s.said, isValue v = true) :
    Fits p s ↔ ((∀ e ∈ events s, e.1 < (p.threads.length : Int)) ∧ (∀ (t : Nat) ops at_ st, p.threads[t]? = some ops → s.places[t]? = some at_ → s.status[t]? = some st → ThreadS s ops t at_ st (ofKey (events s) t).length) ∧ OwnersS p s) := by
  have hop : ∀ (t : Nat) ops (at_ : Int) op, p.threads[t]? = some ops → ops[at_.toNat]? = some op → OpOk p op := fun t ops at_ op h1 h2 => (ok.ops _ (List.mem_of_getElem? h1)).2 _ (List.mem_of_getElem? h2)
  constructor
  · intro h
    refine ⟨fun e he => (h.ev e he).2, fun t ops at_ st h1 h2 h3 => ?_, fun i x hx h1 => ?_⟩
    · obtain ⟨a0, a1, h4⟩ := h.threads t ops at_ st h1 h2 h3
      refine ⟨a0, a1, ?_⟩
      rcases h4 with ⟨e1, e2, e3, e4⟩ | ⟨op, e1, e2⟩
      · exact .inl ⟨e1, e2, by rw [e3]; rfl⟩
      · refine .inr ⟨op, e1, ?_⟩
        rcases e2 with ⟨e2, e3, e4⟩ | ⟨e2, e3, e4⟩ | ⟨e2, e3, e4, e5⟩
        · exact .inl ⟨e2, by rw [e3]; rfl⟩
        · exact .inr (.inl ⟨e2, by rw [e4]; rfl, (waits_iff (hop t ops at_ op h1 e1)).2 (by rw [e4]; simp)⟩)
        · refine .inr (.inr ⟨e2, by rw [e3]; rfl, e4, ?_⟩)
          have hm : op.on ∈ ofKey (owners s) t := by rw [e5]; simp
          obtain ⟨j, x, hx, h5, h6, h7⟩ := owners_mem.1 hm
          exact ⟨x, by rw [h7]; simpa using hx, h5, h6⟩
    · have hm : (x.owner, (i : Int)) ∈ owners s := ofKey_mem.1 (owners_mem.2 ⟨i, x, hx, h1, rfl, rfl⟩)
      obtain ⟨o0, o1⟩ := h.ow _ hm
      simp only at o0 o1
      obtain ⟨t, ht⟩ : ∃ t : Nat, x.owner = t := ⟨_, (Int.toNat_of_nonneg o0).symm⟩
      have hlt : t < p.threads.length := by omega
      have hpl : t < s.places.length := by omega
      have hsl : t < s.status.length := by omega
      have hmem : (i : Int) ∈ ofKey (owners s) t := ofKey_mem.2 (ht ▸ hm)
      obtain ⟨a0, a1, h4⟩ := h.threads t _ _ _ (List.getElem?_eq_getElem hlt) (List.getElem?_eq_getElem hpl) (List.getElem?_eq_getElem hsl)
      rcases h4 with ⟨e1, e2, e3, e4⟩ | ⟨op, e1, e2⟩
      · rw [e4] at hmem; cases hmem
      · rcases e2 with ⟨e2, e3, e4⟩ | ⟨e2, e3, e4⟩ | ⟨e2, e3, e4, e5⟩
        · rw [e4] at hmem; cases hmem
        · rw [e3] at hmem; cases hmem
        · rw [e5] at hmem
          exact ⟨t, ht, _, _, op, List.getElem?_eq_getElem hlt, by rw [List.getElem?_eq_getElem hsl, e2], List.getElem?_eq_getElem hpl, e1, (List.mem_singleton.1 hmem).symm⟩
  · rintro ⟨hev, hth, how⟩
    have own2 : ∀ (t : Nat) (i : Int), i ∈ ofKey (owners s) t → ∃ ops at_ op, p.threads[t]? = some ops ∧ s.status[t]? = some 2 ∧ s.places[t]? = some at_ ∧ ops[at_.toNat]? = some op ∧ op.on = i := by
      intro t i hm
      obtain ⟨j, x, hx, h1, h2, rfl⟩ := owners_mem.1 hm
      obtain ⟨t', e1, ops, at_, op, e2, e3, e4, e5, e6⟩ := how j x hx h1
      obtain rfl : t' = t := by omega
      exact ⟨ops, at_, op, e2, e3, e4, e5, e6⟩
    have none : ∀ (t : Nat) st, s.status[t]? = some st → st ≠ 2 → ofKey (owners s) t = [] := fun t st h1 h2 => by
      refine List.eq_nil_iff_forall_not_mem.2 fun i hm => ?_
      obtain ⟨_, _, _, _, e, _⟩ := own2 t i hm
      rw [h1] at e; injection e with e; exact h2 e
    refine ⟨ok, np, ns, sh.lsems, sh.lgroups, sh.lbarriers, sh.lchans, sh.lonces, lsaid, f0, f4, sh.sems, sh.groups, sh.barriers, sh.chans, sh.onces, said, fun t ops at_ st h1 h2 h3 => ?_, fun e he => ⟨ev_nonneg sh e he, hev e he⟩, fun e he => ?_⟩
    · obtain ⟨a0, a1, h4⟩ := hth t ops at_ st h1 h2 h3
      have l0 : ∀ {l : List Waiting}, ((l.length : Nat) : Int) = 0 → l = [] := fun h => List.eq_nil_of_length_eq_zero (by omega)
      refine ⟨a0, a1, ?_⟩
      rcases h4 with ⟨e1, e2, e3⟩ | ⟨op, e1, e2⟩
      · exact .inl ⟨e1, e2, l0 e3, none t st h3 (by omega)⟩
      · refine .inr ⟨op, e1, ?_⟩
        rcases e2 with ⟨e2, e3⟩ | ⟨e2, e3, e4⟩ | ⟨e2, e3, e4, x, e5, e6, e7⟩
        · exact .inl ⟨e2, l0 e3, none t st h3 (by omega)⟩
        · refine .inr (.inl ⟨e2, none t st h3 (by omega), ?_⟩)
          have hm := (waits_iff (hop t ops at_ op h1 e1)).1 e4
          obtain ⟨a, ha⟩ : ∃ a, ofKey (events s) t = [a] := List.length_eq_one_iff.1 (by omega)
          rw [ha] at hm ⊢
          rw [List.mem_singleton.1 hm]
        · have o0 := (hop t ops at_ op h1 e1).2.2.1
          refine .inr (.inr ⟨e2, l0 e3, e4, one_of (owners_nodup s t) (owners_mem.2 ⟨_, x, e5, e6, e7, by omega⟩) fun i hi => ?_⟩)
          obtain ⟨ops', at', op', g1, _, g3, g4, g5⟩ := own2 t i hi
          rw [h1] at g1; injection g1 with g1; subst g1
          rw [h2] at g3; injection g3 with g3; subst g3
          rw [e1] at g4; injection g4 with g4; subst g4
          exact g5.symm
    · obtain ⟨a, b⟩ := e
      obtain ⟨j, x, hx, h1, h2, h3⟩ := owners_mem.1 (ofKey_mem.2 he)
      obtain ⟨t, e1, ops, _, _, e2, _⟩ := how j x hx h1
      have := (List.getElem?_eq_some_iff.1 e2).1
      exact ⟨by simp only; omega, by simp only; omega⟩

set_option maxHeartbeats 16000000 in
set_option maxRecDepth 100000 in
theorem stateFitsS_c (p : ProgH) (s : StateH) (w : World) (h : At w [fR (progO p), fR (stateO s)]) (hp : p.pure.small20) (hs : s.pure.small20) :
    Calls Tryz.prog 15 #[progV p, stateV s] w (Tells w (Fits p.pure s.pure)) := by
  have mlen : ∀ {α β : Type} (f : α → β) (xs : List α), (xs.map f).length = xs.length := fun f xs => by simp
  have lt : p.pure.threads.length = p.threads.length := mlen _ _
  refine calls2 Tryz.func15 rfl tabOk w _ rfl _ rfl _ h ⟨rfl, rfl, rfl, rfl, trivial⟩ _ _ (by decide) ?_
  refine stop_call _ cl49 rfl rfl rfl rfl ⟨rfl, rfl⟩ (fun A w hW => progValidS_c p w ⟨hW.get 0 rfl (.refl _), trivial⟩ ⟨hp.1, hp.2.1, hp.2.2.1, hp.2.2.2.1⟩) ?_
  rintro v L ⟨b, rfl, hb, rfl⟩
  refine CaseB.mk (fun g => ?_) (fun g => ?_)
  · exact retw [] ⟨_, rfl, tno fun e => (by rw [hb.2 e.prog] at g; cases g), rfl⟩ trivial rfl trivial (fun _ => rfl)
  have ok : ProgOk p.pure := hb.1 (by simpa using g)
  refine CaseB.mk (fun g => ?_) (fun g => ?_)
  · have q : ¬ s.places.length = p.threads.length := by simp at g; omega
    exact retw [] ⟨_, rfl, tno fun e => q (by have := e.np; simpa [StateH.pure, ProgH.pure] using this), rfl⟩ trivial rfl trivial (fun _ => rfl)
  have c0 : s.places.length = p.threads.length := by simp at g; omega
  refine CaseB.mk (fun g => ?_) (fun g => ?_)
  · have q : ¬ s.status.length = p.threads.length := by simp at g; omega
    exact retw [] ⟨_, rfl, tno fun e => q (by have := e.ns; simpa [StateH.pure, ProgH.pure] using this), rfl⟩ trivial rfl trivial (fun _ => rfl)
  have c1 : s.status.length = p.threads.length := by simp at g; omega
  refine stop_call _ cl50 rfl rfl rfl rfl ⟨rfl, rfl⟩ (fun A w hW => shared_c p s w ⟨hW.get 0 rfl (.refl _), hW.get 1 rfl (.refl _), trivial⟩ ok hs) ?_
  rintro v L ⟨bb, rfl, hbb, rfl⟩
  refine CaseB.mk (fun g => ?_) (fun g => ?_)
  · exact retw [] ⟨_, rfl, tno fun e => (by rw [hbb.2 e.shared] at g; cases g), rfl⟩ trivial rfl trivial (fun _ => rfl)
  have sh := hbb.1 (by simpa using g)
  refine CaseB.mk (fun g => ?_) (fun g => ?_)
  · have q : ¬ s.said.length ≤ 64 := by have g' := of_decide_eq_true g; omega
    exact retw [] ⟨_, rfl, tno fun e => q e.lsaid, rfl⟩ trivial rfl trivial (fun _ => rfl)
  have c7 : s.said.length ≤ 64 := by have g' := of_decide_eq_false g; omega
  refine CaseB.mk (fun g => ?_) (fun g => ?_)
  · have q : ¬ 0 ≤ s.fault := by have g' := of_decide_eq_true g; omega
    exact retw [] ⟨_, rfl, tno fun e => q e.f0, rfl⟩ trivial rfl trivial (fun _ => rfl)
  have c8 : 0 ≤ s.fault := by have g' := of_decide_eq_false g; omega
  refine CaseB.mk (fun g => ?_) (fun g => ?_)
  · have q : ¬ s.fault ≤ 4 := by have g' := of_decide_eq_true g; omega
    exact retw [] ⟨_, rfl, tno fun e => q e.f4, rfl⟩ trivial rfl trivial (fun _ => rfl)
  have c9 : s.fault ≤ 4 := by have g' := of_decide_eq_false g; omega
  have n4 : p.threads.length ≤ 4 := by have := ok.n4; rwa [lt] at this
  refine LoopW.mk ⟨{ k : Nat // k ≤ s.said.length ∧ ∀ x ∈ s.said.take k, isValue x = true },
    fun k => .mk [(2, .p 0 0), (3, .p 1 0), (5, .v (.int .i64 (p.threads.length : Int))), (6, .v (.int .i64 (k.1 : Int)))] 2 0 [(0, 38, 5), (1, 46, 9)] [((0, 0), .v (p.h0.val p.sems.length)), ((0, 1), .v (p.h1.val p.groups.length)), ((0, 2), .v (p.h2.val p.barriers.length)), ((0, 3), .v (p.h3.val p.rooms.length)), ((0, 4), .v (p.h4.val p.threads.length)), ((1, 0), .v (s.h0.val s.places.length)), ((1, 1), .v (s.h1.val s.status.length)), ((1, 2), .v (s.h2.val s.sems.length)), ((1, 3), .v (s.h3.val s.onces.length)), ((1, 4), .v (s.h4.val s.groups.length)), ((1, 5), .v (s.h5.val s.barriers.length)), ((1, 6), .v (s.h6.val s.chans.length)), ((1, 7), .v (s.h7.val s.said.length)), ((1, 8), .v (.int .i64 s.fault))] [fR (progO p), fR (stateO s)],
    fun k => s.said.length - k.1, ⟨0, Nat.zero_le _, by simp⟩, ?_, ?_⟩
  · refine weak_mk [0, 1] ?_ ?_ ?_ ?_ ?_ rfl rfl
    · repeat (first | exact trivial | refine ⟨⟨_, rfl, (by first | exact .of rfl | exact .lit rfl | exact .of (by first | (rfl)) | exact .lit (by first | (rfl))), (by first | exact trivial | exact Nat.le_of_ble_eq_true rfl | exact small1 rfl)⟩, ?_⟩)
    · repeat (first | exact trivial | refine ⟨⟨(by first | exact .head _ | exact .tail _ (.head _) | exact .tail _ (.tail _ (.head _)) | exact .tail _ (.tail _ (.tail _ (.head _))) | exact .tail _ (.tail _ (.tail _ (.tail _ (.head _)))) | exact .tail _ (.tail _ (.tail _ (.tail _ (.tail _ (.head _))))) | exact .tail _ (.tail _ (.tail _ (.tail _ (.tail _ (.tail _ (.head _)))))) | exact .tail _ (.tail _ (.tail _ (.tail _ (.tail _ (.tail _ (.tail _ (.head _))))))) | exact .tail _ (.tail _ (.tail _ (.tail _ (.tail _ (.tail _ (.tail _ (.tail _ (.head _)))))))) | exact .tail _ (.tail _ (.tail _ (.tail _ (.tail _ (.tail _ (.tail _ (.tail _ (.tail _ (.head _)))))))))), Nat.le_of_ble_eq_true rfl⟩, ?_⟩)
    · repeat (first | exact trivial | refine ⟨⟨_, rfl, (by first | exact .of rfl | exact .lit rfl | exact .of (by first | (rfl)) | exact .lit (by first | (rfl))), (by first | exact trivial | exact Nat.le_of_ble_eq_true rfl | exact small1 rfl)⟩, ?_⟩)
    · repeat (first | exact trivial | refine ⟨⟨_, rfl⟩, ?_⟩)
    · repeat (first | exact trivial | refine ⟨.inl ⟨_, rfl, (by first | rfl | (rfl))⟩, ?_⟩ | refine ⟨.inr ⟨Nat.le_of_ble_eq_true rfl, rfl, rfl, rfl, rfl⟩, ?_⟩)
  rintro ⟨k, hk, hinv⟩
  refine CaseB.mk (fun g => ?_) (fun g => ?_)
  · have hlt : k < s.said.length := by simpa using g
    have hw := e_succ k _ hlt (by omega)
    refine stop_idx encInt tabOk rfl rfl rfl rfl rfl ⟨rfl, rfl⟩ (rdVia 1 rfl (.ofR (stateO_said s))) k rfl (by first | omega | (simp; done) | (simp; omega) | (unfold maxLen; omega) | (unfold maxLen; simp; done) | (unfold maxLen; simp; omega)) (fun ad => ?_)
    refine stop_call _ cl51 rfl rfl rfl rfl ⟨rfl, rfl⟩ (fun A w hW => l2Value_c _ w) ?_
    rintro v L ⟨rfl, rfl⟩
    refine CaseB.mk (fun g => ?_) (fun g => ?_)
    · exact retw [] ⟨_, rfl, tno fun e => (by have := e.said _ (List.getElem_mem hlt); rw [this] at g; cases g), rfl⟩ trivial rfl trivial (fun _ => rfl)
    have q1 : isValue s.said[k] = true := by simpa using g
    refine ⟨⟨k + 1, by omega, fun x hm => ?_⟩, ?_, by simp only; omega⟩
    · rw [List.take_succ_eq_append_getElem hlt] at hm
      rcases List.mem_append.1 hm with hm | hm
      · exact hinv x hm
      · rw [List.mem_singleton.1 hm]; exact q1
    · refine weak_mk [0, 1] ?_ ?_ ?_ ?_ ?_ rfl rfl
      · repeat (first | exact trivial | refine ⟨⟨_, rfl, (by first | exact .of rfl | exact .lit rfl | exact .of (by first | ((exact congrArg (fun z => SV.v (Value.int .i64 z)) hw))) | exact .lit (by first | ((exact congrArg (fun z => SV.v (Value.int .i64 z)) hw)))), (by first | exact trivial | exact Nat.le_of_ble_eq_true rfl | exact small1 rfl)⟩, ?_⟩)
      · repeat (first | exact trivial | refine ⟨⟨(by first | exact .head _ | exact .tail _ (.head _) | exact .tail _ (.tail _ (.head _)) | exact .tail _ (.tail _ (.tail _ (.head _))) | exact .tail _ (.tail _ (.tail _ (.tail _ (.head _)))) | exact .tail _ (.tail _ (.tail _ (.tail _ (.tail _ (.head _))))) | exact .tail _ (.tail _ (.tail _ (.tail _ (.tail _ (.tail _ (.head _)))))) | exact .tail _ (.tail _ (.tail _ (.tail _ (.tail _ (.tail _ (.tail _ (.head _))))))) | exact .tail _ (.tail _ (.tail _ (.tail _ (.tail _ (.tail _ (.tail _ (.tail _ (.head _)))))))) | exact .tail _ (.tail _ (.tail _ (.tail _ (.tail _ (.tail _ (.tail _ (.tail _ (.tail _ (.head _)))))))))), Nat.le_of_ble_eq_true rfl⟩, ?_⟩)
      · repeat (first | exact trivial | refine ⟨⟨_, rfl, (by first | exact .of rfl | exact .lit rfl | exact .of (by first | ((exact congrArg (fun z => SV.v (Value.int .i64 z)) hw))) | exact .lit (by first | ((exact congrArg (fun z => SV.v (Value.int .i64 z)) hw)))), (by first | exact trivial | exact Nat.le_of_ble_eq_true rfl | exact small1 rfl)⟩, ?_⟩)
      · repeat (first | exact trivial | refine ⟨⟨_, rfl⟩, ?_⟩)
      · repeat (first | exact trivial | refine ⟨.inl ⟨_, rfl, (by first | rfl | ((exact congrArg (fun z => SV.v (Value.int .i64 z)) hw)))⟩, ?_⟩ | refine ⟨.inr ⟨Nat.le_of_ble_eq_true rfl, rfl, rfl, rfl, rfl⟩, ?_⟩)
  have hge : s.said.length ≤ k := by simpa using g
  rw [List.take_of_length_le hge] at hinv
  have hF := fits_iff ok sh (by rw [lt]; exact c0) (by rw [lt]; exact c1) c7 c8 c9 hinv
  rw [lt] at hF
  refine stop_call _ cl52 rfl rfl rfl rfl ⟨rfl, rfl⟩ (fun A w hW => queued_c p s w ⟨hW.get 0 rfl (.refl _), hW.get 1 rfl (.refl _), trivial⟩ ok sh) ?_
  rintro v L ⟨y, cs, bq, rfl, rfl, hb1, hb2⟩
  refine CaseB.mk (fun g => ?_) (fun g => ?_)
  · exact retw [] ⟨_, rfl, tno fun e => (by rw [hb1.2 (hF.1 e).1] at g; cases g), rfl⟩ trivial rfl trivial (fun _ => rfl)
  have bt : bq = true := by simpa using g
  obtain ⟨hcl, hcs⟩ := hb2 bt
  have hev := hb1.1 bt
  refine LoopW.mk ⟨{ k : Nat // k ≤ p.threads.length ∧ ∀ (t : Nat) (ht : t < p.threads.length), t < k → ThreadS s.pure (p.threads[t]).m t s.places[t] s.status[t] (ofKey (events s.pure) t).length },
    fun k => .mk [(2, .p 0 0), (3, .p 1 0), (5, .v (.int .i64 (p.threads.length : Int))), (7, .v (y.val cs.length)), (9, .v (.int .i64 (k.1 : Int)))] 2 0 [(0, 38, 5), (1, 46, 9)] [((0, 0), .v (p.h0.val p.sems.length)), ((0, 1), .v (p.h1.val p.groups.length)), ((0, 2), .v (p.h2.val p.barriers.length)), ((0, 3), .v (p.h3.val p.rooms.length)), ((0, 4), .v (p.h4.val p.threads.length)), ((1, 0), .v (s.h0.val s.places.length)), ((1, 1), .v (s.h1.val s.status.length)), ((1, 2), .v (s.h2.val s.sems.length)), ((1, 3), .v (s.h3.val s.onces.length)), ((1, 4), .v (s.h4.val s.groups.length)), ((1, 5), .v (s.h5.val s.barriers.length)), ((1, 6), .v (s.h6.val s.chans.length)), ((1, 7), .v (s.h7.val s.said.length)), ((1, 8), .v (.int .i64 s.fault))] [own y 3 cInt 1 cs, fR (progO p), fR (stateO s)],
    fun k => p.threads.length - k.1, ⟨0, Nat.zero_le _, fun t ht h => by omega⟩, ?_, ?_⟩
  · refine weak_mk [0, 1, 2] ?_ ?_ ?_ ?_ ?_ rfl rfl
    · repeat (first | exact trivial | refine ⟨⟨_, rfl, (by first | exact .of rfl | exact .lit rfl | exact .of (by first | (rfl)) | exact .lit (by first | (rfl))), (by first | exact trivial | exact Nat.le_of_ble_eq_true rfl | exact small1 rfl)⟩, ?_⟩)
    · repeat (first | exact trivial | refine ⟨⟨(by first | exact .head _ | exact .tail _ (.head _) | exact .tail _ (.tail _ (.head _)) | exact .tail _ (.tail _ (.tail _ (.head _))) | exact .tail _ (.tail _ (.tail _ (.tail _ (.head _)))) | exact .tail _ (.tail _ (.tail _ (.tail _ (.tail _ (.head _))))) | exact .tail _ (.tail _ (.tail _ (.tail _ (.tail _ (.tail _ (.head _)))))) | exact .tail _ (.tail _ (.tail _ (.tail _ (.tail _ (.tail _ (.tail _ (.head _))))))) | exact .tail _ (.tail _ (.tail _ (.tail _ (.tail _ (.tail _ (.tail _ (.tail _ (.head _)))))))) | exact .tail _ (.tail _ (.tail _ (.tail _ (.tail _ (.tail _ (.tail _ (.tail _ (.tail _ (.head _)))))))))), Nat.le_of_ble_eq_true rfl⟩, ?_⟩)
    · repeat (first | exact trivial | refine ⟨⟨_, rfl, (by first | exact .of rfl | exact .lit rfl | exact .of (by first | (rfl)) | exact .lit (by first | (rfl))), (by first | exact trivial | exact Nat.le_of_ble_eq_true rfl | exact small1 rfl)⟩, ?_⟩)
    · repeat (first | exact trivial | refine ⟨⟨_, rfl⟩, ?_⟩)
    · repeat (first | exact trivial | refine ⟨.inl ⟨_, rfl, (by first | rfl | (rfl))⟩, ?_⟩ | refine ⟨.inr ⟨Nat.le_of_ble_eq_true rfl, rfl, rfl, rfl, rfl⟩, ?_⟩)
  rintro ⟨k, hk, hth⟩
  have hfull : ∀ (t : Nat) (ht : t < p.threads.length) ops at_ st, p.pure.threads[t]? = some ops → s.pure.places[t]? = some at_ → s.pure.status[t]? = some st → ops = (p.threads[t]).m ∧ at_ = s.places[t] ∧ st = s.status[t] := fun t ht ops at_ st h1 h2 h3 => by
    have e1 : p.pure.threads[t]? = some (p.threads[t]).m := by simp [ProgH.pure, ht]
    have e2 : s.pure.places[t]? = some s.places[t] := List.getElem?_eq_getElem (show t < s.places.length by omega)
    have e3 : s.pure.status[t]? = some s.status[t] := List.getElem?_eq_getElem (show t < s.status.length by omega)
    rw [e1] at h1; rw [e2] at h2; rw [e3] at h3
    injection h1 with h1; injection h2 with h2; injection h3 with h3
    exact ⟨h1.symm, h2.symm, h3.symm⟩
  have hone : Fits p.pure s.pure → ∀ (t : Nat) (ht : t < p.threads.length), ThreadS s.pure (p.threads[t]).m t s.places[t] s.status[t] (ofKey (events s.pure) t).length := fun e t ht =>
    (hF.1 e).2.1 t _ _ _ (by simp [ProgH.pure, ht]) (List.getElem?_eq_getElem (show t < s.places.length by omega)) (List.getElem?_eq_getElem (show t < s.status.length by omega))
  refine CaseB.mk (fun g => ?_) (fun g => ?_)
  · have hlt : k < p.threads.length := by simpa using g
    have hw := e_succ k _ hlt (by omega)
    have hkc : k < cs.length := by omega
    refine draw_start tabOk (by kernel_rfl) (by kernel_rfl) (by kernel_rfl) 200 [((0, 0), .v (p.h0.val p.sems.length)), ((0, 1), .v (p.h1.val p.groups.length)), ((0, 2), .v (p.h2.val p.barriers.length)), ((0, 3), .v (p.h3.val p.rooms.length)), ((0, 4), .v (p.h4.val p.threads.length)), ((1, 0), .v (s.h0.val s.places.length)), ((1, 1), .v (s.h1.val s.status.length)), ((1, 2), .v (s.h2.val s.sems.length)), ((1, 3), .v (s.h3.val s.onces.length)), ((1, 4), .v (s.h4.val s.groups.length)), ((1, 5), .v (s.h5.val s.barriers.length)), ((1, 6), .v (s.h6.val s.chans.length)), ((1, 7), .v (s.h7.val s.said.length)), ((1, 8), .v (.int .i64 s.fault))] [0] [_] ⟨⟨_, rfl, rfl, (by first | exact trivial | exact Nat.le_of_ble_eq_true rfl)⟩, ⟨_, rfl, rfl, (by first | exact trivial | exact Nat.le_of_ble_eq_true rfl)⟩, ⟨_, rfl, rfl, (by first | exact trivial | exact Nat.le_of_ble_eq_true rfl)⟩, ⟨_, rfl, rfl, (by first | exact trivial | exact Nat.le_of_ble_eq_true rfl)⟩, ⟨_, rfl, rfl, (by first | exact trivial | exact Nat.le_of_ble_eq_true rfl)⟩, ⟨_, rfl, rfl, (by first | exact trivial | exact Nat.le_of_ble_eq_true rfl)⟩, ⟨_, rfl, rfl, (by first | exact trivial | exact Nat.le_of_ble_eq_true rfl)⟩, ⟨_, rfl, rfl, (by first | exact trivial | exact Nat.le_of_ble_eq_true rfl)⟩, ⟨_, rfl, rfl, (by first | exact trivial | exact Nat.le_of_ble_eq_true rfl)⟩, ⟨_, rfl, rfl, (by first | exact trivial | exact Nat.le_of_ble_eq_true rfl)⟩, ⟨_, rfl, rfl, (by first | exact trivial | exact Nat.le_of_ble_eq_true rfl)⟩, ⟨_, rfl, rfl, (by first | exact trivial | exact Nat.le_of_ble_eq_true rfl)⟩, ⟨_, rfl, rfl, (by first | exact trivial | exact Nat.le_of_ble_eq_true rfl)⟩, ⟨_, rfl, rfl, (by first | exact trivial | exact Nat.le_of_ble_eq_true rfl)⟩, trivial⟩ ⟨⟨_, rfl⟩, ⟨_, rfl⟩, ⟨_, rfl⟩, ⟨_, rfl⟩, ⟨_, rfl⟩, ⟨_, rfl⟩, ⟨_, rfl⟩, ⟨_, rfl⟩, ⟨_, rfl⟩, ⟨_, rfl⟩, ⟨_, rfl⟩, ⟨_, rfl⟩, ⟨_, rfl⟩, ⟨_, rfl⟩, trivial⟩ ⟨rfl, trivial⟩ rfl ?_
    refine d_idx (ti := tiOf tab) encInt tabOk rfl rfl rfl rfl rfl ⟨rfl, rfl⟩ (rdVia 0 rfl (Rd.own (o := false) (o' := false))) k rfl (by first | omega | (simp; done) | (simp; omega) | (unfold maxLen; omega) | (unfold maxLen; simp; done) | (unfold maxLen; simp; omega)) (fun ad => ?_)
    rw [hcs k hkc]
    refine d_call _ cl53 rfl rfl rfl rfl ⟨rfl, rfl⟩ (fun A w hW => thread_c p s k _ w ⟨hW.get 1 rfl (.refl _), hW.get 2 rfl (.refl _), trivial⟩ ok sh c0 c1 hlt) ?_
    rintro v L ⟨bt2, rfl, hbt, rfl⟩
    refine CaseB.mk (fun g => ?_) (fun g => ?_)
    · exact retw [] ⟨_, rfl, tno fun e => (by rw [hbt.2 (hone e k hlt)] at g; cases g), rfl⟩ trivial rfl trivial (fun _ => rfl)
    have q1 := hbt.1 (by simpa using g)
    refine ⟨⟨k + 1, by omega, fun t ht h => ?_⟩, ?_, by simp only; omega⟩
    · by_cases e : t < k
      · exact hth t ht e
      · obtain rfl : t = k := by omega
        exact q1
    · refine weak_mk [0, 1, 2] ?_ ?_ ?_ ?_ ?_ rfl rfl
      · repeat (first | exact trivial | refine ⟨⟨_, rfl, (by first | exact .of rfl | exact .lit rfl | exact .of (by first | ((exact congrArg (fun z => SV.v (Value.int .i64 z)) hw))) | exact .lit (by first | ((exact congrArg (fun z => SV.v (Value.int .i64 z)) hw)))), (by first | exact trivial | exact Nat.le_of_ble_eq_true rfl | exact small1 rfl)⟩, ?_⟩)
      · repeat (first | exact trivial | refine ⟨⟨(by first | exact .head _ | exact .tail _ (.head _) | exact .tail _ (.tail _ (.head _)) | exact .tail _ (.tail _ (.tail _ (.head _))) | exact .tail _ (.tail _ (.tail _ (.tail _ (.head _)))) | exact .tail _ (.tail _ (.tail _ (.tail _ (.tail _ (.head _))))) | exact .tail _ (.tail _ (.tail _ (.tail _ (.tail _ (.tail _ (.head _)))))) | exact .tail _ (.tail _ (.tail _ (.tail _ (.tail _ (.tail _ (.tail _ (.head _))))))) | exact .tail _ (.tail _ (.tail _ (.tail _ (.tail _ (.tail _ (.tail _ (.tail _ (.head _)))))))) | exact .tail _ (.tail _ (.tail _ (.tail _ (.tail _ (.tail _ (.tail _ (.tail _ (.tail _ (.head _)))))))))), Nat.le_of_ble_eq_true rfl⟩, ?_⟩)
      · repeat (first | exact trivial | refine ⟨⟨_, rfl, (by first | exact .of rfl | exact .lit rfl | exact .of (by first | ((exact congrArg (fun z => SV.v (Value.int .i64 z)) hw))) | exact .lit (by first | ((exact congrArg (fun z => SV.v (Value.int .i64 z)) hw)))), (by first | exact trivial | exact Nat.le_of_ble_eq_true rfl | exact small1 rfl)⟩, ?_⟩)
      · repeat (first | exact trivial | refine ⟨⟨_, rfl⟩, ?_⟩)
      · repeat (first | exact trivial | refine ⟨.inl ⟨_, rfl, (by first | rfl | ((exact congrArg (fun z => SV.v (Value.int .i64 z)) hw)))⟩, ?_⟩ | refine ⟨.inr ⟨Nat.le_of_ble_eq_true rfl, rfl, rfl, rfl, rfl⟩, ?_⟩)
  have hge : p.threads.length ≤ k := by simpa using g
  have hall : ∀ (t : Nat) (ht : t < p.threads.length), ThreadS s.pure (p.threads[t]).m t s.places[t] s.status[t] (ofKey (events s.pure) t).length := fun t ht => hth t ht (by omega)
  have hst : ∀ (t : Nat) (ht : t < p.threads.length), s.status[t] = 2 → 0 ≤ s.places[t] ∧ s.places[t] < (p.threads[t]).m.length := fun t ht h2 => by
    obtain ⟨a0, a1, h4⟩ := hall t ht
    rcases h4 with ⟨_, e2, _⟩ | ⟨op, e1, _⟩
    · omega
    · have := (List.getElem?_eq_some_iff.1 e1).1; omega
  refine stop_call _ cl54 rfl rfl rfl rfl ⟨rfl, rfl⟩ (fun A w hW => owners_c p s w ⟨hW.get 1 rfl (.refl _), hW.get 2 rfl (.refl _), trivial⟩ ok sh c0 c1 hst) ?_
  rintro v L ⟨bo, rfl, hbo, rfl⟩
  refine retw [] ⟨_, rfl, ?_, rfl⟩ trivial rfl trivial (fun _ => rfl)
  rw [hbo, hF]
  constructor
  · intro e
    refine ⟨hev, fun t ops at_ st h1 h2 h3 => ?_, e⟩
    have ht : t < p.threads.length := by rw [← lt]; exact (List.getElem?_eq_some_iff.1 h1).1
    obtain ⟨rfl, rfl, rfl⟩ := hfull t ht _ _ _ h1 h2 h3
    exact hall t ht
  · intro e; exact e.2.2

end Go.Proofs.YtchkcjeeknfchaaGreatDoor

namespace Go.Proofs.YtchkcjeeknfchaaGreatDoor

open Go Go.Sx Go.RowKit

theorem rd_bytes {G : List Fct} (k : Nat) {old : Bool} {i : Sl} {e m : Nat} {cs : List Value} {s : Str} (hk : G[k]? = some (fOwn old i e 1 cs m)) (hm : m = s.length) (hc : cs = s.map fun b => .int .u8 (b.toNat : Int)) : ∀ w, (∀ f ∈ G, f.P w) → RdS w i 1 (s.map fun b => .int .u8 (b.toNat : Int)) s.length := by
  subst hm; subst hc; exact rdOwnAt k hk

theorem decG_step (f n : Nat) (out : Str) (h : 9 < n) : decG (f + 1) n out = decG f (n / 10) (UInt8.ofNat (48 + n % 10) :: out) := if_pos h

theorem digit (d : Nat) (h : d < 10) : IntKind.u8.wrap (IntKind.i64.wrap (48 + (d : Int))) = ((UInt8.ofNat (48 + d)).toNat : Int) := by
  have e : (UInt8.ofNat (48 + d)).toNat = 48 + d := by rw [UInt8.toNat_ofNat']; omega
  rw [e, wrap_nn (by omega) (by omega), IntKind.wrap_u8]; omega

set_option maxHeartbeats 4000000 in
set_option maxRecDepth 100000 in
theorem decN_c (n : Nat) (w : World) (hn : n < 1000000000000000000) : Calls Tryz.prog 23 #[.int .i64 (n : Int)] w (Ret w fun v L => v = .string (bs (decG 19 n [])) ∧ L = []) := by
  refine calls1 Tryz.func23 rfl tabOk w _ rfl _ rfl [] trivial trivial _ (by decide) ?_
  refine CaseB.mk (fun g => by have := of_decide_eq_true g; omega) (fun _ => ?_)
  refine CaseB.mk (fun g => by have := of_decide_eq_true g; omega) (fun _ => ?_)
  refine LoopW.mk ⟨{ q : Nat × Nat × Str // decG 19 n [] = decG q.1 q.2.1 q.2.2 ∧ q.2.1 < 10 ^ q.1 ∧ 1 ≤ q.1 ∧ q.2.2.length + q.1 ≤ 19 ∧ q.2.1 < 1000000000000000000 },
    fun q => .mk [(0, .v (.int .i64 (q.1.2.1 : Int))), (3, .v (.string (bs q.1.2.2)))] 0 0 [] [] [],
    fun q => q.1.1, ⟨(19, n, []), rfl, by show n < 10 ^ 19; omega, by show 1 ≤ 19; omega, by simp, hn⟩, ?_, ?_⟩
  · refine weak_mk [] ?_ ?_ ?_ ?_ ?_ rfl rfl
    · repeat (first | exact trivial | refine ⟨⟨_, rfl, (by first | exact .of rfl | exact .lit rfl | exact .of (by first | (rfl)) | exact .lit (by first | (rfl))), (by first | exact trivial | exact Nat.le_of_ble_eq_true rfl | exact small1 rfl)⟩, ?_⟩)
    · repeat (first | exact trivial | refine ⟨⟨(by first | exact .head _ | exact .tail _ (.head _) | exact .tail _ (.tail _ (.head _)) | exact .tail _ (.tail _ (.tail _ (.head _))) | exact .tail _ (.tail _ (.tail _ (.tail _ (.head _)))) | exact .tail _ (.tail _ (.tail _ (.tail _ (.tail _ (.head _))))) | exact .tail _ (.tail _ (.tail _ (.tail _ (.tail _ (.tail _ (.head _)))))) | exact .tail _ (.tail _ (.tail _ (.tail _ (.tail _ (.tail _ (.tail _ (.head _))))))) | exact .tail _ (.tail _ (.tail _ (.tail _ (.tail _ (.tail _ (.tail _ (.tail _ (.head _)))))))) | exact .tail _ (.tail _ (.tail _ (.tail _ (.tail _ (.tail _ (.tail _ (.tail _ (.tail _ (.head _)))))))))), Nat.le_of_ble_eq_true rfl⟩, ?_⟩)
    · repeat (first | exact trivial | refine ⟨⟨_, rfl, (by first | exact .of rfl | exact .lit rfl | exact .of (by first | (rfl)) | exact .lit (by first | (rfl))), (by first | exact trivial | exact Nat.le_of_ble_eq_true rfl | exact small1 rfl)⟩, ?_⟩)
    · repeat (first | exact trivial | refine ⟨⟨_, rfl⟩, ?_⟩)
    · repeat (first | exact trivial | refine ⟨.inl ⟨_, rfl, (by first | rfl | (rfl))⟩, ?_⟩ | refine ⟨.inr ⟨Nat.le_of_ble_eq_true rfl, rfl, rfl, rfl, rfl⟩, ?_⟩)
  rintro ⟨⟨f, m, out⟩, i1, i2, i3, i4, i5⟩
  simp only at i1 i2 i3 i4 i5 ⊢
  refine CaseB.mk (fun g => ?_) (fun g => ?_)
  · have h9 : 9 < m := by have := of_decide_eq_true g; omega
    obtain ⟨f, rfl⟩ : ∃ f', f = f' + 1 := ⟨f - 1, by omega⟩
    have hp : 10 ^ (f + 1) = 10 ^ f * 10 := Nat.pow_succ ..
    have hf : 1 ≤ f := by
      rcases Nat.eq_zero_or_pos f with h | h
      · subst h; simp at i2; omega
      · exact h
    refine stop_bin rfl rfl rfl ⟨rfl, rfl⟩ (.int .i64 ((m % 10 : Nat) : Int)) (fun w => eqGuard_int w) (fun w => rem_run (by omega) (by rw [Int.tmod_eq_emod_of_nonneg (by omega)]; omega) w) ?_
    refine AllSl.mk fun b => ?_
    refine stop_b2s (s := [UInt8.ofNat (48 + m % 10)]) tabOk rfl rfl rfl rfl rfl ⟨rfl, rfl⟩ (rd_bytes 0 rfl rfl (by rw [digit (m % 10) (by omega)]; rfl)) (Nat.zero_lt_one) ?_
    refine stop_bin rfl rfl rfl ⟨rfl, rfl⟩ (.string (bs ([UInt8.ofNat (48 + m % 10)] ++ out))) (fun w => eqGuard_str w) (fun w => sadd_run (by simp only [List.length_cons, List.length_nil]; omega) w) ?_
    refine stop_bin rfl rfl rfl ⟨rfl, rfl⟩ (.int .i64 ((m / 10 : Nat) : Int)) (fun w => eqGuard_int w) (fun w => quo_run (by omega) (by rw [Int.tdiv_eq_ediv_of_nonneg (by omega), wrap_nn (by omega) (by omega)]; omega) w) ?_
    refine ⟨⟨(f, m / 10, UInt8.ofNat (48 + m % 10) :: out), i1.trans (decG_step f m out h9), show m / 10 < 10 ^ f by omega, hf, by simp only [List.length_cons]; omega, show m / 10 < 1000000000000000000 by omega⟩, ?_, by simp only; omega⟩
    refine weak_mk [] ?_ ?_ ?_ ?_ ?_ rfl rfl
    · repeat (first | exact trivial | refine ⟨⟨_, rfl, (by first | exact .of rfl | exact .lit rfl | exact .of (by first | (rfl)) | exact .lit (by first | (rfl))), (by first | exact trivial | exact Nat.le_of_ble_eq_true rfl | exact small1 rfl)⟩, ?_⟩)
    · repeat (first | exact trivial | refine ⟨⟨(by first | exact .head _ | exact .tail _ (.head _) | exact .tail _ (.tail _ (.head _)) | exact .tail _ (.tail _ (.tail _ (.head _))) | exact .tail _ (.tail _ (.tail _ (.tail _ (.head _)))) | exact .tail _ (.tail _ (.tail _ (.tail _ (.tail _ (.head _))))) | exact .tail _ (.tail _ (.tail _ (.tail _ (.tail _ (.tail _ (.head _)))))) | exact .tail _ (.tail _ (.tail _ (.tail _ (.tail _ (.tail _ (.tail _ (.head _))))))) | exact .tail _ (.tail _ (.tail _ (.tail _ (.tail _ (.tail _ (.tail _ (.tail _ (.head _)))))))) | exact .tail _ (.tail _ (.tail _ (.tail _ (.tail _ (.tail _ (.tail _ (.tail _ (.tail _ (.head _)))))))))), Nat.le_of_ble_eq_true rfl⟩, ?_⟩)
    · repeat (first | exact trivial | refine ⟨⟨_, rfl, (by first | exact .of rfl | exact .lit rfl | exact .of (by first | (rfl)) | exact .lit (by first | (rfl))), (by first | exact trivial | exact Nat.le_of_ble_eq_true rfl | exact small1 rfl)⟩, ?_⟩)
    · repeat (first | exact trivial | refine ⟨⟨_, rfl⟩, ?_⟩)
    · repeat (first | exact trivial | refine ⟨.inl ⟨_, rfl, (by first | rfl | (rfl))⟩, ?_⟩ | refine ⟨.inr ⟨Nat.le_of_ble_eq_true rfl, rfl, rfl, rfl, rfl⟩, ?_⟩)
  have h9 : m ≤ 9 := by have := of_decide_eq_false g; omega
  obtain ⟨f, rfl⟩ : ∃ f', f = f' + 1 := ⟨f - 1, by omega⟩
  refine AllSl.mk fun b => ?_
  refine stop_b2s (s := [UInt8.ofNat (48 + m)]) tabOk rfl rfl rfl rfl rfl ⟨rfl, rfl⟩ (rd_bytes 0 rfl rfl (by rw [digit m (by omega)]; rfl)) (Nat.zero_lt_one) ?_
  refine stop_bin rfl rfl rfl ⟨rfl, rfl⟩ (.string (bs ([UInt8.ofNat (48 + m)] ++ out))) (fun w => eqGuard_str w) (fun w => sadd_run (by simp only [List.length_cons, List.length_nil]; omega) w) ?_
  have e : decG 19 n [] = [UInt8.ofNat (48 + m)] ++ out := by rw [i1, decG, if_neg (by omega)]; rfl
  rw [e]
  exact retw [] ⟨rfl, rfl⟩ trivial rfl trivial (fun _ => rfl)

set_option maxRecDepth 100000 in
theorem dec_c (n : Int) (w : World) (h1 : -1000000000000000000 < n) (h2 : n < 1000000000000000000) : Calls Tryz.prog 23 #[.int .i64 n] w (Ret w fun v L => v = .string (bs (decM n)) ∧ L = []) := by
  by_cases hn : 0 ≤ n
  · obtain ⟨k, rfl⟩ : ∃ k : Nat, n = k := ⟨n.toNat, (Int.toNat_of_nonneg hn).symm⟩
    have e : decM (k : Int) = decG 19 k [] := by rw [decM, if_neg (by omega)]; rfl
    rw [e]
    exact decN_c k w (by omega)
  obtain ⟨k, rfl⟩ : ∃ k : Nat, n = -(k : Int) := ⟨(-n).toNat, by omega⟩
  have e : decM (-(k : Int)) = [45] ++ decG 19 k [] := by
    rw [decM, if_pos (by omega), show (-(k : Int)).natAbs = k by omega]; rfl
  rw [e]
  have hw : IntKind.i64.wrap (0 - -(k : Int)) = (k : Int) := by rw [wrap_nn] <;> omega
  refine calls1 Tryz.func23 rfl tabOk w _ rfl _ rfl [] trivial trivial _ (by decide) ?_
  refine CaseB.mk (fun g => by have := of_decide_eq_true g; omega) (fun _ => ?_)
  refine CaseB.mk (fun g => ?_) (fun g => by have := of_decide_eq_false g; omega)
  refine stop_call _ cl23 rfl rfl rfl rfl ⟨rfl, rfl⟩ (fun A w hW => (by rw [hw]; exact decN_c k w (by omega))) ?_
  rintro v L ⟨rfl, rfl⟩
  have hl := decG_len 19 k []
  refine stop_bin rfl rfl rfl ⟨rfl, rfl⟩ (.string (bs ([45] ++ (decG 19 k [])))) (fun w => eqGuard_str w) (fun w => sadd_run (by simp only [List.length_cons, List.length_nil] at hl ⊢; omega) w) ?_
  exact retw [] ⟨rfl, rfl⟩ trivial rfl trivial (fun _ => rfl)

end Go.Proofs.YtchkcjeeknfchaaGreatDoor

namespace Go.Proofs.YtchkcjeeknfchaaGreatDoor

open Go Go.Sx Go.RowKit

/-- What FormatState answers. -/
def TextAns (p : ProgH) (s : StateH) (v : Value) (L : List Fct) : Prop := ∃ t : Str, v = .string (bs t) ∧ (Fits p.pure s.pure → t = textM s.pure) ∧ (¬ Fits p.pure s.pure → t = []) ∧ L = []

theorem sd_step (s : StateH) {k : Nat} (h : k < s.said.length) : (s.said.map decM).take (k + 1) = (s.said.map decM).take k ++ [decM s.said[k]] := by
  rw [List.take_succ_eq_append_getElem (by rw [List.length_map]; exact h), List.getElem_map]

set_option maxHeartbeats 8000000 in
set_option maxRecDepth 100000 in
theorem fmtStateS_c (p : ProgH) (s : StateH) (w : World) (h : At w [fR (progO p), fR (stateO s)]) (hp : p.pure.small20) (hs : s.pure.small20) :
    Calls Tryz.prog 7 #[progV p, stateV s] w (Ret w (TextAns p s)) := by
  have hb : s.status.length ≤ 1048576 := hs.2.1
  refine calls2 Tryz.func7 rfl tabOk w _ rfl _ rfl _ h ⟨rfl, rfl, rfl, rfl, trivial⟩ _ _ (by decide) ?_
  refine stop_call _ cl15 rfl rfl rfl rfl ⟨rfl, rfl⟩ (fun A w hW => stateFitsS_c p s w ⟨hW.get 0 rfl (.refl _), hW.get 1 rfl (.refl _), trivial⟩ hp hs) ?_
  rintro v L ⟨b, rfl, hbb, rfl⟩
  refine CaseB.mk (fun g => ?_) (fun g => ?_)
  · have n : ¬ Fits p.pure s.pure := fun e => by rw [hbb.2 e] at g; cases g
    exact retw [] ⟨[], rfl, fun e => (n e).elim, fun _ => rfl, rfl⟩ trivial rfl trivial (fun _ => rfl)
  have ft := hbb.1 (by simpa using g)
  obtain ⟨hlen, h1, h4, hpl, hsl, hsd, f0, f4⟩ := ft.textOk
  have hpn : (placesM s.places s.status).length = s.places.length := placesM_len hlen
  refine AllSl.mk fun l => ?_
  refine LoopW.mk ⟨{ q : Nat × Str // q.1 ≤ s.places.length ∧ q.2 = joinM ((placesM s.places s.status).take q.1) ∧ q.2.length ≤ 40 * q.1 },
    fun q => .mk [(3, .p 1 0), (5, .v (l.val 4)), (6, .v (.string (bs q.1.2))), (7, .v (.int .i64 (q.1.1 : Int)))] 2 0 [(0, 38, 5), (1, 46, 9)] [((1, 0), .v (s.h0.val s.places.length)), ((1, 1), .v (s.h1.val s.status.length)), ((1, 7), .v (s.h7.val s.said.length)), ((1, 8), .v (.int .i64 s.fault))] [own l 9 cTxt 1 signsL, fR (stateO s)],
    fun q => s.places.length - q.1.1, ⟨(0, []), Nat.zero_le _, rfl, by simp⟩, ?_, ?_⟩
  · refine weak_mk [0, 2] ?_ ?_ ?_ ?_ ?_ rfl rfl
    · repeat (first | exact trivial | refine ⟨⟨_, rfl, (by first | exact .of rfl | exact .lit rfl | exact .of (by first | (rfl)) | exact .lit (by first | (rfl))), (by first | exact trivial | exact Nat.le_of_ble_eq_true rfl | exact small1 rfl)⟩, ?_⟩)
    · repeat (first | exact trivial | refine ⟨⟨(by first | exact .head _ | exact .tail _ (.head _) | exact .tail _ (.tail _ (.head _)) | exact .tail _ (.tail _ (.tail _ (.head _))) | exact .tail _ (.tail _ (.tail _ (.tail _ (.head _)))) | exact .tail _ (.tail _ (.tail _ (.tail _ (.tail _ (.head _))))) | exact .tail _ (.tail _ (.tail _ (.tail _ (.tail _ (.tail _ (.head _)))))) | exact .tail _ (.tail _ (.tail _ (.tail _ (.tail _ (.tail _ (.tail _ (.head _))))))) | exact .tail _ (.tail _ (.tail _ (.tail _ (.tail _ (.tail _ (.tail _ (.tail _ (.head _)))))))) | exact .tail _ (.tail _ (.tail _ (.tail _ (.tail _ (.tail _ (.tail _ (.tail _ (.tail _ (.head _)))))))))), Nat.le_of_ble_eq_true rfl⟩, ?_⟩)
    · repeat (first | exact trivial | refine ⟨⟨_, rfl, (by first | exact .of rfl | exact .lit rfl | exact .of (by first | (rfl)) | exact .lit (by first | (rfl))), (by first | exact trivial | exact Nat.le_of_ble_eq_true rfl | exact small1 rfl)⟩, ?_⟩)
    · repeat (first | exact trivial | refine ⟨⟨_, rfl⟩, ?_⟩)
    · repeat (first | exact trivial | refine ⟨.inl ⟨_, rfl, (by first | rfl | (rfl))⟩, ?_⟩ | refine ⟨.inr ⟨Nat.le_of_ble_eq_true rfl, rfl, rfl, rfl, rfl⟩, ?_⟩)
  rintro ⟨⟨i, out⟩, i1, i2, i3⟩
  simp only at i1 i2 i3 ⊢
  refine CaseB.mk (fun g => ?_) (fun g => ?_)
  · have hlt : i < s.places.length := by simpa using g
    have hlt2 : i < s.status.length := by omega
    have hw := e_succ i _ hlt (by omega)
    obtain ⟨⟨a0, a8⟩, t0, t3⟩ := hpl i hlt hlt2
    obtain ⟨j, hjl, hj, hsg⟩ := signsL_get _ t0 t3
    have sl := signM_len s.status[i]
    have dl := decM_len s.places[i]
    have hd1 : -1000000000000000000 < s.places[i] := by omega
    have hd2 : s.places[i] < 1000000000000000000 := by omega
    have nx := join_next (placeM s.places[i] s.status[i]) (xs := (placesM s.places s.status).take i) (n := i) (by rw [List.length_take]; omega)
    rw [← places_take hlen hlt hlt2, ← i2] at nx
    refine CaseB.mk (fun g2 => ?_) (fun g2 => ?_)
    have i0 : ¬ i = 0 := by have := of_decide_eq_true g2; omega
    rw [if_neg i0] at nx
    refine stop_bin rfl rfl rfl ⟨rfl, rfl⟩ (.string (bs (out ++ [32]))) (fun w => eqGuard_str w) (fun w => sadd_run (by simp only [List.length_cons, List.length_nil]; omega) w) ?_
    have ol : (out ++ [32]).length ≤ 40 * i + 1 := by simp only [List.length_append, List.length_cons, List.length_nil]; omega
    generalize out ++ [32] = o2 at nx ol ⊢
    rotate_left
    have i0 : i = 0 := by have := of_decide_eq_false g2; omega
    rw [if_pos i0] at nx
    have ol : out.length ≤ 40 * i + 1 := by omega
    generalize out = o2 at nx ol ⊢
    rotate_left
    all_goals
      refine draw_start tabOk (by kernel_rfl) (by kernel_rfl) (by kernel_rfl) 200 [((1, 0), .v (s.h0.val s.places.length)), ((1, 1), .v (s.h1.val s.status.length))] [0, 1] [_, _] ⟨⟨_, rfl, rfl, (by first | exact trivial | exact Nat.le_of_ble_eq_true rfl)⟩, ⟨_, rfl, rfl, (by first | exact trivial | exact Nat.le_of_ble_eq_true rfl)⟩, trivial⟩ ⟨⟨_, rfl⟩, ⟨_, rfl⟩, trivial⟩ ⟨rfl, rfl, trivial⟩ rfl ?_
      refine d_idx (ti := tiOf tab) encInt tabOk rfl rfl rfl rfl rfl ⟨rfl, rfl⟩ (rdVia 1 rfl (.ofR (stateO_places s))) i rfl (by first | omega | (simp; done) | (simp; omega) | (unfold maxLen; omega) | (unfold maxLen; simp; done) | (unfold maxLen; simp; omega)) (fun ad => ?_)
      refine d_idx (ti := tiOf tab) encInt tabOk rfl rfl rfl rfl rfl ⟨rfl, rfl⟩ (rdVia 1 rfl (.ofR (stateO_status s))) i rfl (by first | omega | (simp; done) | (simp; omega) | (unfold maxLen; omega) | (unfold maxLen; simp; done) | (unfold maxLen; simp; omega)) (fun ad2 => ?_)
      refine d_idx (ti := tiOf tab) encTxt tabOk rfl rfl rfl rfl rfl ⟨rfl, rfl⟩ (rdOwnAt 0 rfl) j hj (by first | omega | (simp; done) | (simp; omega) | (unfold maxLen; omega) | (unfold maxLen; simp; done) | (unfold maxLen; simp; omega)) (fun ad3 => ?_)
      refine d_call _ cl23 rfl rfl rfl rfl ⟨rfl, rfl⟩ (fun A w hW => (dec_c _ w hd1 hd2)) ?_
      rintro v L ⟨rfl, rfl⟩
      refine d_bin rfl rfl rfl ⟨rfl, rfl⟩ (.string (bs (o2 ++ (decM s.places[i])))) (fun w => eqGuard_str w) (fun w => sadd_run (by omega) w) ?_
      have hle : (o2 ++ decM s.places[i]).length + (signsL[j]).length ≤ 9223372036854775807 := by rw [hsg, List.length_append]; omega
      refine d_bin rfl rfl rfl ⟨rfl, rfl⟩ (.string (bs ((o2 ++ decM s.places[i]) ++ (signsL[j])))) (fun w => eqGuard_str w) (fun w => sadd_run hle w) ?_
      have hnl : ((o2 ++ decM s.places[i]) ++ signsL[j]).length ≤ 40 * (i + 1) := by rw [hsg]; simp only [List.length_append]; omega
      refine ⟨⟨(i + 1, (o2 ++ decM s.places[i]) ++ signsL[j]), by omega, ?_, hnl⟩, ?_, by simp only; omega⟩
      · rw [nx, hsg, placeM, List.append_assoc]
      · refine weak_mk [0, 1] ?_ ?_ ?_ ?_ ?_ rfl rfl
        · repeat (first | exact trivial | refine ⟨⟨_, rfl, (by first | exact .of rfl | exact .lit rfl | exact .of (by first | ((exact congrArg (fun z => SV.v (Value.int .i64 z)) hw))) | exact .lit (by first | ((exact congrArg (fun z => SV.v (Value.int .i64 z)) hw)))), (by first | exact trivial | exact Nat.le_of_ble_eq_true rfl | exact small1 rfl)⟩, ?_⟩)
        · repeat (first | exact trivial | refine ⟨⟨(by first | exact .head _ | exact .tail _ (.head _) | exact .tail _ (.tail _ (.head _)) | exact .tail _ (.tail _ (.tail _ (.head _))) | exact .tail _ (.tail _ (.tail _ (.tail _ (.head _)))) | exact .tail _ (.tail _ (.tail _ (.tail _ (.tail _ (.head _))))) | exact .tail _ (.tail _ (.tail _ (.tail _ (.tail _ (.tail _ (.head _)))))) | exact .tail _ (.tail _ (.tail _ (.tail _ (.tail _ (.tail _ (.tail _ (.head _))))))) | exact .tail _ (.tail _ (.tail _ (.tail _ (.tail _ (.tail _ (.tail _ (.tail _ (.head _)))))))) | exact .tail _ (.tail _ (.tail _ (.tail _ (.tail _ (.tail _ (.tail _ (.tail _ (.tail _ (.head _)))))))))), Nat.le_of_ble_eq_true rfl⟩, ?_⟩)
        · repeat (first | exact trivial | refine ⟨⟨_, rfl, (by first | exact .of rfl | exact .lit rfl | exact .of (by first | ((exact congrArg (fun z => SV.v (Value.int .i64 z)) hw))) | exact .lit (by first | ((exact congrArg (fun z => SV.v (Value.int .i64 z)) hw)))), (by first | exact trivial | exact Nat.le_of_ble_eq_true rfl | exact small1 rfl)⟩, ?_⟩)
        · repeat (first | exact trivial | refine ⟨⟨_, rfl⟩, ?_⟩)
        · repeat (first | exact trivial | refine ⟨.inl ⟨_, rfl, (by first | rfl | ((exact congrArg (fun z => SV.v (Value.int .i64 z)) hw)))⟩, ?_⟩ | refine ⟨.inr ⟨Nat.le_of_ble_eq_true rfl, rfl, rfl, rfl, rfl⟩, ?_⟩)
  have hie : i = s.places.length := by have := of_decide_eq_false g; omega
  subst hie
  rw [List.take_of_length_le (by omega)] at i2
  refine stop_bin rfl rfl rfl ⟨rfl, rfl⟩ (.string (bs (out ++ [32, 124]))) (fun w => eqGuard_str w) (fun w => sadd_run (by simp only [List.length_cons, List.length_nil]; omega) w) ?_
  have hne : placesM s.places s.status ≠ [] := fun e => by rw [e] at hpn; simp at hpn; omega
  have e2 : out ++ [32, 124] = joinM ((placesM s.places s.status ++ [[124]]) ++ (s.said.map decM).take 0) := by rw [List.take_zero, List.append_nil, joinM_snoc _ hne, i2]
  have l2 : (out ++ [32, 124]).length ≤ 162 := by simp only [List.length_append, List.length_cons, List.length_nil]; omega
  generalize out ++ [32, 124] = o2 at e2 l2 ⊢
  refine LoopW.mk ⟨{ q : Nat × Str // q.1 ≤ s.said.length ∧ q.2 = joinM ((placesM s.places s.status ++ [[124]]) ++ (s.said.map decM).take q.1) ∧ q.2.length ≤ 162 + 40 * q.1 },
    fun q => .mk [(3, .p 1 0), (6, .v (.string (bs q.1.2))), (8, .v (.int .i64 (q.1.1 : Int)))] 2 0 [(0, 38, 5), (1, 46, 9)] [((1, 7), .v (s.h7.val s.said.length)), ((1, 8), .v (.int .i64 s.fault))] [fR (stateO s)],
    fun q => s.said.length - q.1.1, ⟨(0, o2), Nat.zero_le _, e2, l2⟩, ?_, ?_⟩
  · refine weak_mk [1] ?_ ?_ ?_ ?_ ?_ rfl rfl
    · repeat (first | exact trivial | refine ⟨⟨_, rfl, (by first | exact .of rfl | exact .lit rfl | exact .of (by first | (rfl)) | exact .lit (by first | (rfl))), (by first | exact trivial | exact Nat.le_of_ble_eq_true rfl | exact small1 rfl)⟩, ?_⟩)
    · repeat (first | exact trivial | refine ⟨⟨(by first | exact .head _ | exact .tail _ (.head _) | exact .tail _ (.tail _ (.head _)) | exact .tail _ (.tail _ (.tail _ (.head _))) | exact .tail _ (.tail _ (.tail _ (.tail _ (.head _)))) | exact .tail _ (.tail _ (.tail _ (.tail _ (.tail _ (.head _))))) | exact .tail _ (.tail _ (.tail _ (.tail _ (.tail _ (.tail _ (.head _)))))) | exact .tail _ (.tail _ (.tail _ (.tail _ (.tail _ (.tail _ (.tail _ (.head _))))))) | exact .tail _ (.tail _ (.tail _ (.tail _ (.tail _ (.tail _ (.tail _ (.tail _ (.head _)))))))) | exact .tail _ (.tail _ (.tail _ (.tail _ (.tail _ (.tail _ (.tail _ (.tail _ (.tail _ (.head _)))))))))), Nat.le_of_ble_eq_true rfl⟩, ?_⟩)
    · repeat (first | exact trivial | refine ⟨⟨_, rfl, (by first | exact .of rfl | exact .lit rfl | exact .of (by first | (rfl)) | exact .lit (by first | (rfl))), (by first | exact trivial | exact Nat.le_of_ble_eq_true rfl | exact small1 rfl)⟩, ?_⟩)
    · repeat (first | exact trivial | refine ⟨⟨_, rfl⟩, ?_⟩)
    · repeat (first | exact trivial | refine ⟨.inl ⟨_, rfl, (by first | rfl | (rfl))⟩, ?_⟩ | refine ⟨.inr ⟨Nat.le_of_ble_eq_true rfl, rfl, rfl, rfl, rfl⟩, ?_⟩)
  rintro ⟨⟨k, ot⟩, k1, k2, k3⟩
  simp only at k1 k2 k3 ⊢
  refine CaseB.mk (fun g => ?_) (fun g => ?_)
  · have hlt : k < s.said.length := by simpa using g
    have hw := e_succ k _ hlt (by omega)
    obtain ⟨a0, a9⟩ := hsd k hlt
    have dl := decM_len s.said[k]
    have hd1 : -1000000000000000000 < s.said[k] := by omega
    have hd2 : s.said[k] < 1000000000000000000 := by omega
    refine stop_bin rfl rfl rfl ⟨rfl, rfl⟩ (.string (bs (ot ++ [32]))) (fun w => eqGuard_str w) (fun w => sadd_run (by simp only [List.length_cons, List.length_nil]; omega) w) ?_
    refine stop_idx encInt tabOk rfl rfl rfl rfl rfl ⟨rfl, rfl⟩ (rdVia 0 rfl (.ofR (stateO_said s))) k rfl (by first | omega | (simp; done) | (simp; omega) | (unfold maxLen; omega) | (unfold maxLen; simp; done) | (unfold maxLen; simp; omega)) (fun ad => ?_)
    refine stop_call _ cl23 rfl rfl rfl rfl ⟨rfl, rfl⟩ (fun A w hW => (dec_c _ w hd1 hd2)) ?_
    rintro v L ⟨rfl, rfl⟩
    refine stop_bin rfl rfl rfl ⟨rfl, rfl⟩ (.string (bs ((ot ++ [32]) ++ (decM s.said[k])))) (fun w => eqGuard_str w) (fun w => sadd_run (by simp only [List.length_append, List.length_cons, List.length_nil]; omega) w) ?_
    refine ⟨⟨(k + 1, (ot ++ [32]) ++ decM s.said[k]), by omega, ?_, by simp only [List.length_append, List.length_cons, List.length_nil]; omega⟩, ?_, by simp only; omega⟩
    · rw [sd_step s hlt, ← List.append_assoc, joinM_snoc _ (by simp), ← k2]; simp
    · refine weak_mk [0] ?_ ?_ ?_ ?_ ?_ rfl rfl
      · repeat (first | exact trivial | refine ⟨⟨_, rfl, (by first | exact .of rfl | exact .lit rfl | exact .of (by first | ((exact congrArg (fun z => SV.v (Value.int .i64 z)) hw))) | exact .lit (by first | ((exact congrArg (fun z => SV.v (Value.int .i64 z)) hw)))), (by first | exact trivial | exact Nat.le_of_ble_eq_true rfl | exact small1 rfl)⟩, ?_⟩)
      · repeat (first | exact trivial | refine ⟨⟨(by first | exact .head _ | exact .tail _ (.head _) | exact .tail _ (.tail _ (.head _)) | exact .tail _ (.tail _ (.tail _ (.head _))) | exact .tail _ (.tail _ (.tail _ (.tail _ (.head _)))) | exact .tail _ (.tail _ (.tail _ (.tail _ (.tail _ (.head _))))) | exact .tail _ (.tail _ (.tail _ (.tail _ (.tail _ (.tail _ (.head _)))))) | exact .tail _ (.tail _ (.tail _ (.tail _ (.tail _ (.tail _ (.tail _ (.head _))))))) | exact .tail _ (.tail _ (.tail _ (.tail _ (.tail _ (.tail _ (.tail _ (.tail _ (.head _)))))))) | exact .tail _ (.tail _ (.tail _ (.tail _ (.tail _ (.tail _ (.tail _ (.tail _ (.tail _ (.head _)))))))))), Nat.le_of_ble_eq_true rfl⟩, ?_⟩)
      · repeat (first | exact trivial | refine ⟨⟨_, rfl, (by first | exact .of rfl | exact .lit rfl | exact .of (by first | ((exact congrArg (fun z => SV.v (Value.int .i64 z)) hw))) | exact .lit (by first | ((exact congrArg (fun z => SV.v (Value.int .i64 z)) hw)))), (by first | exact trivial | exact Nat.le_of_ble_eq_true rfl | exact small1 rfl)⟩, ?_⟩)
      · repeat (first | exact trivial | refine ⟨⟨_, rfl⟩, ?_⟩)
      · repeat (first | exact trivial | refine ⟨.inl ⟨_, rfl, (by first | rfl | ((exact congrArg (fun z => SV.v (Value.int .i64 z)) hw)))⟩, ?_⟩ | refine ⟨.inr ⟨Nat.le_of_ble_eq_true rfl, rfl, rfl, rfl, rfl⟩, ?_⟩)
  have hke : k = s.said.length := by have := of_decide_eq_false g; omega
  subst hke
  rw [List.take_of_length_le (by rw [List.length_map]; omega)] at k2
  have hA : (placesM s.places s.status ++ [[124]]) ++ s.said.map decM = wordsA s.pure := by rw [List.append_assoc]; rfl
  rw [hA] at k2
  refine CaseB.mk (fun g => ?_) (fun g => ?_)
  · have n0 : ¬ s.fault = 0 := by simpa using g
    obtain ⟨j, hjl, hj, hsg⟩ := faultsL_get _ f0 f4
    have fl := faultW_len s.fault
    refine AllSl.mk fun l2 => ?_
    refine stop_bin rfl rfl rfl ⟨rfl, rfl⟩ (.string (bs (ot ++ [32, 102, 97, 117, 108, 116, 32]))) (fun w => eqGuard_str w) (fun w => sadd_run (by simp only [List.length_cons, List.length_nil]; omega) w) ?_
    refine stop_idx encTxt tabOk rfl rfl rfl rfl rfl ⟨rfl, rfl⟩ (rdOwnAt 0 rfl) j hj (by first | omega | (simp; done) | (simp; omega) | (unfold maxLen; omega) | (unfold maxLen; simp; done) | (unfold maxLen; simp; omega)) (fun ad => ?_)
    have hle : (ot ++ [32, 102, 97, 117, 108, 116, 32]).length + (faultsL[j]).length ≤ 9223372036854775807 := by rw [hsg, List.length_append]; simp only [List.length_cons, List.length_nil]; omega
    refine stop_bin rfl rfl rfl ⟨rfl, rfl⟩ (.string (bs ((ot ++ [32, 102, 97, 117, 108, 116, 32]) ++ (faultsL[j])))) (fun w => eqGuard_str w) (fun w => sadd_run hle w) ?_
    refine retw [] ⟨_, rfl, fun _ => ?_, fun e => (e ft).elim, rfl⟩ trivial rfl trivial (fun _ => rfl)
    rw [textM_eq, if_neg (show ¬ s.pure.fault = 0 from n0), join_two _ _ (by rw [← hA]; simp), ← k2, hsg]
    simp only [List.append_assoc, List.cons_append, List.nil_append]
    rfl
  have z0 : s.fault = 0 := by simpa using g
  refine retw [] ⟨_, rfl, fun _ => ?_, fun e => (e ft).elim, rfl⟩ trivial rfl trivial (fun _ => rfl)
  rw [textM_eq, if_pos (show s.pure.fault = 0 from z0), List.append_nil, ← k2]

end Go.Proofs.YtchkcjeeknfchaaGreatDoor

namespace Go.Proofs.YtchkcjeeknfchaaGreatDoor

open Go Go.Sx Go.RowKit Go.Shelf

def lays171_ren : Go.Shelf.Ren := ⟨fun | 171 => 31 | 243 => 67 | 246 => 105 | 283 => 128 | 284 => 129 | 285 => 130 | 286 => 131 | 129 => 149 | 317 => 148 | 318 => 150 | 319 => 151 | 320 => 152 | 337 => 163 | 338 => 164 | n => n, fun | 3 => 3 | 9 => 9 | 2 => 2 | 4 => 4 | 171 => 196 | 0 => 0 | 53 => 197 | 37 => 51 | 5 => 5 | 173 => 200 | 212 => 224 | 51 => 225 | 20 => 20 | 213 => 226 | 46 => 227 | 232 => 263 | 233 => 264 | n => n, fun | 17 => 0 | 18 => 2 | 19 => 3 | n => n⟩

theorem lays171 : Lays.n171 Tryz.prog lays171_ren := {
  mixed := by kernel_rfl
  f129 := Tryz.func149.trans (congrArg some (by kernel_rfl))
  f171 := Tryz.func31.trans (congrArg some (by kernel_rfl))
  f243 := Tryz.func67.trans (congrArg some (by kernel_rfl))
  f246 := Tryz.func105.trans (congrArg some (by kernel_rfl))
  f283 := Tryz.func128.trans (congrArg some (by kernel_rfl))
  f284 := Tryz.func129.trans (congrArg some (by kernel_rfl))
  f285 := Tryz.func130.trans (congrArg some (by kernel_rfl))
  f286 := Tryz.func131.trans (congrArg some (by kernel_rfl))
  f317 := Tryz.func148.trans (congrArg some (by kernel_rfl))
  f318 := Tryz.func150.trans (congrArg some (by kernel_rfl))
  f319 := Tryz.func151.trans (congrArg some (by kernel_rfl))
  f320 := Tryz.func152.trans (congrArg some (by kernel_rfl))
  f337 := Tryz.func163.trans (congrArg some (by kernel_rfl))
  f338 := Tryz.func164.trans (congrArg some (by kernel_rfl))
  t0 := Tryz.underlying0
  a0 := Tryz.isAgg0
  z0 := Tryz.sizeOf0
  v0 := Tryz.zeroValue0
  t2 := Tryz.underlying2
  a2 := Tryz.isAgg2
  z2 := Tryz.sizeOf2
  v2 := Tryz.zeroValue2
  t3 := Tryz.underlying3
  a3 := Tryz.isAgg3
  z3 := Tryz.sizeOf3
  v3 := Tryz.zeroValue3
  t4 := Tryz.underlying4
  a4 := Tryz.isAgg4
  z4 := Tryz.sizeOf4
  v4 := Tryz.zeroValue4
  t5 := Tryz.underlying5
  a5 := Tryz.isAgg5
  z5 := Tryz.sizeOf5
  v5 := Tryz.zeroValue5
  t9 := Tryz.underlying9
  a9 := Tryz.isAgg9
  z9 := Tryz.sizeOf9
  v9 := Tryz.zeroValue9
  t20 := Tryz.underlying20
  a20 := Tryz.isAgg20
  z20 := Tryz.sizeOf20
  v20 := Tryz.zeroValue20
  t37 := Tryz.underlying51
  a37 := Tryz.isAgg51
  z37 := Tryz.sizeOf51
  v37 := Tryz.zeroValue51
  t46 := Tryz.underlying227
  a46 := Tryz.isAgg227
  z46 := Tryz.sizeOf227
  v46 := Tryz.zeroValue227
  t51 := Tryz.underlying225
  a51 := Tryz.isAgg225
  z51 := Tryz.sizeOf225
  v51 := Tryz.zeroValue225
  t53 := Tryz.underlying197
  a53 := Tryz.isAgg197
  z53 := Tryz.sizeOf197
  v53 := Tryz.zeroValue197
  t171 := Tryz.underlying196
  a171 := Tryz.isAgg196
  z171 := Tryz.sizeOf196
  v171 := Tryz.zeroValue196
  t173 := Tryz.underlying200
  a173 := Tryz.isAgg200
  z173 := Tryz.sizeOf200
  v173 := Tryz.zeroValue200
  t212 := Tryz.underlying224
  a212 := Tryz.isAgg224
  z212 := Tryz.sizeOf224
  v212 := Tryz.zeroValue224
  t213 := Tryz.underlying226
  a213 := Tryz.isAgg226
  z213 := Tryz.sizeOf226
  t232 := Tryz.underlying263
  a232 := Tryz.isAgg263
  z232 := Tryz.sizeOf263
  v232 := Tryz.zeroValue263
  t233 := Tryz.underlying264
  a233 := Tryz.isAgg264
  z233 := Tryz.sizeOf264
  v233 := Tryz.zeroValue264
  g17 := by kernel_rfl
  g18 := by kernel_rfl
  g19 := by kernel_rfl }

def lays156_ren : Go.Shelf.Ren := ⟨fun | 156 => 32 | 165 => 68 | 166 => 69 | 169 => 70 | 240 => 106 | 241 => 107 | 276 => 132 | 277 => 133 | n => n, fun | 31 => 63 | 9 => 9 | 3 => 3 | 4 => 4 | 0 => 0 | 20 => 20 | 72 => 138 | 76 => 142 | 70 => 136 | 37 => 51 | 75 => 141 | 127 => 178 | 164 => 202 | 5 => 5 | 80 => 144 | n => n, fun n => n⟩

theorem lays156 : Lays.n156 Tryz.prog lays156_ren := {
  mixed := by kernel_rfl
  f156 := Tryz.func32.trans (congrArg some (by kernel_rfl))
  f165 := Tryz.func68.trans (congrArg some (by kernel_rfl))
  f166 := Tryz.func69.trans (congrArg some (by kernel_rfl))
  f169 := Tryz.func70.trans (congrArg some (by kernel_rfl))
  f240 := Tryz.func106.trans (congrArg some (by kernel_rfl))
  f241 := Tryz.func107.trans (congrArg some (by kernel_rfl))
  f276 := Tryz.func132.trans (congrArg some (by kernel_rfl))
  f277 := Tryz.func133.trans (congrArg some (by kernel_rfl))
  t0 := Tryz.underlying0
  a0 := Tryz.isAgg0
  z0 := Tryz.sizeOf0
  v0 := Tryz.zeroValue0
  t3 := Tryz.underlying3
  a3 := Tryz.isAgg3
  z3 := Tryz.sizeOf3
  v3 := Tryz.zeroValue3
  t4 := Tryz.underlying4
  a4 := Tryz.isAgg4
  z4 := Tryz.sizeOf4
  v4 := Tryz.zeroValue4
  t9 := Tryz.underlying9
  a9 := Tryz.isAgg9
  z9 := Tryz.sizeOf9
  v9 := Tryz.zeroValue9
  t20 := Tryz.underlying20
  a20 := Tryz.isAgg20
  z20 := Tryz.sizeOf20
  v20 := Tryz.zeroValue20
  t31 := Tryz.underlying63
  a31 := Tryz.isAgg63
  z31 := Tryz.sizeOf63
  v31 := Tryz.zeroValue63
  t37 := Tryz.underlying51
  a37 := Tryz.isAgg51
  z37 := Tryz.sizeOf51
  v37 := Tryz.zeroValue51
  t70 := Tryz.underlying136
  a70 := Tryz.isAgg136
  z70 := Tryz.sizeOf136
  v70 := Tryz.zeroValue136
  t72 := Tryz.underlying138
  a72 := Tryz.isAgg138
  z72 := Tryz.sizeOf138
  v72 := Tryz.zeroValue138
  t75 := Tryz.underlying141
  a75 := Tryz.isAgg141
  z75 := Tryz.sizeOf141
  v75 := Tryz.zeroValue141
  t76 := Tryz.underlying142
  a76 := Tryz.isAgg142
  z76 := Tryz.sizeOf142
  v76 := Tryz.zeroValue142
  t127 := Tryz.underlying178
  a127 := Tryz.isAgg178
  z127 := Tryz.sizeOf178
  v127 := Tryz.zeroValue178
  t164 := Tryz.underlying202
  a164 := Tryz.isAgg202
  z164 := Tryz.sizeOf202
  v164 := Tryz.zeroValue202 }

theorem extra156 : Builder.Extra Tryz.prog lays156_ren := {
  sizeBuilder := by kernel_rfl
  liesBuilder := by kernel_rfl
  t5 := Tryz.underlying5
  a5 := Tryz.isAgg5
  z5 := Tryz.sizeOf5
  v5 := Tryz.zeroValue5
  infoByte := by kernel_rfl
  cellsByte := by kernel_rfl
  sizeByte := by kernel_rfl
  neB5 := by decide }

theorem itoa_c (n : Int) (w : World) (h0 : 0 ≤ n) (h1 : n < 100) :
    Calls Tryz.prog 31 #[.int .i64 n] w (Ret w fun v L => v = .string (bs (decM n)) ∧ L = []) := by
  obtain ⟨k, rfl⟩ : ∃ k : Nat, n = k := ⟨n.toNat, (Int.toNat_of_nonneg h0).symm⟩
  refine Calls.mono (Any.strconv_Itoa_small lays171 k (by omega) w) ?_
  rintro e w' ⟨rfl, rfl⟩
  exact ⟨_, [], rfl, ExtX.refl _ _, New.nil _ _, by rw [dec_small (by omega)]; rfl, rfl⟩

theorem cells_txt (xs : List Str) : cells cTxt xs = xs.map fun x => Value.string (bs x) := by
  induction xs with
  | nil => rfl
  | cons x r ih => rw [List.map_cons, ← ih]; rfl

theorem bs_data (xs : List Str) : (xs.map bs).map (fun x => x.data.toList) = xs := by
  induction xs with
  | nil => rfl
  | cons x r ih => rw [List.map_cons, List.map_cons, ih]; rfl

theorem join_c (i : Sl) (g : Nat) (hi : i.a = some ⟨g, 0, none⟩) (xs : List Str) (w : World) (h : At w [slo i cTxt 1 xs]) (h0 : 0 < xs.length) (hN : xs.length ≤ 1000000) (hl : (joinM xs).length ≤ 1000000) :
    Calls Tryz.prog 32 #[i.val xs.length, .string (bs [32])] w (Ret w fun v L => v = .string (bs (joinM xs)) ∧ L = []) := by
  obtain ⟨⟨hr, hf⟩, _⟩ := h
  obtain ⟨_, hc, _, hcell⟩ := hr
  obtain ⟨ad, ha, hcl⟩ := hcell h0
  rw [hi] at ha
  obtain rfl := Option.some.inj ha
  have hg : g < w.heap.size := hf g ⟨h0, _, hi, rfl⟩
  have e32 : (bs [32]).data.toList = [32] := rfl
  have key := Any.strings_Join lays156 extra156 g 0 i.c (xs.map bs) (bs [32]) w (fun j x hx => by
    rw [List.getElem?_map] at hx
    obtain ⟨y, hy, rfl⟩ := Option.map_eq_some_iff.1 hx
    have := hcl j (.string (bs y)) (by rw [cells_txt, List.getElem?_map, hy]; rfl)
    rw [Addr.add_lit] at this
    exact this) hg (by rw [List.length_map]; omega) (by rw [List.length_map]; exact hc) (by rw [bs_data, e32, join_eq]; omega)
  rw [bs_data, e32, join_eq, List.length_map] at key
  have hv : i.val xs.length = .slice (some ⟨g, 0, none⟩) xs.length i.c := by simp [Sl.val, hi]
  rw [hv]
  refine Calls.mono key ?_
  rintro e w' ⟨rfl, hb⟩
  exact ⟨_, [], rfl, Ext.of_below hb, New.nil _ _, rfl, rfl⟩

end Go.Proofs.YtchkcjeeknfchaaGreatDoor

namespace Go.Proofs.YtchkcjeeknfchaaGreatDoor

open Go Go.Sx Go.RowKit

set_option maxHeartbeats 40000000 in
set_option maxRecDepth 100000 in
theorem stateFits_c (p : ProgH) (s : StateH) (w : World) (h : At w [fR (progO p), fR (stateO s)]) (hp : p.pure.small20) (hs : s.pure.small20) :
    Calls Tryz.prog 14 #[progV p, stateV s] w (Tells w (Fits p.pure s.pure)) := by
  obtain ⟨b0, b1, b2, b3, b4, b5, b6, b7⟩ := hs
  have mlen : ∀ {α β : Type} (f : α → β) (xs : List α), (xs.map f).length = xs.length := fun f xs => by simp
  have lt : p.pure.threads.length = p.threads.length := mlen _ _
  have l2 : s.pure.sems.length = s.sems.length := mlen _ _
  have l3 : s.pure.onces.length = s.onces.length := mlen _ _
  have l4 : s.pure.groups.length = s.groups.length := mlen _ _
  have l5 : s.pure.barriers.length = s.barriers.length := mlen _ _
  have l6 : s.pure.chans.length = s.chans.length := mlen _ _
  refine calls2 Tryz.func14 rfl tabOk w _ rfl _ rfl _ h ⟨rfl, rfl, rfl, rfl, trivial⟩ _ _ (by decide) ?_
  refine stop_call _ cl41 rfl rfl rfl rfl ⟨rfl, rfl⟩ (fun A w hW => progValid_c p w ⟨hW.get 0 rfl (.refl _), trivial⟩ ⟨hp.1, hp.2.1, hp.2.2.1, hp.2.2.2.1⟩) ?_
  rintro v L ⟨b, rfl, hb, rfl⟩
  refine CaseB.mk (fun g => ?_) (fun g => ?_)
  · exact retw [] ⟨_, rfl, tno fun e => (by rw [hb.2 e.prog] at g; cases g), rfl⟩ trivial rfl trivial (fun _ => rfl)
  have ok : ProgOk p.pure := hb.1 (by simpa using g)
  refine CaseB.mk (fun g => ?_) (fun g => ?_)
  · have q : ¬ s.places.length = p.threads.length := by simp at g; omega
    exact retw [] ⟨_, rfl, tno fun e => q (by have := e.np; simpa [StateH.pure, ProgH.pure] using this), rfl⟩ trivial rfl trivial (fun _ => rfl)
  have c0 : s.places.length = p.threads.length := by simp at g; omega
  refine CaseB.mk (fun g => ?_) (fun g => ?_)
  · have q : ¬ s.status.length = p.threads.length := by simp at g; omega
    exact retw [] ⟨_, rfl, tno fun e => q (by have := e.ns; simpa [StateH.pure, ProgH.pure] using this), rfl⟩ trivial rfl trivial (fun _ => rfl)
  have c1 : s.status.length = p.threads.length := by simp at g; omega
  refine CaseB.mk (fun g => ?_) (fun g => ?_)
  · have q : ¬ s.sems.length = p.sems.length := by simp at g; omega
    exact retw [] ⟨_, rfl, tno fun e => q (by have := e.lsems; simpa [StateH.pure, ProgH.pure] using this), rfl⟩ trivial rfl trivial (fun _ => rfl)
  have c2 : s.sems.length = p.sems.length := by simp at g; omega
  refine CaseB.mk (fun g => ?_) (fun g => ?_)
  · have q : ¬ s.groups.length = p.groups.length := by simp at g; omega
    exact retw [] ⟨_, rfl, tno fun e => q (by have := e.lgroups; simpa [StateH.pure, ProgH.pure] using this), rfl⟩ trivial rfl trivial (fun _ => rfl)
  have c4 : s.groups.length = p.groups.length := by simp at g; omega
  refine CaseB.mk (fun g => ?_) (fun g => ?_)
  · have q : ¬ s.barriers.length = p.barriers.length := by simp at g; omega
    exact retw [] ⟨_, rfl, tno fun e => q (by have := e.lbarriers; simpa [StateH.pure, ProgH.pure] using this), rfl⟩ trivial rfl trivial (fun _ => rfl)
  have c5 : s.barriers.length = p.barriers.length := by simp at g; omega
  refine CaseB.mk (fun g => ?_) (fun g => ?_)
  · have q : ¬ s.chans.length = p.rooms.length := by simp at g; omega
    exact retw [] ⟨_, rfl, tno fun e => q (by have := e.lchans; simpa [StateH.pure, ProgH.pure] using this), rfl⟩ trivial rfl trivial (fun _ => rfl)
  have c6 : s.chans.length = p.rooms.length := by simp at g; omega
  refine CaseB.mk (fun g => ?_) (fun g => ?_)
  · have q : ¬ s.onces.length = 3 := by simp at g; omega
    exact retw [] ⟨_, rfl, tno fun e => q (by have := e.lonces; simpa [StateH.pure, ProgH.pure] using this), rfl⟩ trivial rfl trivial (fun _ => rfl)
  have c3 : s.onces.length = 3 := by simp at g; omega
  refine CaseB.mk (fun g => ?_) (fun g => ?_)
  · have q : ¬ s.said.length ≤ 64 := by have g' := of_decide_eq_true g; omega
    exact retw [] ⟨_, rfl, tno fun e => q e.lsaid, rfl⟩ trivial rfl trivial (fun _ => rfl)
  have c7 : s.said.length ≤ 64 := by have g' := of_decide_eq_false g; omega
  refine CaseB.mk (fun g => ?_) (fun g => ?_)
  · have q : ¬ 0 ≤ s.fault := by have g' := of_decide_eq_true g; omega
    exact retw [] ⟨_, rfl, tno fun e => q e.f0, rfl⟩ trivial rfl trivial (fun _ => rfl)
  have c8 : 0 ≤ s.fault := by have g' := of_decide_eq_false g; omega
  refine CaseB.mk (fun g => ?_) (fun g => ?_)
  · have q : ¬ s.fault ≤ 4 := by have g' := of_decide_eq_true g; omega
    exact retw [] ⟨_, rfl, tno fun e => q e.f4, rfl⟩ trivial rfl trivial (fun _ => rfl)
  have c9 : s.fault ≤ 4 := by have g' := of_decide_eq_false g; omega
  have n4 : p.threads.length ≤ 4 := by have := ok.n4; rwa [lt] at this
  have m0 : p.sems.length ≤ 3 := ok.sems.1
  have m1 : p.groups.length ≤ 3 := ok.groups.1
  have m2 : p.barriers.length ≤ 3 := ok.barriers.1
  have m3 : p.rooms.length ≤ 3 := ok.rooms.1
  refine LoopW.mk ⟨{ k : Nat // k ≤ s.sems.length ∧ ∀ (i : Nat) x, i < k → s.pure.sems[i]? = some x → SemOk x ∧ p.pure.sems[i]? = some x.limit },
    fun k => .mk [(2, .p 0 0), (3, .p 1 0), (106, .v (s.h2.val s.sems.length)), (107, .v (.int .i64 (s.sems.length : Int))), (108, .v (.int .i64 (k.1 : Int)))] 2 0 [(0, 38, 5), (1, 46, 9)] [((0, 0), .v (p.h0.val p.sems.length)), ((0, 1), .v (p.h1.val p.groups.length)), ((0, 2), .v (p.h2.val p.barriers.length)), ((0, 3), .v (p.h3.val p.rooms.length)), ((0, 4), .v (p.h4.val p.threads.length)), ((1, 0), .v (s.h0.val s.places.length)), ((1, 1), .v (s.h1.val s.status.length)), ((1, 2), .v (s.h2.val s.sems.length)), ((1, 3), .v (s.h3.val s.onces.length)), ((1, 4), .v (s.h4.val s.groups.length)), ((1, 5), .v (s.h5.val s.barriers.length)), ((1, 6), .v (s.h6.val s.chans.length)), ((1, 7), .v (s.h7.val s.said.length)), ((1, 8), .v (.int .i64 s.fault))] [fR (progO p), fR (stateO s)],
    fun k => s.sems.length - k.1, ⟨0, Nat.zero_le _, fun i x hi => by omega⟩, ?_, ?_⟩
  · refine weak_mk [0, 1] ?_ ?_ ?_ ?_ ?_ rfl rfl
    · repeat (first | exact trivial | refine ⟨⟨_, rfl, (by first | exact .of rfl | exact .lit rfl | exact .of (by first | (rfl)) | exact .lit (by first | (rfl))), (by first | exact trivial | exact Nat.le_of_ble_eq_true rfl | exact small1 rfl)⟩, ?_⟩)
    · repeat (first | exact trivial | refine ⟨⟨(by first | exact .head _ | exact .tail _ (.head _) | exact .tail _ (.tail _ (.head _)) | exact .tail _ (.tail _ (.tail _ (.head _))) | exact .tail _ (.tail _ (.tail _ (.tail _ (.head _)))) | exact .tail _ (.tail _ (.tail _ (.tail _ (.tail _ (.head _))))) | exact .tail _ (.tail _ (.tail _ (.tail _ (.tail _ (.tail _ (.head _)))))) | exact .tail _ (.tail _ (.tail _ (.tail _ (.tail _ (.tail _ (.tail _ (.head _))))))) | exact .tail _ (.tail _ (.tail _ (.tail _ (.tail _ (.tail _ (.tail _ (.tail _ (.head _)))))))) | exact .tail _ (.tail _ (.tail _ (.tail _ (.tail _ (.tail _ (.tail _ (.tail _ (.tail _ (.head _)))))))))), Nat.le_of_ble_eq_true rfl⟩, ?_⟩)
    · repeat (first | exact trivial | refine ⟨⟨_, rfl, (by first | exact .of rfl | exact .lit rfl | exact .of (by first | (rfl)) | exact .lit (by first | (rfl))), (by first | exact trivial | exact Nat.le_of_ble_eq_true rfl | exact small1 rfl)⟩, ?_⟩)
    · repeat (first | exact trivial | refine ⟨⟨_, rfl⟩, ?_⟩)
    · repeat (first | exact trivial | refine ⟨.inl ⟨_, rfl, (by first | rfl | (rfl))⟩, ?_⟩ | refine ⟨.inr ⟨Nat.le_of_ble_eq_true rfl, rfl, rfl, rfl, rfl⟩, ?_⟩)
  rintro ⟨k, hk, hinv⟩
  refine CaseB.mk (fun g => ?_) (fun g => ?_)
  · have hlt : k < s.sems.length := by simpa using g
    have hw := e_succ k _ hlt (by omega)
    have hat : s.pure.sems[k]? = some (s.sems[k]).m := by simp [StateH.pure, hlt]
    have hsm := (allS_map b2).2 _ (List.getElem_mem hlt)
    unfold Sem.small20 at hsm
    refine stop_idx encSemH tabOk rfl rfl rfl rfl rfl ⟨rfl, rfl⟩ (rdVia 1 rfl (.trans (.R_R (stateO_sems s)) (.ofR nest_h))) k rfl (by first | omega | (simp; done) | (simp; omega) | (unfold maxLen; omega) | (unfold maxLen; simp; done) | (unfold maxLen; simp; omega)) (fun ad => ?_)
    refine draw_start tabOk (by kernel_rfl) (by kernel_rfl) (by kernel_rfl) 200 [((0, 0), .v (p.h0.val p.sems.length)), ((2, 0), .v (.int .i64 (s.sems[k]).m.free)), ((2, 1), .v (.int .i64 (s.sems[k]).m.limit)), ((2, 2), .v ((s.sems[k]).q.val (s.sems[k]).m.queue.length))] [0] [_] ⟨⟨_, rfl, rfl, (by first | exact trivial | exact Nat.le_of_ble_eq_true rfl)⟩, ⟨_, rfl, rfl, (by first | exact trivial | exact Nat.le_of_ble_eq_true rfl)⟩, ⟨_, rfl, rfl, (by first | exact trivial | exact Nat.le_of_ble_eq_true rfl)⟩, ⟨_, rfl, rfl, (by first | exact trivial | exact Nat.le_of_ble_eq_true rfl)⟩, trivial⟩ ⟨⟨_, rfl⟩, ⟨_, rfl⟩, ⟨_, rfl⟩, ⟨_, rfl⟩, trivial⟩ ⟨rfl, trivial⟩ rfl ?_
    refine d_call _ cl42 rfl rfl rfl rfl ⟨rfl, rfl⟩ (fun A w hW => semValid_c _ _ w ⟨hW.get 1 rfl (.trans (.R_R (stateO_sems s)) (.ofR (semsO_0 _ _ k hlt))), trivial⟩ (by omega)) ?_
    rintro v L ⟨bb, rfl, hbb, rfl⟩
    refine CaseB.mk (fun g => ?_) (fun g => ?_)
    · exact retw [] ⟨_, rfl, tno fun e => (by rw [hbb.2 ((e.sems k _ hat).1)] at g; cases g), rfl⟩ trivial rfl trivial (fun _ => rfl)
    have q1 := hbb.1 (by simpa using g)
    have hlp : k < p.sems.length := by omega
    have hpat : p.pure.sems[k]? = some p.sems[k] := by simp [ProgH.pure, hlp]
    refine d_idx (ti := tiOf tab) encInt tabOk rfl rfl rfl rfl rfl ⟨rfl, rfl⟩ (rdVia 0 rfl (.ofR (progO_sems p))) k rfl (by first | omega | (simp; done) | (simp; omega) | (unfold maxLen; omega) | (unfold maxLen; simp; done) | (unfold maxLen; simp; omega)) (fun ad2 => ?_)
    refine CaseB.mk (fun g => ?_) (fun g => ?_)
    · have q : ¬ (s.sems[k]).m.limit = p.sems[k] := by simpa using g
      exact retw [] ⟨_, rfl, tno fun e => q (by have := (e.sems k _ hat).2; rw [hpat] at this; injection this with this; exact this.symm), rfl⟩ trivial rfl trivial (fun _ => rfl)
    have q2 : (s.sems[k]).m.limit = p.sems[k] := by simpa using g
    refine ⟨⟨k + 1, by omega, fun i x hi hx => ?_⟩, ?_, by simp only; omega⟩
    · by_cases e : i < k
      · exact hinv i x e hx
      · obtain rfl : i = k := by omega
        rw [hat] at hx
        injection hx with hx
        subst hx
        exact ⟨q1, by rw [hpat, q2]⟩
    · refine weak_mk [0, 1] ?_ ?_ ?_ ?_ ?_ rfl rfl
      · repeat (first | exact trivial | refine ⟨⟨_, rfl, (by first | exact .of rfl | exact .lit rfl | exact .of (by first | ((exact congrArg (fun z => SV.v (Value.int .i64 z)) hw))) | exact .lit (by first | ((exact congrArg (fun z => SV.v (Value.int .i64 z)) hw)))), (by first | exact trivial | exact Nat.le_of_ble_eq_true rfl | exact small1 rfl)⟩, ?_⟩)
      · repeat (first | exact trivial | refine ⟨⟨(by first | exact .head _ | exact .tail _ (.head _) | exact .tail _ (.tail _ (.head _)) | exact .tail _ (.tail _ (.tail _ (.head _))) | exact .tail _ (.tail _ (.tail _ (.tail _ (.head _)))) | exact .tail _ (.tail _ (.tail _ (.tail _ (.tail _ (.head _))))) | exact .tail _ (.tail _ (.tail _ (.tail _ (.tail _ (.tail _ (.head _)))))) | exact .tail _ (.tail _ (.tail _ (.tail _ (.tail _ (.tail _ (.tail _ (.head _))))))) | exact .tail _ (.tail _ (.tail _ (.tail _ (.tail _ (.tail _ (.tail _ (.tail _ (.head _)))))))) | exact .tail _ (.tail _ (.tail _ (.tail _ (.tail _ (.tail _ (.tail _ (.tail _ (.tail _ (.head _)))))))))), Nat.le_of_ble_eq_true rfl⟩, ?_⟩)
      · repeat (first | exact trivial | refine ⟨⟨_, rfl, (by first | exact .of rfl | exact .lit rfl | exact .of (by first | ((exact congrArg (fun z => SV.v (Value.int .i64 z)) hw))) | exact .lit (by first | ((exact congrArg (fun z => SV.v (Value.int .i64 z)) hw)))), (by first | exact trivial | exact Nat.le_of_ble_eq_true rfl | exact small1 rfl)⟩, ?_⟩)
      · repeat (first | exact trivial | refine ⟨⟨_, rfl⟩, ?_⟩)
      · repeat (first | exact trivial | refine ⟨.inl ⟨_, rfl, (by first | rfl | ((exact congrArg (fun z => SV.v (Value.int .i64 z)) hw)))⟩, ?_⟩ | refine ⟨.inr ⟨Nat.le_of_ble_eq_true rfl, rfl, rfl, rfl, rfl⟩, ?_⟩)
  have hge : s.sems.length ≤ k := by simpa using g
  have vsems : ∀ (i : Nat) x, s.pure.sems[i]? = some x → SemOk x ∧ p.pure.sems[i]? = some x.limit := fun i x hx => hinv i x (by have := (List.getElem?_eq_some_iff.1 hx).1; omega) hx
  refine LoopW.mk ⟨{ k : Nat // k ≤ s.groups.length ∧ ∀ (i : Nat) x, i < k → s.pure.groups[i]? = some x → GroupOk x },
    fun k => .mk [(2, .p 0 0), (3, .p 1 0), (128, .v (s.h4.val s.groups.length)), (129, .v (.int .i64 (s.groups.length : Int))), (130, .v (.int .i64 (k.1 : Int)))] 2 0 [(0, 38, 5), (1, 46, 9)] [((0, 0), .v (p.h0.val p.sems.length)), ((0, 1), .v (p.h1.val p.groups.length)), ((0, 2), .v (p.h2.val p.barriers.length)), ((0, 3), .v (p.h3.val p.rooms.length)), ((0, 4), .v (p.h4.val p.threads.length)), ((1, 0), .v (s.h0.val s.places.length)), ((1, 1), .v (s.h1.val s.status.length)), ((1, 2), .v (s.h2.val s.sems.length)), ((1, 3), .v (s.h3.val s.onces.length)), ((1, 4), .v (s.h4.val s.groups.length)), ((1, 5), .v (s.h5.val s.barriers.length)), ((1, 6), .v (s.h6.val s.chans.length)), ((1, 7), .v (s.h7.val s.said.length)), ((1, 8), .v (.int .i64 s.fault))] [fR (progO p), fR (stateO s)],
    fun k => s.groups.length - k.1, ⟨0, Nat.zero_le _, fun i x hi => by omega⟩, ?_, ?_⟩
  · refine weak_mk [0, 1] ?_ ?_ ?_ ?_ ?_ rfl rfl
    · repeat (first | exact trivial | refine ⟨⟨_, rfl, (by first | exact .of rfl | exact .lit rfl | exact .of (by first | (rfl)) | exact .lit (by first | (rfl))), (by first | exact trivial | exact Nat.le_of_ble_eq_true rfl | exact small1 rfl)⟩, ?_⟩)
    · repeat (first | exact trivial | refine ⟨⟨(by first | exact .head _ | exact .tail _ (.head _) | exact .tail _ (.tail _ (.head _)) | exact .tail _ (.tail _ (.tail _ (.head _))) | exact .tail _ (.tail _ (.tail _ (.tail _ (.head _)))) | exact .tail _ (.tail _ (.tail _ (.tail _ (.tail _ (.head _))))) | exact .tail _ (.tail _ (.tail _ (.tail _ (.tail _ (.tail _ (.head _)))))) | exact .tail _ (.tail _ (.tail _ (.tail _ (.tail _ (.tail _ (.tail _ (.head _))))))) | exact .tail _ (.tail _ (.tail _ (.tail _ (.tail _ (.tail _ (.tail _ (.tail _ (.head _)))))))) | exact .tail _ (.tail _ (.tail _ (.tail _ (.tail _ (.tail _ (.tail _ (.tail _ (.tail _ (.head _)))))))))), Nat.le_of_ble_eq_true rfl⟩, ?_⟩)
    · repeat (first | exact trivial | refine ⟨⟨_, rfl, (by first | exact .of rfl | exact .lit rfl | exact .of (by first | (rfl)) | exact .lit (by first | (rfl))), (by first | exact trivial | exact Nat.le_of_ble_eq_true rfl | exact small1 rfl)⟩, ?_⟩)
    · repeat (first | exact trivial | refine ⟨⟨_, rfl⟩, ?_⟩)
    · repeat (first | exact trivial | refine ⟨.inl ⟨_, rfl, (by first | rfl | (rfl))⟩, ?_⟩ | refine ⟨.inr ⟨Nat.le_of_ble_eq_true rfl, rfl, rfl, rfl, rfl⟩, ?_⟩)
  rintro ⟨k, hk, hinv⟩
  refine CaseB.mk (fun g => ?_) (fun g => ?_)
  · have hlt : k < s.groups.length := by simpa using g
    have hw := e_succ k _ hlt (by omega)
    have hat : s.pure.groups[k]? = some (s.groups[k]).m := by simp [StateH.pure, hlt]
    have hsm := (allS_map b4).2 _ (List.getElem_mem hlt)
    unfold Group.small20 at hsm
    refine stop_idx encGroupH tabOk rfl rfl rfl rfl rfl ⟨rfl, rfl⟩ (rdVia 1 rfl (.trans (.R_R (stateO_groups s)) (.ofR nest_h))) k rfl (by first | omega | (simp; done) | (simp; omega) | (unfold maxLen; omega) | (unfold maxLen; simp; done) | (unfold maxLen; simp; omega)) (fun ad => ?_)
    refine stop_call _ cl43 rfl rfl rfl rfl ⟨rfl, rfl⟩ (fun A w hW => groupValid_c _ _ w ⟨hW.get 1 rfl (.trans (.R_R (stateO_groups s)) (.ofR (groupsO_0 _ _ k hlt))), trivial⟩ (by omega)) ?_
    rintro v L ⟨bb, rfl, hbb, rfl⟩
    refine CaseB.mk (fun g => ?_) (fun g => ?_)
    · exact retw [] ⟨_, rfl, tno fun e => (by rw [hbb.2 (e.groups _ (List.mem_of_getElem? hat))] at g; cases g), rfl⟩ trivial rfl trivial (fun _ => rfl)
    have q1 := hbb.1 (by simpa using g)
    refine ⟨⟨k + 1, by omega, fun i x hi hx => ?_⟩, ?_, by simp only; omega⟩
    · by_cases e : i < k
      · exact hinv i x e hx
      · obtain rfl : i = k := by omega
        rw [hat] at hx
        injection hx with hx
        subst hx
        exact q1
    · refine weak_mk [0, 1] ?_ ?_ ?_ ?_ ?_ rfl rfl
      · repeat (first | exact trivial | refine ⟨⟨_, rfl, (by first | exact .of rfl | exact .lit rfl | exact .of (by first | ((exact congrArg (fun z => SV.v (Value.int .i64 z)) hw))) | exact .lit (by first | ((exact congrArg (fun z => SV.v (Value.int .i64 z)) hw)))), (by first | exact trivial | exact Nat.le_of_ble_eq_true rfl | exact small1 rfl)⟩, ?_⟩)
      · repeat (first | exact trivial | refine ⟨⟨(by first | exact .head _ | exact .tail _ (.head _) | exact .tail _ (.tail _ (.head _)) | exact .tail _ (.tail _ (.tail _ (.head _))) | exact .tail _ (.tail _ (.tail _ (.tail _ (.head _)))) | exact .tail _ (.tail _ (.tail _ (.tail _ (.tail _ (.head _))))) | exact .tail _ (.tail _ (.tail _ (.tail _ (.tail _ (.tail _ (.head _)))))) | exact .tail _ (.tail _ (.tail _ (.tail _ (.tail _ (.tail _ (.tail _ (.head _))))))) | exact .tail _ (.tail _ (.tail _ (.tail _ (.tail _ (.tail _ (.tail _ (.tail _ (.head _)))))))) | exact .tail _ (.tail _ (.tail _ (.tail _ (.tail _ (.tail _ (.tail _ (.tail _ (.tail _ (.head _)))))))))), Nat.le_of_ble_eq_true rfl⟩, ?_⟩)
      · repeat (first | exact trivial | refine ⟨⟨_, rfl, (by first | exact .of rfl | exact .lit rfl | exact .of (by first | ((exact congrArg (fun z => SV.v (Value.int .i64 z)) hw))) | exact .lit (by first | ((exact congrArg (fun z => SV.v (Value.int .i64 z)) hw)))), (by first | exact trivial | exact Nat.le_of_ble_eq_true rfl | exact small1 rfl)⟩, ?_⟩)
      · repeat (first | exact trivial | refine ⟨⟨_, rfl⟩, ?_⟩)
      · repeat (first | exact trivial | refine ⟨.inl ⟨_, rfl, (by first | rfl | ((exact congrArg (fun z => SV.v (Value.int .i64 z)) hw)))⟩, ?_⟩ | refine ⟨.inr ⟨Nat.le_of_ble_eq_true rfl, rfl, rfl, rfl, rfl⟩, ?_⟩)
  have hge : s.groups.length ≤ k := by simpa using g
  have vgroups : ∀ (i : Nat) x, s.pure.groups[i]? = some x → GroupOk x := fun i x hx => hinv i x (by have := (List.getElem?_eq_some_iff.1 hx).1; omega) hx
  refine LoopW.mk ⟨{ k : Nat // k ≤ s.barriers.length ∧ ∀ (i : Nat) x, i < k → s.pure.barriers[i]? = some x → BarrierOk x ∧ p.pure.barriers[i]? = some x.parties },
    fun k => .mk [(2, .p 0 0), (3, .p 1 0), (139, .v (s.h5.val s.barriers.length)), (140, .v (.int .i64 (s.barriers.length : Int))), (141, .v (.int .i64 (k.1 : Int)))] 2 0 [(0, 38, 5), (1, 46, 9)] [((0, 0), .v (p.h0.val p.sems.length)), ((0, 1), .v (p.h1.val p.groups.length)), ((0, 2), .v (p.h2.val p.barriers.length)), ((0, 3), .v (p.h3.val p.rooms.length)), ((0, 4), .v (p.h4.val p.threads.length)), ((1, 0), .v (s.h0.val s.places.length)), ((1, 1), .v (s.h1.val s.status.length)), ((1, 2), .v (s.h2.val s.sems.length)), ((1, 3), .v (s.h3.val s.onces.length)), ((1, 4), .v (s.h4.val s.groups.length)), ((1, 5), .v (s.h5.val s.barriers.length)), ((1, 6), .v (s.h6.val s.chans.length)), ((1, 7), .v (s.h7.val s.said.length)), ((1, 8), .v (.int .i64 s.fault))] [fR (progO p), fR (stateO s)],
    fun k => s.barriers.length - k.1, ⟨0, Nat.zero_le _, fun i x hi => by omega⟩, ?_, ?_⟩
  · refine weak_mk [0, 1] ?_ ?_ ?_ ?_ ?_ rfl rfl
    · repeat (first | exact trivial | refine ⟨⟨_, rfl, (by first | exact .of rfl | exact .lit rfl | exact .of (by first | (rfl)) | exact .lit (by first | (rfl))), (by first | exact trivial | exact Nat.le_of_ble_eq_true rfl | exact small1 rfl)⟩, ?_⟩)
    · repeat (first | exact trivial | refine ⟨⟨(by first | exact .head _ | exact .tail _ (.head _) | exact .tail _ (.tail _ (.head _)) | exact .tail _ (.tail _ (.tail _ (.head _))) | exact .tail _ (.tail _ (.tail _ (.tail _ (.head _)))) | exact .tail _ (.tail _ (.tail _ (.tail _ (.tail _ (.head _))))) | exact .tail _ (.tail _ (.tail _ (.tail _ (.tail _ (.tail _ (.head _)))))) | exact .tail _ (.tail _ (.tail _ (.tail _ (.tail _ (.tail _ (.tail _ (.head _))))))) | exact .tail _ (.tail _ (.tail _ (.tail _ (.tail _ (.tail _ (.tail _ (.tail _ (.head _)))))))) | exact .tail _ (.tail _ (.tail _ (.tail _ (.tail _ (.tail _ (.tail _ (.tail _ (.tail _ (.head _)))))))))), Nat.le_of_ble_eq_true rfl⟩, ?_⟩)
    · repeat (first | exact trivial | refine ⟨⟨_, rfl, (by first | exact .of rfl | exact .lit rfl | exact .of (by first | (rfl)) | exact .lit (by first | (rfl))), (by first | exact trivial | exact Nat.le_of_ble_eq_true rfl | exact small1 rfl)⟩, ?_⟩)
    · repeat (first | exact trivial | refine ⟨⟨_, rfl⟩, ?_⟩)
    · repeat (first | exact trivial | refine ⟨.inl ⟨_, rfl, (by first | rfl | (rfl))⟩, ?_⟩ | refine ⟨.inr ⟨Nat.le_of_ble_eq_true rfl, rfl, rfl, rfl, rfl⟩, ?_⟩)
  rintro ⟨k, hk, hinv⟩
  refine CaseB.mk (fun g => ?_) (fun g => ?_)
  · have hlt : k < s.barriers.length := by simpa using g
    have hw := e_succ k _ hlt (by omega)
    have hat : s.pure.barriers[k]? = some (s.barriers[k]).m := by simp [StateH.pure, hlt]
    have hsm := (allS_map b5).2 _ (List.getElem_mem hlt)
    unfold Barrier.small20 at hsm
    refine stop_idx encBarrierH tabOk rfl rfl rfl rfl rfl ⟨rfl, rfl⟩ (rdVia 1 rfl (.trans (.R_R (stateO_barriers s)) (.ofR nest_h))) k rfl (by first | omega | (simp; done) | (simp; omega) | (unfold maxLen; omega) | (unfold maxLen; simp; done) | (unfold maxLen; simp; omega)) (fun ad => ?_)
    refine draw_start tabOk (by kernel_rfl) (by kernel_rfl) (by kernel_rfl) 200 [((0, 2), .v (p.h2.val p.barriers.length)), ((2, 0), .v (.int .i64 (s.barriers[k]).m.parties)), ((2, 1), .v (.int .i64 (s.barriers[k]).m.round)), ((2, 2), .v ((s.barriers[k]).q.val (s.barriers[k]).m.waits.length))] [0] [_] ⟨⟨_, rfl, rfl, (by first | exact trivial | exact Nat.le_of_ble_eq_true rfl)⟩, ⟨_, rfl, rfl, (by first | exact trivial | exact Nat.le_of_ble_eq_true rfl)⟩, ⟨_, rfl, rfl, (by first | exact trivial | exact Nat.le_of_ble_eq_true rfl)⟩, ⟨_, rfl, rfl, (by first | exact trivial | exact Nat.le_of_ble_eq_true rfl)⟩, trivial⟩ ⟨⟨_, rfl⟩, ⟨_, rfl⟩, ⟨_, rfl⟩, ⟨_, rfl⟩, trivial⟩ ⟨rfl, trivial⟩ rfl ?_
    refine d_call _ cl44 rfl rfl rfl rfl ⟨rfl, rfl⟩ (fun A w hW => barrierValid_c _ _ w ⟨hW.get 1 rfl (.trans (.R_R (stateO_barriers s)) (.ofR (barriersO_0 _ _ k hlt))), trivial⟩ (by omega)) ?_
    rintro v L ⟨bb, rfl, hbb, rfl⟩
    refine CaseB.mk (fun g => ?_) (fun g => ?_)
    · exact retw [] ⟨_, rfl, tno fun e => (by rw [hbb.2 ((e.barriers k _ hat).1)] at g; cases g), rfl⟩ trivial rfl trivial (fun _ => rfl)
    have q1 := hbb.1 (by simpa using g)
    have hlp : k < p.barriers.length := by omega
    have hpat : p.pure.barriers[k]? = some p.barriers[k] := by simp [ProgH.pure, hlp]
    refine d_idx (ti := tiOf tab) encInt tabOk rfl rfl rfl rfl rfl ⟨rfl, rfl⟩ (rdVia 0 rfl (.ofR (progO_barriers p))) k rfl (by first | omega | (simp; done) | (simp; omega) | (unfold maxLen; omega) | (unfold maxLen; simp; done) | (unfold maxLen; simp; omega)) (fun ad2 => ?_)
    refine CaseB.mk (fun g => ?_) (fun g => ?_)
    · have q : ¬ (s.barriers[k]).m.parties = p.barriers[k] := by simpa using g
      exact retw [] ⟨_, rfl, tno fun e => q (by have := (e.barriers k _ hat).2; rw [hpat] at this; injection this with this; exact this.symm), rfl⟩ trivial rfl trivial (fun _ => rfl)
    have q2 : (s.barriers[k]).m.parties = p.barriers[k] := by simpa using g
    refine ⟨⟨k + 1, by omega, fun i x hi hx => ?_⟩, ?_, by simp only; omega⟩
    · by_cases e : i < k
      · exact hinv i x e hx
      · obtain rfl : i = k := by omega
        rw [hat] at hx
        injection hx with hx
        subst hx
        exact ⟨q1, by rw [hpat, q2]⟩
    · refine weak_mk [0, 1] ?_ ?_ ?_ ?_ ?_ rfl rfl
      · repeat (first | exact trivial | refine ⟨⟨_, rfl, (by first | exact .of rfl | exact .lit rfl | exact .of (by first | ((exact congrArg (fun z => SV.v (Value.int .i64 z)) hw))) | exact .lit (by first | ((exact congrArg (fun z => SV.v (Value.int .i64 z)) hw)))), (by first | exact trivial | exact Nat.le_of_ble_eq_true rfl | exact small1 rfl)⟩, ?_⟩)
      · repeat (first | exact trivial | refine ⟨⟨(by first | exact .head _ | exact .tail _ (.head _) | exact .tail _ (.tail _ (.head _)) | exact .tail _ (.tail _ (.tail _ (.head _))) | exact .tail _ (.tail _ (.tail _ (.tail _ (.head _)))) | exact .tail _ (.tail _ (.tail _ (.tail _ (.tail _ (.head _))))) | exact .tail _ (.tail _ (.tail _ (.tail _ (.tail _ (.tail _ (.head _)))))) | exact .tail _ (.tail _ (.tail _ (.tail _ (.tail _ (.tail _ (.tail _ (.head _))))))) | exact .tail _ (.tail _ (.tail _ (.tail _ (.tail _ (.tail _ (.tail _ (.tail _ (.head _)))))))) | exact .tail _ (.tail _ (.tail _ (.tail _ (.tail _ (.tail _ (.tail _ (.tail _ (.tail _ (.head _)))))))))), Nat.le_of_ble_eq_true rfl⟩, ?_⟩)
      · repeat (first | exact trivial | refine ⟨⟨_, rfl, (by first | exact .of rfl | exact .lit rfl | exact .of (by first | ((exact congrArg (fun z => SV.v (Value.int .i64 z)) hw))) | exact .lit (by first | ((exact congrArg (fun z => SV.v (Value.int .i64 z)) hw)))), (by first | exact trivial | exact Nat.le_of_ble_eq_true rfl | exact small1 rfl)⟩, ?_⟩)
      · repeat (first | exact trivial | refine ⟨⟨_, rfl⟩, ?_⟩)
      · repeat (first | exact trivial | refine ⟨.inl ⟨_, rfl, (by first | rfl | ((exact congrArg (fun z => SV.v (Value.int .i64 z)) hw)))⟩, ?_⟩ | refine ⟨.inr ⟨Nat.le_of_ble_eq_true rfl, rfl, rfl, rfl, rfl⟩, ?_⟩)
  have hge : s.barriers.length ≤ k := by simpa using g
  have vbarriers : ∀ (i : Nat) x, s.pure.barriers[i]? = some x → BarrierOk x ∧ p.pure.barriers[i]? = some x.parties := fun i x hx => hinv i x (by have := (List.getElem?_eq_some_iff.1 hx).1; omega) hx
  refine LoopW.mk ⟨{ k : Nat // k ≤ s.chans.length ∧ ∀ (i : Nat) x, i < k → s.pure.chans[i]? = some x → x.valid = true ∧ p.pure.rooms[i]? = some x.room },
    fun k => .mk [(2, .p 0 0), (3, .p 1 0), (161, .v (s.h6.val s.chans.length)), (162, .v (.int .i64 (s.chans.length : Int))), (163, .v (.int .i64 (k.1 : Int)))] 2 0 [(0, 38, 5), (1, 46, 9)] [((0, 0), .v (p.h0.val p.sems.length)), ((0, 1), .v (p.h1.val p.groups.length)), ((0, 2), .v (p.h2.val p.barriers.length)), ((0, 3), .v (p.h3.val p.rooms.length)), ((0, 4), .v (p.h4.val p.threads.length)), ((1, 0), .v (s.h0.val s.places.length)), ((1, 1), .v (s.h1.val s.status.length)), ((1, 2), .v (s.h2.val s.sems.length)), ((1, 3), .v (s.h3.val s.onces.length)), ((1, 4), .v (s.h4.val s.groups.length)), ((1, 5), .v (s.h5.val s.barriers.length)), ((1, 6), .v (s.h6.val s.chans.length)), ((1, 7), .v (s.h7.val s.said.length)), ((1, 8), .v (.int .i64 s.fault))] [fR (progO p), fR (stateO s)],
    fun k => s.chans.length - k.1, ⟨0, Nat.zero_le _, fun i x hi => by omega⟩, ?_, ?_⟩
  · refine weak_mk [0, 1] ?_ ?_ ?_ ?_ ?_ rfl rfl
    · repeat (first | exact trivial | refine ⟨⟨_, rfl, (by first | exact .of rfl | exact .lit rfl | exact .of (by first | (rfl)) | exact .lit (by first | (rfl))), (by first | exact trivial | exact Nat.le_of_ble_eq_true rfl | exact small1 rfl)⟩, ?_⟩)
    · repeat (first | exact trivial | refine ⟨⟨(by first | exact .head _ | exact .tail _ (.head _) | exact .tail _ (.tail _ (.head _)) | exact .tail _ (.tail _ (.tail _ (.head _))) | exact .tail _ (.tail _ (.tail _ (.tail _ (.head _)))) | exact .tail _ (.tail _ (.tail _ (.tail _ (.tail _ (.head _))))) | exact .tail _ (.tail _ (.tail _ (.tail _ (.tail _ (.tail _ (.head _)))))) | exact .tail _ (.tail _ (.tail _ (.tail _ (.tail _ (.tail _ (.tail _ (.head _))))))) | exact .tail _ (.tail _ (.tail _ (.tail _ (.tail _ (.tail _ (.tail _ (.tail _ (.head _)))))))) | exact .tail _ (.tail _ (.tail _ (.tail _ (.tail _ (.tail _ (.tail _ (.tail _ (.tail _ (.head _)))))))))), Nat.le_of_ble_eq_true rfl⟩, ?_⟩)
    · repeat (first | exact trivial | refine ⟨⟨_, rfl, (by first | exact .of rfl | exact .lit rfl | exact .of (by first | (rfl)) | exact .lit (by first | (rfl))), (by first | exact trivial | exact Nat.le_of_ble_eq_true rfl | exact small1 rfl)⟩, ?_⟩)
    · repeat (first | exact trivial | refine ⟨⟨_, rfl⟩, ?_⟩)
    · repeat (first | exact trivial | refine ⟨.inl ⟨_, rfl, (by first | rfl | (rfl))⟩, ?_⟩ | refine ⟨.inr ⟨Nat.le_of_ble_eq_true rfl, rfl, rfl, rfl, rfl⟩, ?_⟩)
  rintro ⟨k, hk, hinv⟩
  refine CaseB.mk (fun g => ?_) (fun g => ?_)
  · have hlt : k < s.chans.length := by simpa using g
    have hw := e_succ k _ hlt (by omega)
    have hat : s.pure.chans[k]? = some (s.chans[k]).m := by simp [StateH.pure, hlt]
    have hsm := (allS_map b6).2 _ (List.getElem_mem hlt)
    unfold Chan.small20 at hsm
    refine stop_idx encChanH tabOk rfl rfl rfl rfl rfl ⟨rfl, rfl⟩ (rdVia 1 rfl (.trans (.R_R (stateO_chans s)) (.ofR nest_h))) k rfl (by first | omega | (simp; done) | (simp; omega) | (unfold maxLen; omega) | (unfold maxLen; simp; done) | (unfold maxLen; simp; omega)) (fun ad => ?_)
    refine draw_start tabOk (by kernel_rfl) (by kernel_rfl) (by kernel_rfl) 200 [((0, 3), .v (p.h3.val p.rooms.length)), ((2, 0), .v (.int .i64 (s.chans[k]).m.room)), ((2, 1), .v ((s.chans[k]).q0.val (s.chans[k]).m.items.length)), ((2, 2), .v ((s.chans[k]).q1.val (s.chans[k]).m.senders.length)), ((2, 3), .v ((s.chans[k]).q2.val (s.chans[k]).m.getters.length)), ((2, 4), .v (.bool (s.chans[k]).m.closed))] [0] [_] ⟨⟨_, rfl, rfl, (by first | exact trivial | exact Nat.le_of_ble_eq_true rfl)⟩, ⟨_, rfl, rfl, (by first | exact trivial | exact Nat.le_of_ble_eq_true rfl)⟩, ⟨_, rfl, rfl, (by first | exact trivial | exact Nat.le_of_ble_eq_true rfl)⟩, ⟨_, rfl, rfl, (by first | exact trivial | exact Nat.le_of_ble_eq_true rfl)⟩, ⟨_, rfl, rfl, (by first | exact trivial | exact Nat.le_of_ble_eq_true rfl)⟩, ⟨_, rfl, rfl, (by first | exact trivial | exact Nat.le_of_ble_eq_true rfl)⟩, trivial⟩ ⟨⟨_, rfl⟩, ⟨_, rfl⟩, ⟨_, rfl⟩, ⟨_, rfl⟩, ⟨_, rfl⟩, ⟨_, rfl⟩, trivial⟩ ⟨rfl, trivial⟩ rfl ?_
    refine d_call _ cl45 rfl rfl rfl rfl ⟨rfl, rfl⟩ (fun A w hW => valid_c _ _ _ _ w ⟨hW.get 1 rfl (.trans (.R_R (stateO_chans s)) (.ofR (chansO_0 _ _ k hlt))), hW.get 1 rfl (.trans (.R_R (stateO_chans s)) (.ofR (chansO_1 _ _ k hlt))), hW.get 1 rfl (.trans (.R_R (stateO_chans s)) (.ofR (chansO_2 _ _ k hlt))), trivial⟩ ⟨by omega, by omega, by omega⟩) ?_
    rintro v L ⟨rfl, rfl⟩
    refine CaseB.mk (fun g => ?_) (fun g => ?_)
    · exact retw [] ⟨_, rfl, tno fun e => (by rw [(e.chans k _ hat).1] at g; cases g), rfl⟩ trivial rfl trivial (fun _ => rfl)
    have q1 : (s.chans[k]).m.valid = true := by simpa using g
    have hlp : k < p.rooms.length := by omega
    have hpat : p.pure.rooms[k]? = some p.rooms[k] := by simp [ProgH.pure, hlp]
    refine d_idx (ti := tiOf tab) encInt tabOk rfl rfl rfl rfl rfl ⟨rfl, rfl⟩ (rdVia 0 rfl (.ofR (progO_rooms p))) k rfl (by first | omega | (simp; done) | (simp; omega) | (unfold maxLen; omega) | (unfold maxLen; simp; done) | (unfold maxLen; simp; omega)) (fun ad2 => ?_)
    refine CaseB.mk (fun g => ?_) (fun g => ?_)
    · have q : ¬ (s.chans[k]).m.room = p.rooms[k] := by simpa using g
      exact retw [] ⟨_, rfl, tno fun e => q (by have := (e.chans k _ hat).2; rw [hpat] at this; injection this with this; exact this.symm), rfl⟩ trivial rfl trivial (fun _ => rfl)
    have q2 : (s.chans[k]).m.room = p.rooms[k] := by simpa using g
    refine ⟨⟨k + 1, by omega, fun i x hi hx => ?_⟩, ?_, by simp only; omega⟩
    · by_cases e : i < k
      · exact hinv i x e hx
      · obtain rfl : i = k := by omega
        rw [hat] at hx
        injection hx with hx
        subst hx
        exact ⟨q1, by rw [hpat, q2]⟩
    · refine weak_mk [0, 1] ?_ ?_ ?_ ?_ ?_ rfl rfl
      · repeat (first | exact trivial | refine ⟨⟨_, rfl, (by first | exact .of rfl | exact .lit rfl | exact .of (by first | ((exact congrArg (fun z => SV.v (Value.int .i64 z)) hw))) | exact .lit (by first | ((exact congrArg (fun z => SV.v (Value.int .i64 z)) hw)))), (by first | exact trivial | exact Nat.le_of_ble_eq_true rfl | exact small1 rfl)⟩, ?_⟩)
      · repeat (first | exact trivial | refine ⟨⟨(by first | exact .head _ | exact .tail _ (.head _) | exact .tail _ (.tail _ (.head _)) | exact .tail _ (.tail _ (.tail _ (.head _))) | exact .tail _ (.tail _ (.tail _ (.tail _ (.head _)))) | exact .tail _ (.tail _ (.tail _ (.tail _ (.tail _ (.head _))))) | exact .tail _ (.tail _ (.tail _ (.tail _ (.tail _ (.tail _ (.head _)))))) | exact .tail _ (.tail _ (.tail _ (.tail _ (.tail _ (.tail _ (.tail _ (.head _))))))) | exact .tail _ (.tail _ (.tail _ (.tail _ (.tail _ (.tail _ (.tail _ (.tail _ (.head _)))))))) | exact .tail _ (.tail _ (.tail _ (.tail _ (.tail _ (.tail _ (.tail _ (.tail _ (.tail _ (.head _)))))))))), Nat.le_of_ble_eq_true rfl⟩, ?_⟩)
      · repeat (first | exact trivial | refine ⟨⟨_, rfl, (by first | exact .of rfl | exact .lit rfl | exact .of (by first | ((exact congrArg (fun z => SV.v (Value.int .i64 z)) hw))) | exact .lit (by first | ((exact congrArg (fun z => SV.v (Value.int .i64 z)) hw)))), (by first | exact trivial | exact Nat.le_of_ble_eq_true rfl | exact small1 rfl)⟩, ?_⟩)
      · repeat (first | exact trivial | refine ⟨⟨_, rfl⟩, ?_⟩)
      · repeat (first | exact trivial | refine ⟨.inl ⟨_, rfl, (by first | rfl | ((exact congrArg (fun z => SV.v (Value.int .i64 z)) hw)))⟩, ?_⟩ | refine ⟨.inr ⟨Nat.le_of_ble_eq_true rfl, rfl, rfl, rfl, rfl⟩, ?_⟩)
  have hge : s.chans.length ≤ k := by simpa using g
  have vchans : ∀ (i : Nat) x, s.pure.chans[i]? = some x → x.valid = true ∧ p.pure.rooms[i]? = some x.room := fun i x hx => hinv i x (by have := (List.getElem?_eq_some_iff.1 hx).1; omega) hx
  refine LoopW.mk ⟨{ k : Nat // k ≤ s.onces.length ∧ ∀ (i : Nat) x, i < k → s.pure.onces[i]? = some x → OnceOk x },
    fun k => .mk [(2, .p 0 0), (3, .p 1 0), (183, .v (s.h3.val s.onces.length)), (184, .v (.int .i64 (s.onces.length : Int))), (185, .v (.int .i64 (k.1 : Int)))] 2 0 [(0, 38, 5), (1, 46, 9)] [((0, 0), .v (p.h0.val p.sems.length)), ((0, 1), .v (p.h1.val p.groups.length)), ((0, 2), .v (p.h2.val p.barriers.length)), ((0, 3), .v (p.h3.val p.rooms.length)), ((0, 4), .v (p.h4.val p.threads.length)), ((1, 0), .v (s.h0.val s.places.length)), ((1, 1), .v (s.h1.val s.status.length)), ((1, 2), .v (s.h2.val s.sems.length)), ((1, 3), .v (s.h3.val s.onces.length)), ((1, 4), .v (s.h4.val s.groups.length)), ((1, 5), .v (s.h5.val s.barriers.length)), ((1, 6), .v (s.h6.val s.chans.length)), ((1, 7), .v (s.h7.val s.said.length)), ((1, 8), .v (.int .i64 s.fault))] [fR (progO p), fR (stateO s)],
    fun k => s.onces.length - k.1, ⟨0, Nat.zero_le _, fun i x hi => by omega⟩, ?_, ?_⟩
  · refine weak_mk [0, 1] ?_ ?_ ?_ ?_ ?_ rfl rfl
    · repeat (first | exact trivial | refine ⟨⟨_, rfl, (by first | exact .of rfl | exact .lit rfl | exact .of (by first | (rfl)) | exact .lit (by first | (rfl))), (by first | exact trivial | exact Nat.le_of_ble_eq_true rfl | exact small1 rfl)⟩, ?_⟩)
    · repeat (first | exact trivial | refine ⟨⟨(by first | exact .head _ | exact .tail _ (.head _) | exact .tail _ (.tail _ (.head _)) | exact .tail _ (.tail _ (.tail _ (.head _))) | exact .tail _ (.tail _ (.tail _ (.tail _ (.head _)))) | exact .tail _ (.tail _ (.tail _ (.tail _ (.tail _ (.head _))))) | exact .tail _ (.tail _ (.tail _ (.tail _ (.tail _ (.tail _ (.head _)))))) | exact .tail _ (.tail _ (.tail _ (.tail _ (.tail _ (.tail _ (.tail _ (.head _))))))) | exact .tail _ (.tail _ (.tail _ (.tail _ (.tail _ (.tail _ (.tail _ (.tail _ (.head _)))))))) | exact .tail _ (.tail _ (.tail _ (.tail _ (.tail _ (.tail _ (.tail _ (.tail _ (.tail _ (.head _)))))))))), Nat.le_of_ble_eq_true rfl⟩, ?_⟩)
    · repeat (first | exact trivial | refine ⟨⟨_, rfl, (by first | exact .of rfl | exact .lit rfl | exact .of (by first | (rfl)) | exact .lit (by first | (rfl))), (by first | exact trivial | exact Nat.le_of_ble_eq_true rfl | exact small1 rfl)⟩, ?_⟩)
    · repeat (first | exact trivial | refine ⟨⟨_, rfl⟩, ?_⟩)
    · repeat (first | exact trivial | refine ⟨.inl ⟨_, rfl, (by first | rfl | (rfl))⟩, ?_⟩ | refine ⟨.inr ⟨Nat.le_of_ble_eq_true rfl, rfl, rfl, rfl, rfl⟩, ?_⟩)
  rintro ⟨k, hk, hinv⟩
  refine CaseB.mk (fun g => ?_) (fun g => ?_)
  · have hlt : k < s.onces.length := by simpa using g
    have hw := e_succ k _ hlt (by omega)
    have hat : s.pure.onces[k]? = some (s.onces[k]).m := by simp [StateH.pure, hlt]
    have hsm := (allS_map b3).2 _ (List.getElem_mem hlt)
    unfold Once.small20 at hsm
    refine stop_idx encOnceH tabOk rfl rfl rfl rfl rfl ⟨rfl, rfl⟩ (rdVia 1 rfl (.trans (.R_R (stateO_onces s)) (.ofR nest_h))) k rfl (by first | omega | (simp; done) | (simp; omega) | (unfold maxLen; omega) | (unfold maxLen; simp; done) | (unfold maxLen; simp; omega)) (fun ad => ?_)
    refine stop_call _ cl46 rfl rfl rfl rfl ⟨rfl, rfl⟩ (fun A w hW => onceValid_c _ _ w ⟨hW.get 1 rfl (.trans (.R_R (stateO_onces s)) (.ofR (oncesO_0 _ _ k hlt))), trivial⟩ (by omega)) ?_
    rintro v L ⟨bb, rfl, hbb, rfl⟩
    refine CaseB.mk (fun g => ?_) (fun g => ?_)
    · exact retw [] ⟨_, rfl, tno fun e => (by rw [hbb.2 (e.onces _ (List.mem_of_getElem? hat))] at g; cases g), rfl⟩ trivial rfl trivial (fun _ => rfl)
    have q1 := hbb.1 (by simpa using g)
    refine ⟨⟨k + 1, by omega, fun i x hi hx => ?_⟩, ?_, by simp only; omega⟩
    · by_cases e : i < k
      · exact hinv i x e hx
      · obtain rfl : i = k := by omega
        rw [hat] at hx
        injection hx with hx
        subst hx
        exact q1
    · refine weak_mk [0, 1] ?_ ?_ ?_ ?_ ?_ rfl rfl
      · repeat (first | exact trivial | refine ⟨⟨_, rfl, (by first | exact .of rfl | exact .lit rfl | exact .of (by first | ((exact congrArg (fun z => SV.v (Value.int .i64 z)) hw))) | exact .lit (by first | ((exact congrArg (fun z => SV.v (Value.int .i64 z)) hw)))), (by first | exact trivial | exact Nat.le_of_ble_eq_true rfl | exact small1 rfl)⟩, ?_⟩)
      · repeat (first | exact trivial | refine ⟨⟨(by first | exact .head _ | exact .tail _ (.head _) | exact .tail _ (.tail _ (.head _)) | exact .tail _ (.tail _ (.tail _ (.head _))) | exact .tail _ (.tail _ (.tail _ (.tail _ (.head _)))) | exact .tail _ (.tail _ (.tail _ (.tail _ (.tail _ (.head _))))) | exact .tail _ (.tail _ (.tail _ (.tail _ (.tail _ (.tail _ (.head _)))))) | exact .tail _ (.tail _ (.tail _ (.tail _ (.tail _ (.tail _ (.tail _ (.head _))))))) | exact .tail _ (.tail _ (.tail _ (.tail _ (.tail _ (.tail _ (.tail _ (.tail _ (.head _)))))))) | exact .tail _ (.tail _ (.tail _ (.tail _ (.tail _ (.tail _ (.tail _ (.tail _ (.tail _ (.head _)))))))))), Nat.le_of_ble_eq_true rfl⟩, ?_⟩)
      · repeat (first | exact trivial | refine ⟨⟨_, rfl, (by first | exact .of rfl | exact .lit rfl | exact .of (by first | ((exact congrArg (fun z => SV.v (Value.int .i64 z)) hw))) | exact .lit (by first | ((exact congrArg (fun z => SV.v (Value.int .i64 z)) hw)))), (by first | exact trivial | exact Nat.le_of_ble_eq_true rfl | exact small1 rfl)⟩, ?_⟩)
      · repeat (first | exact trivial | refine ⟨⟨_, rfl⟩, ?_⟩)
      · repeat (first | exact trivial | refine ⟨.inl ⟨_, rfl, (by first | rfl | ((exact congrArg (fun z => SV.v (Value.int .i64 z)) hw)))⟩, ?_⟩ | refine ⟨.inr ⟨Nat.le_of_ble_eq_true rfl, rfl, rfl, rfl, rfl⟩, ?_⟩)
  have hge : s.onces.length ≤ k := by simpa using g
  have vonces : ∀ (i : Nat) x, s.pure.onces[i]? = some x → OnceOk x := fun i x hx => hinv i x (by have := (List.getElem?_eq_some_iff.1 hx).1; omega) hx
  refine LoopW.mk ⟨{ k : Nat // k ≤ s.said.length ∧ ∀ x ∈ s.said.take k, isValue x = true },
    fun k => .mk [(2, .p 0 0), (3, .p 1 0), (194, .v (s.h7.val s.said.length)), (195, .v (.int .i64 (s.said.length : Int))), (196, .v (.int .i64 (k.1 : Int)))] 2 0 [(0, 38, 5), (1, 46, 9)] [((0, 0), .v (p.h0.val p.sems.length)), ((0, 1), .v (p.h1.val p.groups.length)), ((0, 2), .v (p.h2.val p.barriers.length)), ((0, 3), .v (p.h3.val p.rooms.length)), ((0, 4), .v (p.h4.val p.threads.length)), ((1, 0), .v (s.h0.val s.places.length)), ((1, 1), .v (s.h1.val s.status.length)), ((1, 2), .v (s.h2.val s.sems.length)), ((1, 3), .v (s.h3.val s.onces.length)), ((1, 4), .v (s.h4.val s.groups.length)), ((1, 5), .v (s.h5.val s.barriers.length)), ((1, 6), .v (s.h6.val s.chans.length)), ((1, 7), .v (s.h7.val s.said.length)), ((1, 8), .v (.int .i64 s.fault))] [fR (progO p), fR (stateO s)],
    fun k => s.said.length - k.1, ⟨0, Nat.zero_le _, by simp⟩, ?_, ?_⟩
  · refine weak_mk [0, 1] ?_ ?_ ?_ ?_ ?_ rfl rfl
    · repeat (first | exact trivial | refine ⟨⟨_, rfl, (by first | exact .of rfl | exact .lit rfl | exact .of (by first | (rfl)) | exact .lit (by first | (rfl))), (by first | exact trivial | exact Nat.le_of_ble_eq_true rfl | exact small1 rfl)⟩, ?_⟩)
    · repeat (first | exact trivial | refine ⟨⟨(by first | exact .head _ | exact .tail _ (.head _) | exact .tail _ (.tail _ (.head _)) | exact .tail _ (.tail _ (.tail _ (.head _))) | exact .tail _ (.tail _ (.tail _ (.tail _ (.head _)))) | exact .tail _ (.tail _ (.tail _ (.tail _ (.tail _ (.head _))))) | exact .tail _ (.tail _ (.tail _ (.tail _ (.tail _ (.tail _ (.head _)))))) | exact .tail _ (.tail _ (.tail _ (.tail _ (.tail _ (.tail _ (.tail _ (.head _))))))) | exact .tail _ (.tail _ (.tail _ (.tail _ (.tail _ (.tail _ (.tail _ (.tail _ (.head _)))))))) | exact .tail _ (.tail _ (.tail _ (.tail _ (.tail _ (.tail _ (.tail _ (.tail _ (.tail _ (.head _)))))))))), Nat.le_of_ble_eq_true rfl⟩, ?_⟩)
    · repeat (first | exact trivial | refine ⟨⟨_, rfl, (by first | exact .of rfl | exact .lit rfl | exact .of (by first | (rfl)) | exact .lit (by first | (rfl))), (by first | exact trivial | exact Nat.le_of_ble_eq_true rfl | exact small1 rfl)⟩, ?_⟩)
    · repeat (first | exact trivial | refine ⟨⟨_, rfl⟩, ?_⟩)
    · repeat (first | exact trivial | refine ⟨.inl ⟨_, rfl, (by first | rfl | (rfl))⟩, ?_⟩ | refine ⟨.inr ⟨Nat.le_of_ble_eq_true rfl, rfl, rfl, rfl, rfl⟩, ?_⟩)
  rintro ⟨k, hk, hinv⟩
  refine CaseB.mk (fun g => ?_) (fun g => ?_)
  · have hlt : k < s.said.length := by simpa using g
    have hw := e_succ k _ hlt (by omega)
    refine stop_idx encInt tabOk rfl rfl rfl rfl rfl ⟨rfl, rfl⟩ (rdVia 1 rfl (.ofR (stateO_said s))) k rfl (by first | omega | (simp; done) | (simp; omega) | (unfold maxLen; omega) | (unfold maxLen; simp; done) | (unfold maxLen; simp; omega)) (fun ad => ?_)
    refine stop_call _ cl47 rfl rfl rfl rfl ⟨rfl, rfl⟩ (fun A w hW => isValue_c _ w) ?_
    rintro v L ⟨rfl, rfl⟩
    refine CaseB.mk (fun g => ?_) (fun g => ?_)
    · exact retw [] ⟨_, rfl, tno fun e => (by rw [e.said _ (List.getElem_mem (l := s.said) hlt)] at g; cases g), rfl⟩ trivial rfl trivial (fun _ => rfl)
    refine ⟨⟨k + 1, by omega, fun x hx => ?_⟩, ?_, by simp only; omega⟩
    · rw [List.take_succ_eq_append_getElem hlt] at hx
      rcases List.mem_append.1 hx with hx | hx
      · exact hinv x hx
      · simp at hx; subst hx; simpa using g
    · refine weak_mk [0, 1] ?_ ?_ ?_ ?_ ?_ rfl rfl
      · repeat (first | exact trivial | refine ⟨⟨_, rfl, (by first | exact .of rfl | exact .lit rfl | exact .of (by first | ((exact congrArg (fun z => SV.v (Value.int .i64 z)) hw))) | exact .lit (by first | ((exact congrArg (fun z => SV.v (Value.int .i64 z)) hw)))), (by first | exact trivial | exact Nat.le_of_ble_eq_true rfl | exact small1 rfl)⟩, ?_⟩)
      · repeat (first | exact trivial | refine ⟨⟨(by first | exact .head _ | exact .tail _ (.head _) | exact .tail _ (.tail _ (.head _)) | exact .tail _ (.tail _ (.tail _ (.head _))) | exact .tail _ (.tail _ (.tail _ (.tail _ (.head _)))) | exact .tail _ (.tail _ (.tail _ (.tail _ (.tail _ (.head _))))) | exact .tail _ (.tail _ (.tail _ (.tail _ (.tail _ (.tail _ (.head _)))))) | exact .tail _ (.tail _ (.tail _ (.tail _ (.tail _ (.tail _ (.tail _ (.head _))))))) | exact .tail _ (.tail _ (.tail _ (.tail _ (.tail _ (.tail _ (.tail _ (.tail _ (.head _)))))))) | exact .tail _ (.tail _ (.tail _ (.tail _ (.tail _ (.tail _ (.tail _ (.tail _ (.tail _ (.head _)))))))))), Nat.le_of_ble_eq_true rfl⟩, ?_⟩)
      · repeat (first | exact trivial | refine ⟨⟨_, rfl, (by first | exact .of rfl | exact .lit rfl | exact .of (by first | ((exact congrArg (fun z => SV.v (Value.int .i64 z)) hw))) | exact .lit (by first | ((exact congrArg (fun z => SV.v (Value.int .i64 z)) hw)))), (by first | exact trivial | exact Nat.le_of_ble_eq_true rfl | exact small1 rfl)⟩, ?_⟩)
      · repeat (first | exact trivial | refine ⟨⟨_, rfl⟩, ?_⟩)
      · repeat (first | exact trivial | refine ⟨.inl ⟨_, rfl, (by first | rfl | ((exact congrArg (fun z => SV.v (Value.int .i64 z)) hw)))⟩, ?_⟩ | refine ⟨.inr ⟨Nat.le_of_ble_eq_true rfl, rfl, rfl, rfl, rfl⟩, ?_⟩)
  have hge : s.said.length ≤ k := by simpa using g
  have vsaid : ∀ x ∈ s.said, isValue x = true := by rw [List.take_of_length_le hge] at hinv; exact hinv
  have hN : (events s.pure).length ≤ 1048576 := by
    have ge : ∀ {α : Type} {xs : List α} {Q : α → Prop}, (∀ (i : Nat) x, xs[i]? = some x → Q x) → ∀ x ∈ xs, Q x := fun h x hx => by
      obtain ⟨i, hi⟩ := List.getElem?_of_mem hx
      exact h i x hi
    have e1 := evL_len (f := evSem) (C := 6) (i := 0) (xs := s.pure.sems) fun i x hx => by
      have := (ge (Q := SemOk) (fun i x h => (vsems i x h).1) x hx).q6; simpa [evSem] using this
    have e2 := evL_len (f := evOnce) (C := 6) (i := 0) (xs := s.pure.onces) fun i x hx => by
      have := onceOk_len (ge vonces x hx); simpa [evOnce] using this
    have e3 := evL_len (f := evGroup) (C := 6) (i := 0) (xs := s.pure.groups) fun i x hx => by
      have := groupOk_len (ge vgroups x hx); simpa [evGroup] using this
    have e4 := evL_len (f := evBarrier) (C := 6) (i := 0) (xs := s.pure.barriers) fun i x hx => by
      have := barrierOk_len (ge (Q := BarrierOk) (fun i x h => (vbarriers i x h).1) x hx); simpa [evBarrier] using this
    have e5 := evL_len (f := evChan) (C := 6) (i := 0) (xs := s.pure.chans) fun i x hx => by
      have := chanOk_len (ge (Q := fun x => x.valid = true) (fun i x h => (vchans i x h).1) x hx); simpa [evChan] using this
    simp only [events, List.length_append]
    omega
  refine stop_call _ cl48 rfl rfl rfl rfl ⟨rfl, rfl⟩ (fun A w hW => waitingsOf_c s w ⟨hW.get 1 rfl (.refl _), trivial⟩ hN ⟨by omega, by omega, by omega, by omega, by omega⟩) ?_
  rintro v L ⟨r, r2, ps, os, rfl, hps, hos, rfl⟩
  have kps : keyed ps := keyed_pm.1 (by rw [hps]; exact mapOf_keyed _)
  have kos : keyed os := keyed_pm.1 (by rw [hos]; exact mapOf_keyed _)
  refine LoopW.mk ⟨{ q : Nat × List (Int × LH Waiting) × List (Int × LH Int) // q.1 ≤ p.threads.length ∧ Left ps q.2.1 q.1 ∧ Left os q.2.2 q.1 ∧ ∀ (t : Nat) ops at_ st, t < q.1 → p.pure.threads[t]? = some ops → s.pure.places[t]? = some at_ → s.pure.status[t]? = some st → ThreadOk ops at_ st (ofKey (events s.pure) t) (ofKey (owners s.pure) t) },
    fun q => .mk [(2, .p 0 0), (3, .p 1 0), (18, .v (.map (some r))), (19, .v (.map (some r2))), (210, .v (p.h4.val p.threads.length)), (211, .v (.int .i64 (p.threads.length : Int))), (212, .v (.int .i64 (q.1.1 : Int)))] 2 0 [(0, 38, 5), (1, 46, 9)] [((0, 0), .v (p.h0.val p.sems.length)), ((0, 1), .v (p.h1.val p.groups.length)), ((0, 2), .v (p.h2.val p.barriers.length)), ((0, 3), .v (p.h3.val p.rooms.length)), ((0, 4), .v (p.h4.val p.threads.length)), ((1, 0), .v (s.h0.val s.places.length)), ((1, 1), .v (s.h1.val s.status.length)), ((1, 2), .v (s.h2.val s.sems.length)), ((1, 3), .v (s.h3.val s.onces.length)), ((1, 4), .v (s.h4.val s.groups.length)), ((1, 5), .v (s.h5.val s.barriers.length)), ((1, 6), .v (s.h6.val s.chans.length)), ((1, 7), .v (s.h7.val s.said.length)), ((1, 8), .v (.int .i64 s.fault))] [fMW r q.1.2.1, fMap r2 venH q.1.2.2, fO (rW ps), fO (rI os), fR (progO p), fR (stateO s)],
    fun q => p.threads.length - q.1.1, ⟨(0, ps, os), Nat.zero_le _, Left.start kps, Left.start kos, fun t _ _ _ ht => by simp only at ht; omega⟩, ?_, ?_⟩
  · refine weak_mk [0, 2, 1, 3, 4, 5] ?_ ?_ ?_ ?_ ?_ rfl rfl
    · repeat (first | exact trivial | refine ⟨⟨_, rfl, (by first | exact .of rfl | exact .lit rfl | exact .of (by first | (rfl)) | exact .lit (by first | (rfl))), (by first | exact trivial | exact Nat.le_of_ble_eq_true rfl | exact small1 rfl)⟩, ?_⟩)
    · repeat (first | exact trivial | refine ⟨⟨(by first | exact .head _ | exact .tail _ (.head _) | exact .tail _ (.tail _ (.head _)) | exact .tail _ (.tail _ (.tail _ (.head _))) | exact .tail _ (.tail _ (.tail _ (.tail _ (.head _)))) | exact .tail _ (.tail _ (.tail _ (.tail _ (.tail _ (.head _))))) | exact .tail _ (.tail _ (.tail _ (.tail _ (.tail _ (.tail _ (.head _)))))) | exact .tail _ (.tail _ (.tail _ (.tail _ (.tail _ (.tail _ (.tail _ (.head _))))))) | exact .tail _ (.tail _ (.tail _ (.tail _ (.tail _ (.tail _ (.tail _ (.tail _ (.head _)))))))) | exact .tail _ (.tail _ (.tail _ (.tail _ (.tail _ (.tail _ (.tail _ (.tail _ (.tail _ (.head _)))))))))), Nat.le_of_ble_eq_true rfl⟩, ?_⟩)
    · repeat (first | exact trivial | refine ⟨⟨_, rfl, (by first | exact .of rfl | exact .lit rfl | exact .of (by first | (rfl)) | exact .lit (by first | (rfl))), (by first | exact trivial | exact Nat.le_of_ble_eq_true rfl | exact small1 rfl)⟩, ?_⟩)
    · repeat (first | exact trivial | refine ⟨⟨_, rfl⟩, ?_⟩)
    · repeat (first | exact trivial | refine ⟨.inl ⟨_, rfl, (by first | rfl | (rfl))⟩, ?_⟩ | refine ⟨.inr ⟨Nat.le_of_ble_eq_true rfl, rfl, rfl, rfl, rfl⟩, ?_⟩)
  rintro ⟨⟨k, qs, ts⟩, hk, lq, lo, hinv⟩
  simp only at hk lq lo hinv
  refine CaseB.mk (fun g => ?_) (fun g => ?_)
  rotate_left
  · have hge : k = p.threads.length := by have g' : ¬ (k : Int) < p.threads.length := by simpa using g
                                          omega
    subst hge
    have dq := lq.done hps
    have dn := lo.done hos
    have fin : (∀ e ∈ events s.pure, 0 ≤ e.1 ∧ e.1 < p.threads.length) → (∀ e ∈ owners s.pure, 0 ≤ e.1 ∧ e.1 < p.threads.length) → Fits p.pure s.pure := fun h1 h2 =>
      ⟨ok, by rw [lt]; exact c0, by rw [lt]; exact c1, by rw [l2]; exact c2, by rw [l4]; exact c4, by rw [l5]; exact c5, by rw [l6]; exact c6, by rw [l3]; exact c3, c7, c8, c9, vsems, fun x hx => by obtain ⟨i, hi⟩ := List.getElem?_of_mem hx; exact vgroups i x hi, vbarriers, vchans, fun x hx => by obtain ⟨i, hi⟩ := List.getElem?_of_mem hx; exact vonces i x hi, vsaid,
        fun t ops a st ht => hinv t ops a st (by have := (List.getElem?_eq_some_iff.1 ht).1; rw [lt] at this; exact this) ht, by rw [lt]; exact h1, by rw [lt]; exact h2⟩
    refine stop_lenM 0 (kt := 3) (et := 106) rfl rfl rfl rfl rfl rfl ⟨rfl, rfl⟩ (by kernel_rfl) ?_
    refine CaseB.mk (fun g => ?_) (fun g => ?_)
    · have q0 : qs = [] := by simpa using g
      refine stop_lenM 1 (kt := 3) (et := 22) rfl rfl rfl rfl rfl rfl ⟨rfl, rfl⟩ (by kernel_rfl) ?_
      refine retw [] ⟨_, rfl, ?_, rfl⟩ trivial rfl trivial (fun _ => rfl)
      constructor
      · intro g2
        exact fin (dq.1 q0) (dn.1 (by simpa using g2))
      · intro e
        have := dn.2 (by rw [← lt]; exact e.ow)
        simp [this]
    · have q0 : ¬ qs = [] := by simpa using g
      exact retw [] ⟨_, rfl, tno fun e => q0 (dq.2 (by rw [← lt]; exact e.ev)), rfl⟩ trivial rfl trivial (fun _ => rfl)
  have hlt : k < p.threads.length := by simpa using g
  have hw := e_succ k _ hlt (by omega)
  have hops : p.pure.threads[k]? = some (p.threads[k]).m := by simp [ProgH.pure, hlt]
  have hlp : k < s.places.length := by omega
  have hls : k < s.status.length := by omega
  have hpl : s.pure.places[k]? = some s.places[k] := List.getElem?_eq_getElem hlp
  have hst : s.pure.status[k]? = some s.status[k] := List.getElem?_eq_getElem hls
  have hth : Fits p.pure s.pure → ThreadOk (p.threads[k]).m s.places[k] s.status[k] (ofKey (events s.pure) k) (ofKey (owners s.pure) k) := fun e => e.threads k _ _ _ hops hpl hst
  obtain ⟨u, hu⟩ : ∃ u, u = (aget qs (k : Int)).getD LH.nil := ⟨_, rfl⟩
  obtain ⟨o, ho⟩ : ∃ o, o = (aget ts (k : Int)).getD LH.nil := ⟨_, rfl⟩
  have hux : u.xs = ofKey (events s.pure) k := by rw [hu]; exact lq.at hps
  have hox : o.xs = ofKey (owners s.pure) k := by rw [ho]; exact lo.at hos
  have hnext : ThreadOk (p.threads[k]).m s.places[k] s.status[k] u.xs o.xs → ∀ (t : Nat) ops at_ st, t < k + 1 → p.pure.threads[t]? = some ops → s.pure.places[t]? = some at_ → s.pure.status[t]? = some st → ThreadOk ops at_ st (ofKey (events s.pure) t) (ofKey (owners s.pure) t) := fun hok t ops a st ht h1 h2 h3 => by
    by_cases e : t < k
    · exact hinv t ops a st e h1 h2 h3
    · obtain rfl : t = k := by omega
      rw [hops] at h1; rw [hpl] at h2; rw [hst] at h3
      injection h1 with h1; injection h2 with h2; injection h3 with h3
      subst h1; subst h2; subst h3
      rw [← hux, ← hox]; exact hok
  rw [← hux, ← hox] at hth
  refine stop_idx encOpSH tabOk rfl rfl rfl rfl rfl ⟨rfl, rfl⟩ (rdVia 4 rfl (.trans (.R_R (progO_threads p)) (.ofR nest_h))) k rfl (by first | omega | (simp; done) | (simp; omega) | (unfold maxLen; omega) | (unfold maxLen; simp; done) | (unfold maxLen; simp; omega)) (fun ad => ?_)
  refine stop_idx encInt tabOk rfl rfl rfl rfl rfl ⟨rfl, rfl⟩ (rdVia 5 rfl (.ofR (stateO_places s))) k rfl (by first | omega | (simp; done) | (simp; omega) | (unfold maxLen; omega) | (unfold maxLen; simp; done) | (unfold maxLen; simp; omega)) (fun ad2 => ?_)
  refine CaseB.mk (fun g => ?_) (fun g => ?_)
  · have q : ¬ 0 ≤ s.places[k] := by have g' := of_decide_eq_true g; omega
    exact retw [] ⟨_, rfl, tno fun e => q (hth e).1, rfl⟩ trivial rfl trivial (fun _ => rfl)
  have a0 : 0 ≤ s.places[k] := by have g' := of_decide_eq_false g; omega
  refine CaseB.mk (fun g => ?_) (fun g => ?_)
  · have q : ¬ s.places[k] ≤ (p.threads[k]).m.length := by have g' := of_decide_eq_true g; omega
    exact retw [] ⟨_, rfl, tno fun e => q (hth e).2.1, rfl⟩ trivial rfl trivial (fun _ => rfl)
  have a1 : s.places[k] ≤ (p.threads[k]).m.length := by have g' := of_decide_eq_false g; omega
  refine draw_start tabOk (by kernel_rfl) (by kernel_rfl) (by kernel_rfl) 200 [] [2, 3, 5] [_, _, _] trivial trivial ⟨rfl, rfl, rfl, trivial⟩ rfl ?_
  refine BothW.mk ?_ ?_
  refine d_lookup 0 (qk := .i64) (kt := 3) (et := 106) (z := .slice none 0 0) rfl rfl rfl rfl ⟨rfl, rfl⟩ (by kernel_rfl) (by kernel_rfl) (by kernel_rfl) (u.q.val u.xs.length) (by rw [hu]; cases aget qs (k : Int) <;> rfl) ?_
  refine d_lookup 1 (qk := .i64) (kt := 3) (et := 22) (z := .slice none 0 0) rfl rfl rfl rfl ⟨rfl, rfl⟩ (by kernel_rfl) (by kernel_rfl) (by kernel_rfl) (o.q.val o.xs.length) (by rw [ho]; cases aget ts (k : Int) <;> rfl) ?_
  rotate_left
  refine d_lookup 1 (qk := .i64) (kt := 3) (et := 22) (z := .slice none 0 0) rfl rfl rfl rfl ⟨rfl, rfl⟩ (by kernel_rfl) (by kernel_rfl) (by kernel_rfl) (o.q.val o.xs.length) (by rw [ho]; cases aget ts (k : Int) <;> rfl) ?_
  refine d_lookup 0 (qk := .i64) (kt := 3) (et := 106) (z := .slice none 0 0) rfl rfl rfl rfl ⟨rfl, rfl⟩ (by kernel_rfl) (by kernel_rfl) (by kernel_rfl) (u.q.val u.xs.length) (by rw [hu]; cases aget qs (k : Int) <;> rfl) ?_
  all_goals
    refine stop_delete 0 (qk := .i64) (kt := 3) (et := 106) rfl rfl rfl rfl rfl rfl rfl rfl (by kernel_rfl) (by kernel_rfl) _ rfl ?_
    refine stop_delete 1 (qk := .i64) (kt := 3) (et := 22) rfl rfl rfl rfl rfl rfl rfl rfl (by kernel_rfl) (by kernel_rfl) _ rfl ?_
    have lq' := lq.next
    have lo' := lo.next
    refine CaseB.mk (fun g => ?_) (fun g => ?_)
    · have ae : s.places[k] = (p.threads[k]).m.length := by simpa using g
      have hne : ∀ {op : Op}, (p.threads[k]).m[(s.places[k]).toNat]? = some op → False := fun h => by
        have := (List.getElem?_eq_some_iff.1 h).1; omega
      have hfin : Fits p.pure s.pure → s.status[k] = 3 ∧ u.xs = [] ∧ o.xs = [] := fun e => by
        rcases (hth e).2.2 with h | ⟨op, h, _⟩
        · exact h.2
        · exact (hne h).elim
      refine stop_idx encInt tabOk rfl rfl rfl rfl rfl ⟨rfl, rfl⟩ (rdVia 5 rfl (.ofR (stateO_status s))) k rfl (by first | omega | (simp; done) | (simp; omega) | (unfold maxLen; omega) | (unfold maxLen; simp; done) | (unfold maxLen; simp; omega)) (fun ad3 => ?_)
      refine CaseB.mk (fun g => ?_) (fun g => ?_)
      · have q : ¬ s.status[k] = 3 := by simpa using g
        exact retw [] ⟨_, rfl, tno fun e => q (hfin e).1, rfl⟩ trivial rfl trivial (fun _ => rfl)
      have s3 : s.status[k] = 3 := by simpa using g
      refine CaseB.mk (fun g => ?_) (fun g => ?_)
      · have q : ¬ u.xs = [] := len_pos.1 g
        exact retw [] ⟨_, rfl, tno fun e => q (hfin e).2.1, rfl⟩ trivial rfl trivial (fun _ => rfl)
      have ux : u.xs = [] := Classical.byContradiction fun n => by rw [len_pos.2 n] at g; cases g
      refine CaseB.mk (fun g => ?_) (fun g => ?_)
      · have q : ¬ o.xs = [] := len_pos.1 g
        exact retw [] ⟨_, rfl, tno fun e => q (hfin e).2.2, rfl⟩ trivial rfl trivial (fun _ => rfl)
      have ox : o.xs = [] := Classical.byContradiction fun n => by rw [len_pos.2 n] at g; cases g
      refine ⟨⟨(k + 1, adel qs (k : Int), adel ts (k : Int)), by omega, lq', lo', hnext ⟨a0, a1, .inl ⟨ae, s3, ux, ox⟩⟩⟩, ?_, by simp only; omega⟩
      refine weak_mk [1, 0, 2, 3, 4, 5] ?_ ?_ ?_ ?_ ?_ rfl rfl
      · repeat (first | exact trivial | refine ⟨⟨_, rfl, (by first | exact .of rfl | exact .lit rfl | exact .of (by first | ((exact congrArg (fun z => SV.v (Value.int .i64 z)) hw))) | exact .lit (by first | ((exact congrArg (fun z => SV.v (Value.int .i64 z)) hw)))), (by first | exact trivial | exact Nat.le_of_ble_eq_true rfl | exact small1 rfl)⟩, ?_⟩)
      · repeat (first | exact trivial | refine ⟨⟨(by first | exact .head _ | exact .tail _ (.head _) | exact .tail _ (.tail _ (.head _)) | exact .tail _ (.tail _ (.tail _ (.head _))) | exact .tail _ (.tail _ (.tail _ (.tail _ (.head _)))) | exact .tail _ (.tail _ (.tail _ (.tail _ (.tail _ (.head _))))) | exact .tail _ (.tail _ (.tail _ (.tail _ (.tail _ (.tail _ (.head _)))))) | exact .tail _ (.tail _ (.tail _ (.tail _ (.tail _ (.tail _ (.tail _ (.head _))))))) | exact .tail _ (.tail _ (.tail _ (.tail _ (.tail _ (.tail _ (.tail _ (.tail _ (.head _)))))))) | exact .tail _ (.tail _ (.tail _ (.tail _ (.tail _ (.tail _ (.tail _ (.tail _ (.tail _ (.head _)))))))))), Nat.le_of_ble_eq_true rfl⟩, ?_⟩)
      · repeat (first | exact trivial | refine ⟨⟨_, rfl, (by first | exact .of rfl | exact .lit rfl | exact .of (by first | ((exact congrArg (fun z => SV.v (Value.int .i64 z)) hw))) | exact .lit (by first | ((exact congrArg (fun z => SV.v (Value.int .i64 z)) hw)))), (by first | exact trivial | exact Nat.le_of_ble_eq_true rfl | exact small1 rfl)⟩, ?_⟩)
      · repeat (first | exact trivial | refine ⟨⟨_, rfl⟩, ?_⟩)
      · repeat (first | exact trivial | refine ⟨.inl ⟨_, rfl, (by first | rfl | ((exact congrArg (fun z => SV.v (Value.int .i64 z)) hw)))⟩, ?_⟩ | refine ⟨.inr ⟨Nat.le_of_ble_eq_true rfl, rfl, rfl, rfl, rfl⟩, ?_⟩)
    have ane : ¬ s.places[k] = (p.threads[k]).m.length := by simpa using g
    have hlo : (s.places[k]).toNat < (p.threads[k]).m.length := by omega
    obtain ⟨op, hop⟩ : ∃ op, (p.threads[k]).m[(s.places[k]).toNat]? = some op := ⟨_, List.getElem?_eq_getElem hlo⟩
    have hopg : (p.threads[k]).m[(s.places[k]).toNat] = op := by rw [List.getElem?_eq_getElem hlo] at hop; injection hop
    have hfin : Fits p.pure s.pure → (s.status[k] = 0 ∧ u.xs = [] ∧ o.xs = []) ∨ (s.status[k] = 1 ∧ o.xs = [] ∧ u.xs = [want op]) ∨ (s.status[k] = 2 ∧ u.xs = [] ∧ op.kind = 4 ∧ o.xs = [op.on]) := fun e => by
      rcases (hth e).2.2 with h | ⟨op', h, h2⟩
      · exact (ane h.1).elim
      · rw [hop] at h; injection h with h; subst h; exact h2
    have hgood : (s.status[k] = 0 ∧ u.xs = [] ∧ o.xs = []) ∨ (s.status[k] = 1 ∧ o.xs = [] ∧ u.xs = [want op]) ∨ (s.status[k] = 2 ∧ u.xs = [] ∧ op.kind = 4 ∧ o.xs = [op.on]) → ThreadOk (p.threads[k]).m s.places[k] s.status[k] u.xs o.xs := fun h => ⟨a0, a1, .inr ⟨op, hop, h⟩⟩
    refine stop_idx encOp tabOk rfl rfl rfl rfl rfl ⟨rfl, rfl⟩ (rdVia 4 rfl (.trans (.R_R (progO_threads p)) (.ofR (threadsO_0 _ _ k hlt)))) (s.places[k]).toNat (by omega) (by first | omega | (simp; done) | (simp; omega) | (unfold maxLen; omega) | (unfold maxLen; simp; done) | (unfold maxLen; simp; omega)) (fun ad3 => ?_)
    rw [hopg]
    refine stop_idx encInt tabOk rfl rfl rfl rfl rfl ⟨rfl, rfl⟩ (rdVia 5 rfl (.ofR (stateO_status s))) k rfl (by first | omega | (simp; done) | (simp; omega) | (unfold maxLen; omega) | (unfold maxLen; simp; done) | (unfold maxLen; simp; omega)) (fun ad4 => ?_)
    refine CaseB.mk (fun g => ?_) (fun g0 => ?_)
    · have s0 : s.status[k] = 0 := by simpa using g
      have hf0 : Fits p.pure s.pure → u.xs = [] ∧ o.xs = [] := fun e => by
        rcases hfin e with h | h | h
        · exact h.2
        · rw [s0] at h; exact absurd h.1 (by decide)
        · rw [s0] at h; exact absurd h.1 (by decide)
      refine CaseB.mk (fun g => ?_) (fun g => ?_)
      · have q : ¬ u.xs = [] := len_pos.1 g
        exact retw [] ⟨_, rfl, tno fun e => q (hf0 e).1, rfl⟩ trivial rfl trivial (fun _ => rfl)
      have ux : u.xs = [] := Classical.byContradiction fun n => by rw [len_pos.2 n] at g; cases g
      refine CaseB.mk (fun g => ?_) (fun g => ?_)
      · have q : ¬ o.xs = [] := len_pos.1 g
        exact retw [] ⟨_, rfl, tno fun e => q (hf0 e).2, rfl⟩ trivial rfl trivial (fun _ => rfl)
      have ox : o.xs = [] := Classical.byContradiction fun n => by rw [len_pos.2 n] at g; cases g
      refine ⟨⟨(k + 1, adel qs (k : Int), adel ts (k : Int)), by omega, lq', lo', hnext (hgood (.inl ⟨s0, ux, ox⟩))⟩, ?_, by simp only; omega⟩
      refine weak_mk [1, 0, 2, 3, 4, 5] ?_ ?_ ?_ ?_ ?_ rfl rfl
      · repeat (first | exact trivial | refine ⟨⟨_, rfl, (by first | exact .of rfl | exact .lit rfl | exact .of (by first | ((exact congrArg (fun z => SV.v (Value.int .i64 z)) hw))) | exact .lit (by first | ((exact congrArg (fun z => SV.v (Value.int .i64 z)) hw)))), (by first | exact trivial | exact Nat.le_of_ble_eq_true rfl | exact small1 rfl)⟩, ?_⟩)
      · repeat (first | exact trivial | refine ⟨⟨(by first | exact .head _ | exact .tail _ (.head _) | exact .tail _ (.tail _ (.head _)) | exact .tail _ (.tail _ (.tail _ (.head _))) | exact .tail _ (.tail _ (.tail _ (.tail _ (.head _)))) | exact .tail _ (.tail _ (.tail _ (.tail _ (.tail _ (.head _))))) | exact .tail _ (.tail _ (.tail _ (.tail _ (.tail _ (.tail _ (.head _)))))) | exact .tail _ (.tail _ (.tail _ (.tail _ (.tail _ (.tail _ (.tail _ (.head _))))))) | exact .tail _ (.tail _ (.tail _ (.tail _ (.tail _ (.tail _ (.tail _ (.tail _ (.head _)))))))) | exact .tail _ (.tail _ (.tail _ (.tail _ (.tail _ (.tail _ (.tail _ (.tail _ (.tail _ (.head _)))))))))), Nat.le_of_ble_eq_true rfl⟩, ?_⟩)
      · repeat (first | exact trivial | refine ⟨⟨_, rfl, (by first | exact .of rfl | exact .lit rfl | exact .of (by first | ((exact congrArg (fun z => SV.v (Value.int .i64 z)) hw))) | exact .lit (by first | ((exact congrArg (fun z => SV.v (Value.int .i64 z)) hw)))), (by first | exact trivial | exact Nat.le_of_ble_eq_true rfl | exact small1 rfl)⟩, ?_⟩)
      · repeat (first | exact trivial | refine ⟨⟨_, rfl⟩, ?_⟩)
      · repeat (first | exact trivial | refine ⟨.inl ⟨_, rfl, (by first | rfl | ((exact congrArg (fun z => SV.v (Value.int .i64 z)) hw)))⟩, ?_⟩ | refine ⟨.inr ⟨Nat.le_of_ble_eq_true rfl, rfl, rfl, rfl, rfl⟩, ?_⟩)
    have n0 : ¬ s.status[k] = 0 := by simpa using g0
    refine CaseB.mk (fun g => ?_) (fun g1 => ?_)
    · have s1 : s.status[k] = 1 := by simpa using g
      have hf1 : Fits p.pure s.pure → o.xs = [] ∧ u.xs = [want op] := fun e => by
        rcases hfin e with h | h | h
        · rw [s1] at h; exact absurd h.1 (by decide)
        · exact h.2
        · rw [s1] at h; exact absurd h.1 (by decide)
      refine CaseB.mk (fun g => ?_) (fun g => ?_)
      · have hk2 : op.kind = 2 ∨ op.kind = 8 := .inl (by simpa using g)
        have hwant : want op = ⟨op.kind, op.on, op.arg⟩ := by simp only [want, if_pos hk2]
        refine draw_start tabOk (by kernel_rfl) (by kernel_rfl) (by kernel_rfl) 200 [((3, 0), .v (.int .i64 op.kind)), ((3, 1), .v (.int .i64 op.on)), ((3, 2), .v (.int .i64 op.arg))] [2] [_] ⟨⟨_, rfl, rfl, (by first | exact trivial | exact Nat.le_of_ble_eq_true rfl)⟩, ⟨_, rfl, rfl, (by first | exact trivial | exact Nat.le_of_ble_eq_true rfl)⟩, ⟨_, rfl, rfl, (by first | exact trivial | exact Nat.le_of_ble_eq_true rfl)⟩, trivial⟩ ⟨⟨_, rfl⟩, ⟨_, rfl⟩, ⟨_, rfl⟩, trivial⟩ ⟨rfl, trivial⟩ rfl ?_
        refine CaseB.mk (fun g => ?_) (fun g => ?_)
        · have q : ¬ o.xs = [] := len_pos.1 g
          exact retw [] ⟨_, rfl, tno fun e => q (hf1 e).1, rfl⟩ trivial rfl trivial (fun _ => rfl)
        have ox : o.xs = [] := Classical.byContradiction fun n => by rw [len_pos.2 n] at g; cases g
        refine CaseB.mk (fun g => ?_) (fun g => ?_)
        · have q : ¬ u.xs.length = 1 := by simp at g; omega
          exact retw [] ⟨_, rfl, tno fun e => q (by rw [(hf1 e).2]; rfl), rfl⟩ trivial rfl trivial (fun _ => rfl)
        have ul : u.xs.length = 1 := by simp at g; omega
        obtain ⟨u0, huu⟩ : ∃ u0, u.xs = [u0] := by
          match hx : u.xs, ul with
          | [x], _ => exact ⟨x, rfl⟩
        have hin : ((k : Int), u) ∈ ps := by
          refine lq.sub.subset (aget_in ?_)
          cases hq : aget qs (k : Int) with
          | none => rw [hq] at hu; rw [hu] at ul; simp [LH.nil] at ul
          | some z => rw [hq] at hu; rw [hu]; rfl
        refine d_idx (ti := tiOf tab) encWait tabOk rfl rfl rfl rfl rfl ⟨rfl, rfl⟩ (rdVia 0 rfl (.ofO (rows_in hin))) 0 rfl (by first | omega | (simp; done) | (simp; omega) | (unfold maxLen; omega) | (unfold maxLen; simp; done) | (unfold maxLen; simp; omega)) (fun ad5 => ?_)
        have hg0 : ∀ h0, u.xs[0]'h0 = u0 := fun h0 => by simp [huu]
        rw [hg0]
        refine d_bin rfl rfl rfl ⟨rfl, rfl⟩ (.bool (decide (u0 ≠ (⟨op.kind, op.on, op.arg⟩ : Waiting)))) (fun w => (run_eqGuard_agg w _ _ _ _ _ _ (by kernel_rfl))) (fun w => (neWait u0 ⟨op.kind, op.on, op.arg⟩ w)) ?_
        refine CaseB.mk (fun g => ?_) (fun g => ?_)
        · have q : ¬ u0 = (⟨op.kind, op.on, op.arg⟩ : Waiting) := by simpa using g
          exact retw [] ⟨_, rfl, tno fun e => q (by have := (hf1 e).2; rw [huu, hwant] at this; injection this), rfl⟩ trivial rfl trivial (fun _ => rfl)
        have ue : u0 = (⟨op.kind, op.on, op.arg⟩ : Waiting) := by simpa using g
        refine ⟨⟨(k + 1, adel qs (k : Int), adel ts (k : Int)), by omega, lq', lo', hnext (hgood (.inr (.inl ⟨s1, ox, by rw [huu, ue, hwant]⟩)))⟩, ?_, by simp only; omega⟩
        refine weak_mk [1, 0, 2, 3, 4, 5] ?_ ?_ ?_ ?_ ?_ rfl rfl
        · repeat (first | exact trivial | refine ⟨⟨_, rfl, (by first | exact .of rfl | exact .lit rfl | exact .of (by first | ((exact congrArg (fun z => SV.v (Value.int .i64 z)) hw))) | exact .lit (by first | ((exact congrArg (fun z => SV.v (Value.int .i64 z)) hw)))), (by first | exact trivial | exact Nat.le_of_ble_eq_true rfl | exact small1 rfl)⟩, ?_⟩)
        · repeat (first | exact trivial | refine ⟨⟨(by first | exact .head _ | exact .tail _ (.head _) | exact .tail _ (.tail _ (.head _)) | exact .tail _ (.tail _ (.tail _ (.head _))) | exact .tail _ (.tail _ (.tail _ (.tail _ (.head _)))) | exact .tail _ (.tail _ (.tail _ (.tail _ (.tail _ (.head _))))) | exact .tail _ (.tail _ (.tail _ (.tail _ (.tail _ (.tail _ (.head _)))))) | exact .tail _ (.tail _ (.tail _ (.tail _ (.tail _ (.tail _ (.tail _ (.head _))))))) | exact .tail _ (.tail _ (.tail _ (.tail _ (.tail _ (.tail _ (.tail _ (.tail _ (.head _)))))))) | exact .tail _ (.tail _ (.tail _ (.tail _ (.tail _ (.tail _ (.tail _ (.tail _ (.tail _ (.head _)))))))))), Nat.le_of_ble_eq_true rfl⟩, ?_⟩)
        · repeat (first | exact trivial | refine ⟨⟨_, rfl, (by first | exact .of rfl | exact .lit rfl | exact .of (by first | ((exact congrArg (fun z => SV.v (Value.int .i64 z)) hw))) | exact .lit (by first | ((exact congrArg (fun z => SV.v (Value.int .i64 z)) hw)))), (by first | exact trivial | exact Nat.le_of_ble_eq_true rfl | exact small1 rfl)⟩, ?_⟩)
        · repeat (first | exact trivial | refine ⟨⟨_, rfl⟩, ?_⟩)
        · repeat (first | exact trivial | refine ⟨.inl ⟨_, rfl, (by first | rfl | ((exact congrArg (fun z => SV.v (Value.int .i64 z)) hw)))⟩, ?_⟩ | refine ⟨.inr ⟨Nat.le_of_ble_eq_true rfl, rfl, rfl, rfl, rfl⟩, ?_⟩)
      · have hn2 : ¬ op.kind = 2 := by simpa using g
        refine CaseB.mk (fun g => ?_) (fun g => ?_)
        · have hk2 : op.kind = 2 ∨ op.kind = 8 := .inr (by simpa using g)
          have hwant : want op = ⟨op.kind, op.on, op.arg⟩ := by simp only [want, if_pos hk2]
          refine draw_start tabOk (by kernel_rfl) (by kernel_rfl) (by kernel_rfl) 200 [((3, 0), .v (.int .i64 op.kind)), ((3, 1), .v (.int .i64 op.on)), ((3, 2), .v (.int .i64 op.arg))] [2] [_] ⟨⟨_, rfl, rfl, (by first | exact trivial | exact Nat.le_of_ble_eq_true rfl)⟩, ⟨_, rfl, rfl, (by first | exact trivial | exact Nat.le_of_ble_eq_true rfl)⟩, ⟨_, rfl, rfl, (by first | exact trivial | exact Nat.le_of_ble_eq_true rfl)⟩, trivial⟩ ⟨⟨_, rfl⟩, ⟨_, rfl⟩, ⟨_, rfl⟩, trivial⟩ ⟨rfl, trivial⟩ rfl ?_
          refine CaseB.mk (fun g => ?_) (fun g => ?_)
          · have q : ¬ o.xs = [] := len_pos.1 g
            exact retw [] ⟨_, rfl, tno fun e => q (hf1 e).1, rfl⟩ trivial rfl trivial (fun _ => rfl)
          have ox : o.xs = [] := Classical.byContradiction fun n => by rw [len_pos.2 n] at g; cases g
          refine CaseB.mk (fun g => ?_) (fun g => ?_)
          · have q : ¬ u.xs.length = 1 := by simp at g; omega
            exact retw [] ⟨_, rfl, tno fun e => q (by rw [(hf1 e).2]; rfl), rfl⟩ trivial rfl trivial (fun _ => rfl)
          have ul : u.xs.length = 1 := by simp at g; omega
          obtain ⟨u0, huu⟩ : ∃ u0, u.xs = [u0] := by
            match hx : u.xs, ul with
            | [x], _ => exact ⟨x, rfl⟩
          have hin : ((k : Int), u) ∈ ps := by
            refine lq.sub.subset (aget_in ?_)
            cases hq : aget qs (k : Int) with
            | none => rw [hq] at hu; rw [hu] at ul; simp [LH.nil] at ul
            | some z => rw [hq] at hu; rw [hu]; rfl
          refine d_idx (ti := tiOf tab) encWait tabOk rfl rfl rfl rfl rfl ⟨rfl, rfl⟩ (rdVia 0 rfl (.ofO (rows_in hin))) 0 rfl (by first | omega | (simp; done) | (simp; omega) | (unfold maxLen; omega) | (unfold maxLen; simp; done) | (unfold maxLen; simp; omega)) (fun ad5 => ?_)
          have hg0 : ∀ h0, u.xs[0]'h0 = u0 := fun h0 => by simp [huu]
          rw [hg0]
          refine d_bin rfl rfl rfl ⟨rfl, rfl⟩ (.bool (decide (u0 ≠ (⟨op.kind, op.on, op.arg⟩ : Waiting)))) (fun w => (run_eqGuard_agg w _ _ _ _ _ _ (by kernel_rfl))) (fun w => (neWait u0 ⟨op.kind, op.on, op.arg⟩ w)) ?_
          refine CaseB.mk (fun g => ?_) (fun g => ?_)
          · have q : ¬ u0 = (⟨op.kind, op.on, op.arg⟩ : Waiting) := by simpa using g
            exact retw [] ⟨_, rfl, tno fun e => q (by have := (hf1 e).2; rw [huu, hwant] at this; injection this), rfl⟩ trivial rfl trivial (fun _ => rfl)
          have ue : u0 = (⟨op.kind, op.on, op.arg⟩ : Waiting) := by simpa using g
          refine ⟨⟨(k + 1, adel qs (k : Int), adel ts (k : Int)), by omega, lq', lo', hnext (hgood (.inr (.inl ⟨s1, ox, by rw [huu, ue, hwant]⟩)))⟩, ?_, by simp only; omega⟩
          refine weak_mk [1, 0, 2, 3, 4, 5] ?_ ?_ ?_ ?_ ?_ rfl rfl
          · repeat (first | exact trivial | refine ⟨⟨_, rfl, (by first | exact .of rfl | exact .lit rfl | exact .of (by first | ((exact congrArg (fun z => SV.v (Value.int .i64 z)) hw))) | exact .lit (by first | ((exact congrArg (fun z => SV.v (Value.int .i64 z)) hw)))), (by first | exact trivial | exact Nat.le_of_ble_eq_true rfl | exact small1 rfl)⟩, ?_⟩)
          · repeat (first | exact trivial | refine ⟨⟨(by first | exact .head _ | exact .tail _ (.head _) | exact .tail _ (.tail _ (.head _)) | exact .tail _ (.tail _ (.tail _ (.head _))) | exact .tail _ (.tail _ (.tail _ (.tail _ (.head _)))) | exact .tail _ (.tail _ (.tail _ (.tail _ (.tail _ (.head _))))) | exact .tail _ (.tail _ (.tail _ (.tail _ (.tail _ (.tail _ (.head _)))))) | exact .tail _ (.tail _ (.tail _ (.tail _ (.tail _ (.tail _ (.tail _ (.head _))))))) | exact .tail _ (.tail _ (.tail _ (.tail _ (.tail _ (.tail _ (.tail _ (.tail _ (.head _)))))))) | exact .tail _ (.tail _ (.tail _ (.tail _ (.tail _ (.tail _ (.tail _ (.tail _ (.tail _ (.head _)))))))))), Nat.le_of_ble_eq_true rfl⟩, ?_⟩)
          · repeat (first | exact trivial | refine ⟨⟨_, rfl, (by first | exact .of rfl | exact .lit rfl | exact .of (by first | ((exact congrArg (fun z => SV.v (Value.int .i64 z)) hw))) | exact .lit (by first | ((exact congrArg (fun z => SV.v (Value.int .i64 z)) hw)))), (by first | exact trivial | exact Nat.le_of_ble_eq_true rfl | exact small1 rfl)⟩, ?_⟩)
          · repeat (first | exact trivial | refine ⟨⟨_, rfl⟩, ?_⟩)
          · repeat (first | exact trivial | refine ⟨.inl ⟨_, rfl, (by first | rfl | ((exact congrArg (fun z => SV.v (Value.int .i64 z)) hw)))⟩, ?_⟩ | refine ⟨.inr ⟨Nat.le_of_ble_eq_true rfl, rfl, rfl, rfl, rfl⟩, ?_⟩)
        · have hn8 : ¬ op.kind = 8 := by simpa using g
          have hwant : want op = ⟨op.kind, op.on, 0⟩ := by simp only [want, if_neg (show ¬ (op.kind = 2 ∨ op.kind = 8) from fun h => h.elim hn2 hn8)]
          refine draw_start tabOk (by kernel_rfl) (by kernel_rfl) (by kernel_rfl) 200 [((3, 0), .v (.int .i64 op.kind)), ((3, 1), .v (.int .i64 op.on)), ((3, 2), .v (.int .i64 0))] [2] [_] ⟨⟨_, rfl, rfl, (by first | exact trivial | exact Nat.le_of_ble_eq_true rfl)⟩, ⟨_, rfl, rfl, (by first | exact trivial | exact Nat.le_of_ble_eq_true rfl)⟩, ⟨_, rfl, rfl, (by first | exact trivial | exact Nat.le_of_ble_eq_true rfl)⟩, trivial⟩ ⟨⟨_, rfl⟩, ⟨_, rfl⟩, ⟨_, rfl⟩, trivial⟩ ⟨rfl, trivial⟩ rfl ?_
          refine CaseB.mk (fun g => ?_) (fun g => ?_)
          · have q : ¬ o.xs = [] := len_pos.1 g
            exact retw [] ⟨_, rfl, tno fun e => q (hf1 e).1, rfl⟩ trivial rfl trivial (fun _ => rfl)
          have ox : o.xs = [] := Classical.byContradiction fun n => by rw [len_pos.2 n] at g; cases g
          refine CaseB.mk (fun g => ?_) (fun g => ?_)
          · have q : ¬ u.xs.length = 1 := by simp at g; omega
            exact retw [] ⟨_, rfl, tno fun e => q (by rw [(hf1 e).2]; rfl), rfl⟩ trivial rfl trivial (fun _ => rfl)
          have ul : u.xs.length = 1 := by simp at g; omega
          obtain ⟨u0, huu⟩ : ∃ u0, u.xs = [u0] := by
            match hx : u.xs, ul with
            | [x], _ => exact ⟨x, rfl⟩
          have hin : ((k : Int), u) ∈ ps := by
            refine lq.sub.subset (aget_in ?_)
            cases hq : aget qs (k : Int) with
            | none => rw [hq] at hu; rw [hu] at ul; simp [LH.nil] at ul
            | some z => rw [hq] at hu; rw [hu]; rfl
          refine d_idx (ti := tiOf tab) encWait tabOk rfl rfl rfl rfl rfl ⟨rfl, rfl⟩ (rdVia 0 rfl (.ofO (rows_in hin))) 0 rfl (by first | omega | (simp; done) | (simp; omega) | (unfold maxLen; omega) | (unfold maxLen; simp; done) | (unfold maxLen; simp; omega)) (fun ad5 => ?_)
          have hg0 : ∀ h0, u.xs[0]'h0 = u0 := fun h0 => by simp [huu]
          rw [hg0]
          refine d_bin rfl rfl rfl ⟨rfl, rfl⟩ (.bool (decide (u0 ≠ (⟨op.kind, op.on, 0⟩ : Waiting)))) (fun w => (run_eqGuard_agg w _ _ _ _ _ _ (by kernel_rfl))) (fun w => (neWait u0 ⟨op.kind, op.on, 0⟩ w)) ?_
          refine CaseB.mk (fun g => ?_) (fun g => ?_)
          · have q : ¬ u0 = (⟨op.kind, op.on, 0⟩ : Waiting) := by simpa using g
            exact retw [] ⟨_, rfl, tno fun e => q (by have := (hf1 e).2; rw [huu, hwant] at this; injection this), rfl⟩ trivial rfl trivial (fun _ => rfl)
          have ue : u0 = (⟨op.kind, op.on, 0⟩ : Waiting) := by simpa using g
          refine ⟨⟨(k + 1, adel qs (k : Int), adel ts (k : Int)), by omega, lq', lo', hnext (hgood (.inr (.inl ⟨s1, ox, by rw [huu, ue, hwant]⟩)))⟩, ?_, by simp only; omega⟩
          refine weak_mk [1, 0, 2, 3, 4, 5] ?_ ?_ ?_ ?_ ?_ rfl rfl
          · repeat (first | exact trivial | refine ⟨⟨_, rfl, (by first | exact .of rfl | exact .lit rfl | exact .of (by first | ((exact congrArg (fun z => SV.v (Value.int .i64 z)) hw))) | exact .lit (by first | ((exact congrArg (fun z => SV.v (Value.int .i64 z)) hw)))), (by first | exact trivial | exact Nat.le_of_ble_eq_true rfl | exact small1 rfl)⟩, ?_⟩)
          · repeat (first | exact trivial | refine ⟨⟨(by first | exact .head _ | exact .tail _ (.head _) | exact .tail _ (.tail _ (.head _)) | exact .tail _ (.tail _ (.tail _ (.head _))) | exact .tail _ (.tail _ (.tail _ (.tail _ (.head _)))) | exact .tail _ (.tail _ (.tail _ (.tail _ (.tail _ (.head _))))) | exact .tail _ (.tail _ (.tail _ (.tail _ (.tail _ (.tail _ (.head _)))))) | exact .tail _ (.tail _ (.tail _ (.tail _ (.tail _ (.tail _ (.tail _ (.head _))))))) | exact .tail _ (.tail _ (.tail _ (.tail _ (.tail _ (.tail _ (.tail _ (.tail _ (.head _)))))))) | exact .tail _ (.tail _ (.tail _ (.tail _ (.tail _ (.tail _ (.tail _ (.tail _ (.tail _ (.head _)))))))))), Nat.le_of_ble_eq_true rfl⟩, ?_⟩)
          · repeat (first | exact trivial | refine ⟨⟨_, rfl, (by first | exact .of rfl | exact .lit rfl | exact .of (by first | ((exact congrArg (fun z => SV.v (Value.int .i64 z)) hw))) | exact .lit (by first | ((exact congrArg (fun z => SV.v (Value.int .i64 z)) hw)))), (by first | exact trivial | exact Nat.le_of_ble_eq_true rfl | exact small1 rfl)⟩, ?_⟩)
          · repeat (first | exact trivial | refine ⟨⟨_, rfl⟩, ?_⟩)
          · repeat (first | exact trivial | refine ⟨.inl ⟨_, rfl, (by first | rfl | ((exact congrArg (fun z => SV.v (Value.int .i64 z)) hw)))⟩, ?_⟩ | refine ⟨.inr ⟨Nat.le_of_ble_eq_true rfl, rfl, rfl, rfl, rfl⟩, ?_⟩)
    have n1 : ¬ s.status[k] = 1 := by simpa using g1
    refine CaseB.mk (fun g => ?_) (fun g2 => ?_)
    · have s2 : s.status[k] = 2 := by simpa using g
      have hf2 : Fits p.pure s.pure → u.xs = [] ∧ op.kind = 4 ∧ o.xs = [op.on] := fun e => by
        rcases hfin e with h | h | h
        · rw [s2] at h; exact absurd h.1 (by decide)
        · rw [s2] at h; exact absurd h.1 (by decide)
        · exact h.2
      refine draw_start tabOk (by kernel_rfl) (by kernel_rfl) (by kernel_rfl) 200 [((2, 0), .v (.int .i64 op.kind)), ((2, 1), .v (.int .i64 op.on))] [3] [_] ⟨⟨_, rfl, rfl, (by first | exact trivial | exact Nat.le_of_ble_eq_true rfl)⟩, ⟨_, rfl, rfl, (by first | exact trivial | exact Nat.le_of_ble_eq_true rfl)⟩, trivial⟩ ⟨⟨_, rfl⟩, ⟨_, rfl⟩, trivial⟩ ⟨rfl, trivial⟩ rfl ?_
      refine CaseB.mk (fun g => ?_) (fun g => ?_)
      · have q : ¬ u.xs = [] := len_pos.1 g
        exact retw [] ⟨_, rfl, tno fun e => q (hf2 e).1, rfl⟩ trivial rfl trivial (fun _ => rfl)
      have ux : u.xs = [] := Classical.byContradiction fun n => by rw [len_pos.2 n] at g; cases g
      refine CaseB.mk (fun g => ?_) (fun g => ?_)
      · have q : ¬ op.kind = 4 := by simpa using g
        exact retw [] ⟨_, rfl, tno fun e => q (hf2 e).2.1, rfl⟩ trivial rfl trivial (fun _ => rfl)
      have k4 : op.kind = 4 := by simpa using g
      refine CaseB.mk (fun g => ?_) (fun g => ?_)
      · have q : ¬ o.xs.length = 1 := by simp at g; omega
        exact retw [] ⟨_, rfl, tno fun e => q (by rw [(hf2 e).2.2]; rfl), rfl⟩ trivial rfl trivial (fun _ => rfl)
      have ol : o.xs.length = 1 := by simp at g; omega
      obtain ⟨o0, hoo⟩ : ∃ o0, o.xs = [o0] := by
        match hx : o.xs, ol with
        | [x], _ => exact ⟨x, rfl⟩
      have hin : ((k : Int), o) ∈ os := by
        refine lo.sub.subset (aget_in ?_)
        cases hq : aget ts (k : Int) with
        | none => rw [hq] at ho; rw [ho] at ol; simp [LH.nil] at ol
        | some z => rw [hq] at ho; rw [ho]; rfl
      refine d_idx (ti := tiOf tab) encInt tabOk rfl rfl rfl rfl rfl ⟨rfl, rfl⟩ (rdVia 0 rfl (.ofO (rows_in hin))) 0 rfl (by first | omega | (simp; done) | (simp; omega) | (unfold maxLen; omega) | (unfold maxLen; simp; done) | (unfold maxLen; simp; omega)) (fun ad5 => ?_)
      have hg0 : ∀ h0, o.xs[0]'h0 = o0 := fun h0 => by simp [hoo]
      rw [hg0]
      refine CaseB.mk (fun g => ?_) (fun g => ?_)
      · have q : ¬ o0 = op.on := by simpa using g
        exact retw [] ⟨_, rfl, tno fun e => q (by have := (hf2 e).2.2; rw [hoo] at this; injection this), rfl⟩ trivial rfl trivial (fun _ => rfl)
      have oe : o0 = op.on := by simpa using g
      refine ⟨⟨(k + 1, adel qs (k : Int), adel ts (k : Int)), by omega, lq', lo', hnext (hgood (.inr (.inr ⟨s2, ux, k4, by rw [hoo, oe]⟩)))⟩, ?_, by simp only; omega⟩
      refine weak_mk [1, 0, 2, 3, 4, 5] ?_ ?_ ?_ ?_ ?_ rfl rfl
      · repeat (first | exact trivial | refine ⟨⟨_, rfl, (by first | exact .of rfl | exact .lit rfl | exact .of (by first | ((exact congrArg (fun z => SV.v (Value.int .i64 z)) hw))) | exact .lit (by first | ((exact congrArg (fun z => SV.v (Value.int .i64 z)) hw)))), (by first | exact trivial | exact Nat.le_of_ble_eq_true rfl | exact small1 rfl)⟩, ?_⟩)
      · repeat (first | exact trivial | refine ⟨⟨(by first | exact .head _ | exact .tail _ (.head _) | exact .tail _ (.tail _ (.head _)) | exact .tail _ (.tail _ (.tail _ (.head _))) | exact .tail _ (.tail _ (.tail _ (.tail _ (.head _)))) | exact .tail _ (.tail _ (.tail _ (.tail _ (.tail _ (.head _))))) | exact .tail _ (.tail _ (.tail _ (.tail _ (.tail _ (.tail _ (.head _)))))) | exact .tail _ (.tail _ (.tail _ (.tail _ (.tail _ (.tail _ (.tail _ (.head _))))))) | exact .tail _ (.tail _ (.tail _ (.tail _ (.tail _ (.tail _ (.tail _ (.tail _ (.head _)))))))) | exact .tail _ (.tail _ (.tail _ (.tail _ (.tail _ (.tail _ (.tail _ (.tail _ (.tail _ (.head _)))))))))), Nat.le_of_ble_eq_true rfl⟩, ?_⟩)
      · repeat (first | exact trivial | refine ⟨⟨_, rfl, (by first | exact .of rfl | exact .lit rfl | exact .of (by first | ((exact congrArg (fun z => SV.v (Value.int .i64 z)) hw))) | exact .lit (by first | ((exact congrArg (fun z => SV.v (Value.int .i64 z)) hw)))), (by first | exact trivial | exact Nat.le_of_ble_eq_true rfl | exact small1 rfl)⟩, ?_⟩)
      · repeat (first | exact trivial | refine ⟨⟨_, rfl⟩, ?_⟩)
      · repeat (first | exact trivial | refine ⟨.inl ⟨_, rfl, (by first | rfl | ((exact congrArg (fun z => SV.v (Value.int .i64 z)) hw)))⟩, ?_⟩ | refine ⟨.inr ⟨Nat.le_of_ble_eq_true rfl, rfl, rfl, rfl, rfl⟩, ?_⟩)
    have n2 : ¬ s.status[k] = 2 := by simpa using g2
    exact retw [] ⟨_, rfl, tno fun e => (by rcases hfin e with h | h | h; exact n0 h.1; exact n1 h.1; exact n2 h.1), rfl⟩ trivial rfl trivial (fun _ => rfl)

end Go.Proofs.YtchkcjeeknfchaaGreatDoor

namespace Go.Proofs.YtchkcjeeknfchaaGreatDoor

open Go Go.Sx Go.RowKit

structure AllN (p : Nat → Prop) : Prop where
  mk :: (out : ∀ g, p g)

def effH (E : Env) (ti : Nat → TI) (o : Oper) (Ms : List ((Nat × Nat) × SV)) (Fs : List Fct) (next : St → Prop) (T : List (Nat × SV)) (n c : Nat) (B : List (Nat × TypeId × Nat)) (M : List ((Nat × Nat) × SV)) (F : List Fct) : Go.Op → Prop
  | .buildSlice t len ps => (match ti t with
    | .mk _ _ _ _ (some e) _ _ _ => (match ti e with
      | .mk _ esz _ _ _ _ _ _ => (match o.dst with
        | some d => (match Nat.blt d E.N with
          | true => (match Nat.beq (listLen ps.toList) len with
            | true => (match Nat.ble (len * esz + len) 16777216 with
              | true => (match bParts T esz 0 ps.toList with
                | some cs => AllN fun g => next (.mk ((d, .v ((⟨some ⟨g, 0, none⟩, len⟩ : Sl).val len)) :: T) n (c + 1) B M (fOwn false ⟨some ⟨g, 0, none⟩, len⟩ e esz cs len :: F))
                | none => False)
              | false => False)
            | false => False)
          | false => False)
        | none => False)
      | .none => False)
    | _ => False)
  | op => effD E ti o Ms Fs next T n c B M F op

def vcH (E : Env) (ti : Nat → TI) (ops : List Oper) (n0 : Nat) (B0 : List (Nat × TypeId × Nat)) (Ms : List ((Nat × Nat) × SV)) (Fs : List Fct) (K : St → Prop) : Nat → List Bool → St → Prop
  | 0, _, _ => False
  | f + 1, L, .mk T n c B M F => match pickFrom ti ops T c Ms (readyB L 0 ops L) with
    | .pure i d s => (match d with
        | some d => (match Nat.blt d E.N with
          | true => vcH E ti ops n0 B0 Ms Fs K f (setB L i) (.mk ((d, s) :: T) n c B M F)
          | false => False)
        | none => vcH E ti ops n0 B0 Ms Fs K f (setB L i) (.mk T n c B M F))
    | .skip i d => (match d with
        | some d => (match Nat.blt d E.N with
          | true => vcH E ti ops n0 B0 Ms Fs K f (setB L i) (.mk ((d, .v undef) :: T) n c B M F)
          | false => False)
        | none => vcH E ti ops n0 B0 Ms Fs K f (setB L i) (.mk T n c B M F))
    | .split t b => CaseB b (vcH E ti ops n0 B0 Ms Fs K f L (.mk ((t, .lit true) :: T) n c B M F)) (vcH E ti ops n0 B0 Ms Fs K f L (.mk ((t, .lit false) :: T) n c B M F))
    | .idx i o => OpW (∀ A, ∃ s : SV, (∀ a w, WD E A n0 B0 Ms Fs w → TD E A T n c a w → (execOp a.eval o).run E.P w = .ok (.value (s.den A)) w ∧ s.okT n c w) ∧ (∃ d, Dst E o d ∧ vcH E ti ops n0 B0 Ms Fs K f (setB L i) (.mk ((d, s) :: T) n c B M F)))
    | .none => (match readyB L 0 ops L with
      | [] => K (.mk T n c B M F)
      | i :: r => allR (i :: r) fun i => match nth ops i with
        | some o => (match guardSt ops T o.guard with
          | .go => effH E ti o Ms Fs (fun s' => vcH E ti ops n0 B0 Ms Fs K f (setB L i) s') T n c B M F o.op
          | _ => False)
        | none => False)

section

variable {E : Env} {ti : Nat → TI}

theorem effH_sound (hti : ∀ t, TIok E.P t (ti t)) {o : Oper} {next : St → Prop} {A0 A : Nat → Nat} {n0 n c : Nat} {B0 B : List (Nat × TypeId × Nat)} {Ms M : List ((Nat × Nat) × SV)} {Fs F : List Fct} {T : List (Nat × SV)} {a : Act} {w ws : World}
    (hv : effH E ti o Ms Fs next T n c B M F o.op) (hI : InvD E A0 n0 B0 Ms Fs A n B M F w) (hs : WD E A0 n0 B0 Ms Fs ws) (hT : TD E A T n c a w) {K : Act → World → Prop} {Q : Exit → Act → World → Prop}
    (hK : ∀ A' T' n' c' B' M' F' a' w', InvD E A0 n0 B0 Ms Fs A' n' B' M' F' w' → (∀ w2, TD E A' T' n' c' a' w2) → next (.mk T' n' c' B' M' F') → K a' w') :
    o.wp E.P a w K Q := by
  cases hop : o.op <;> rw [hop] at hv <;> simp only [effH] at hv
  case buildSlice t len ps =>
    split at hv
    · rename_i e ik kd bytes hte
      split at hv
      · rename_i agg2 esz zero2 fs2 el2 ik2 kd2 bytes2 hte2
        split at hv
        · rename_i d hd
          split at hv
          · rename_i hdn
            split at hv
            · rename_i hplen
              split at hv
              · rename_i h24
                split at hv
                · rename_i cs hcs
                  obtain ⟨hv⟩ := hv
                  obtain ⟨hr, hex, hnew⟩ := buildSlice_run hti hT hop hte hte2 hplen h24 hcs
                  refine upon_of_value hr ?_
                  rw [hd]
                  exact hK A _ _ _ _ _ _ _ _ ⟨hI.ag, hI.hn, hI.hb, hI.hm, fun f hf => List.mem_cons_of_mem _ (hI.hf f hf), hI.hw.learn hex hnew⟩ (fun w2 => (hT.step w2).put (d := d) (v := .v (Sl.val ⟨some ⟨w.heap.size, 0, none⟩, len⟩ len)) (by simpa using hdn) trivial) (hv w.heap.size)
                · exact hv.elim
              · exact hv.elim
            · exact hv.elim
          · exact hv.elim
        · exact hv.elim
      · exact hv.elim
    · exact hv.elim
  all_goals exact effD_sound hti (by rw [hop]; exact hv) hI hs hT hK

theorem vcH_sound (hti : ∀ t, TIok E.P t (ti t)) {ops : List Oper} {A0 : Nat → Nat} {n0 : Nat} {B0 : List (Nat × TypeId × Nat)} {Ms : List ((Nat × Nat) × SV)} {Fs : List Fct} {K : St → Prop} {ws : World} (hs : WD E A0 n0 B0 Ms Fs ws) (hns : Region.noSelect ops.toArray = true) (hap : apartAll ops.toArray = true) :
    ∀ (f : Nat) (L : List Bool) (T : List (Nat × SV)) (n c : Nat) (B : List (Nat × TypeId × Nat)) (M : List ((Nat × Nat) × SV)) (F : List Fct) (A : Nat → Nat) (a : Act) (w : World) (k : Nat),
      vcH E ti ops n0 B0 Ms Fs K f L (.mk T n c B M F) → InvD E A0 n0 B0 Ms Fs A n B M F w → (∀ w2, WD E A0 n0 B0 Ms Fs w2 → TD E A T n c a w2) → unl L ≤ k →
      wpAnyH E.P .any ops.toArray (postD E K) (fun w => WD E A0 n0 B0 Ms Fs w) k L.toArray a w
  | 0, _, _, _, _, _, _, _, _, _, _, _, hv, _, _, _ => (hv : False).elim
  | f + 1, L, T, n, c, B, M, F, A, a, w, k, hv, hI, hT, hk => by
    have hS := hI.start hs
    have hTw := hT w hS
    have hloc : ∀ w2, WD E A0 n0 B0 Ms Fs w2 → WD E A n0 B0 Ms Fs w2 := fun w2 h => h.agree (fun k hk => (hI.ag k hk).symm)
    have hQ : ∀ (c : List PanicEntry) (a1 a2 : Act) (w : World), postD E K (.panic c) a1 w → postD E K (.panic c) a2 w := fun _ _ _ _ h => h
    have hset : ∀ i, L.toArray.setIfInBounds i true = (setB L i).toArray := fun i => by rw [setB_eq]; simp
    have hunl : ∀ i, i ∈ readyB L 0 ops L → unl (setB L i) + 1 = unl L := fun i hi => by
      have := unl_ready (mem_readyB.1 hi)
      rw [hset] at this
      simpa using this
    obtain ⟨p1, p2, p3, p4⟩ := pick_spec (ti := ti) (ops := ops) (T := T) (c := c) (Ms := Ms) (readyB L 0 ops L)
    simp only [vcH] at hv
    split at hv
    · rename_i i d s hp
      obtain ⟨hmem, o, ho, hg, hpv, hod⟩ := p1 i d s hp
      have hu := hunl i hmem
      have hmem' := mem_readyB.1 hmem
      obtain ⟨k', rfl⟩ : ∃ k', k = k' + 1 := ⟨k - 1, by omega⟩
      have hval : ∀ w2, WD E A0 n0 B0 Ms Fs w2 → OKV E A n c w2 ((execOp a.eval o).run E.P w2) s := fun w2 h2 =>
        pureV_sound hti (fun k o v hv => by
          obtain ⟨_, g1, g2⟩ := (hloc w2 h2).mem k o v hv
          exact ⟨g1, SV.small_more g2 hI.hn⟩) (hT w2 h2) hpv
      have hy : YieldsIf E.P ops.toArray (fun w => WD E A0 n0 B0 Ms Fs w) o (s.den A) a := .inl ⟨guardSt_go hTw hg o rfl, fun w2 h2 => (hval w2 h2).1⟩
      refine wpAnyH_take (by simpa using ho) hns (free_of_apart hap hmem') (by simpa using hmem') (fun c a w h => h) hy hS ?_
      rw [hset]
      split at hv
      · rename_i d
        split at hv
        · rename_i hdn
          rw [hod]
          exact vcH_sound hti hs hns hap f _ _ n c B M F A _ w k' hv hI (fun w2 h2 => (hT w2 h2).put (by simpa using hdn) (hval w2 h2).2) (by omega)
        · exact hv.elim
      · rw [hod]
        exact vcH_sound hti hs hns hap f _ _ n c B M F A _ w k' hv hI hT (by omega)
    · rename_i i d hp
      obtain ⟨hmem, o, ho, hg, hod⟩ := p2 i d hp
      have hu := hunl i hmem
      have hmem' := mem_readyB.1 hmem
      obtain ⟨k', rfl⟩ : ∃ k', k = k' + 1 := ⟨k - 1, by omega⟩
      have hy : YieldsIf E.P ops.toArray (fun w => WD E A0 n0 B0 Ms Fs w) o undef a := .inr ⟨guardSt_no hTw hg o rfl, rfl⟩
      refine wpAnyH_take (by simpa using ho) hns (free_of_apart hap hmem') (by simpa using hmem') (fun c a w h => h) hy hS ?_
      rw [hset]
      split at hv
      · rename_i d
        split at hv
        · rename_i hdn
          rw [hod]
          exact vcH_sound hti hs hns hap f _ _ n c B M F A _ w k' hv hI (fun w2 h2 => (hT w2 h2).put (v := .v undef) (by simpa using hdn) trivial) (by omega)
        · exact hv.elim
      · rw [hod]
        exact vcH_sound hti hs hns hap f _ _ n c B M F A _ w k' hv hI hT (by omega)
    · rename_i t b hp
      obtain ⟨o, hg⟩ := p3 t b hp
      have hl := guardSt_unk hTw hg
      cases b with
      | true => exact vcH_sound hti hs hns hap f _ _ n c B M F A _ w k (hv.t rfl) hI (fun w2 h2 => (hT w2 h2).lit hl) hk
      | false => exact vcH_sound hti hs hns hap f _ _ n c B M F A _ w k (hv.f rfl) hI (fun w2 h2 => (hT w2 h2).lit hl) hk
    · rename_i i o hp
      obtain ⟨hmem, ho, hg⟩ := p4 i o hp
      have hu := hunl i hmem
      have hmem' := mem_readyB.1 hmem
      obtain ⟨k', rfl⟩ : ∃ k', k = k' + 1 := ⟨k - 1, by omega⟩
      obtain ⟨s, h1, d, hd, hv⟩ := hv.out A
      have hy : YieldsIf E.P ops.toArray (fun w => WD E A0 n0 B0 Ms Fs w) o (s.den A) a := .inl ⟨guardSt_go hTw hg o rfl, fun w2 h2 => (h1 a w2 (hloc w2 h2) (hT w2 h2)).1⟩
      refine wpAnyH_take (by simpa using ho) hns (free_of_apart hap hmem') (by simpa using hmem') (fun c a w h => h) hy hS ?_
      rw [hd.1, hset]
      exact vcH_sound hti hs hns hap f _ _ n c B M F A _ w k' hv hI (fun w2 h2 => (hT w2 h2).put hd.lt (h1 a w2 (hloc w2 h2) (hT w2 h2)).2) (by omega)
    · split at hv
      · rename_i hr
        refine wpAnyH_done (List.eq_nil_iff_forall_not_mem.2 fun i hi => ?_) ⟨_, ⟨A, hI.hw, hTw⟩, hv⟩ k
        rw [← mem_readyB, hr] at hi
        cases hi
      · rename_i i0 r hr
        have hmem0 : i0 ∈ readyB L 0 ops L := by rw [hr]; simp
        have hu := hunl i0 hmem0
        obtain ⟨k', rfl⟩ : ∃ k', k = k' + 1 := ⟨k - 1, by omega⟩
        refine wpAnyH_all rfl (fun e => by have := mem_readyB.1 hmem0; rw [e] at this; cases this) fun i hi => ?_
        have hmem := mem_readyB.2 hi
        have hvi := allR_mem hv i (by rw [← hr]; exact hmem)
        have hui := hunl i hmem
        cases ho : nth ops i with
        | none => rw [ho] at hvi; exact hvi.elim
        | some o =>
          rw [ho] at hvi
          simp only at hvi
          rw [nth_eq] at ho
          split at hvi
          · rename_i hg
            unfold wpOp
            simp only [show ops.toArray[i]? = some o by simpa using ho, guardSt_go hTw hg o rfl, if_true]
            refine .inl (effH_sound hti hvi hI hs hTw ?_)
            intro A' T' n' c' B' M' F' a' w' hI' hT' hn
            rw [hset]
            exact ⟨hI'.start hs, vcH_sound hti hs hns hap f _ _ n' c' B' M' F' A' a' w' k' hn hI' (fun w2 _ => hT' w2) (by omega)⟩
          · exact hvi.elim

theorem drawH_start {id : Nat} {ops : Array Oper} {T : List (Nat × SV)} {n c : Nat} {B : List (Nat × TypeId × Nat)} {M : List ((Nat × Nat) × SV)} {F : List Fct} {K : St → Prop} (hti : ∀ t, TIok E.P t (ti t)) (hm : E.P.follows .mixedOrders = true) (hns : Region.noSelect ops = true) (hap : apartAll ops = true)
    (fuel : Nat) (Ms : List ((Nat × Nat) × SV)) (ix : List Nat) (Fs : List Fct) (hM : MW M n Ms) (hMB : MBW B Ms) (hF : FK F ix Fs) (hix : nodupB ix = true)
    (hv : vcH E ti ops.toList n B Ms Fs K fuel (falses ops.toList) (.mk T n (c + 1) B M F)) :
    DrawW (∀ a w, Den E (.mk T n c B M F) a w → (Code.region id ops true).wp E.P (postD E K) a w) := by
  refine ⟨fun a w hd => ?_⟩
  obtain ⟨A, hW, hT⟩ := hd
  have hdr : Ext w { w with drawn := w.drawn + 1 } := ⟨rfl, rfl, rfl, Nat.le_refl _, fun _ _ _ => rfl⟩
  have hW' := hW.growExt hdr
  have hs : WD E A n B Ms Fs { w with drawn := w.drawn + 1 } := by
    have hp := hW'.pick ix hF.fw hix
    refine ⟨hp.key, hp.inj, fun k o v hv => ?_, hp.a0, hp.n0, hp.ext, hp.fct, hp.dj⟩
    obtain ⟨h1, h2⟩ := MW_all hM k o v hv
    exact ⟨MBW_all hMB k o v hv, (hp.mem k o v h1).2.1, h2⟩
  refine wp_region_held (S := fun w => WD E A n B Ms Fs w) hm ?_
  have := vcH_sound hti (ops := ops.toList) (K := K) hs (by simpa using hns) (by simpa using hap) fuel (falses ops.toList) T n (c + 1) B M F A a { w with drawn := w.drawn + 1 } ops.size hv
    ⟨fun _ _ => rfl, Nat.le_refl _, fun _ h => h, fun k o v hv => (MW_all hM k o v hv).1, hF.keep, hW'⟩ (fun w2 _ => hT.step w2) (by simp [falses_eq, unl_replicate])
  rw [Array.toArray_toList, falses_eq] at this
  simp only [Array.length_toList, List.toArray_replicate] at this
  exact this

end

end Go.Proofs.YtchkcjeeknfchaaGreatDoor

namespace Go.Proofs.YtchkcjeeknfchaaGreatDoor

open Go Go.Sx Go.RowKit

theorem joinM_len {C : Nat} : ∀ {xs : List Str}, (∀ x ∈ xs, x.length ≤ C) → (joinM xs).length ≤ xs.length * (C + 1)
  | [], _ => by simp [joinM]
  | [x], h => by have := h x (.head _); simp only [joinM, List.length_cons, List.length_nil]; omega
  | x :: y :: r, h => by
    have ih := joinM_len (xs := y :: r) (C := C) (fun z hz => h z (.tail _ hz))
    have := h x (.head _)
    have e : (x :: y :: r).length * (C + 1) = (y :: r).length * (C + 1) + (C + 1) := by rw [List.length_cons (a := x), Nat.succ_mul]
    rw [joinM, e]
    simp only [List.length_append, List.length_cons] at ih ⊢
    omega

theorem placeM_len (a t : Int) : (placeM a t).length ≤ 21 := by
  have := decM_len a
  have := signM_len t
  rw [placeM, List.length_append]; omega

theorem placesM_mem : ∀ {ps ts : List Int} {x : Str}, x ∈ placesM ps ts → x.length ≤ 21
  | [], _, _, h => by simp [placesM] at h
  | _ :: _, [], _, h => by simp [placesM] at h
  | a :: ps, t :: ts, x, h => by
    rw [placesM] at h
    rcases List.mem_cons.1 h with rfl | h
    · exact placeM_len a t
    · exact placesM_mem h

theorem wordsA_mem {s : State} {x : Str} (h : x ∈ wordsA s) : x.length ≤ 21 := by
  rw [wordsA] at h
  rcases List.mem_append.1 h with h | h
  · exact placesM_mem h
  rcases List.mem_cons.1 h with rfl | h
  · decide
  · obtain ⟨v, _, rfl⟩ := List.mem_map.1 h
    have := decM_len v; omega

set_option maxHeartbeats 8000000 in
set_option maxRecDepth 100000 in
theorem fmtState_c (p : ProgH) (s : StateH) (w : World) (h : At w [fR (progO p), fR (stateO s)]) (hp : p.pure.small20) (hs : s.pure.small20) :
    Calls Tryz.prog 10 #[progV p, stateV s] w (Ret w (TextAns p s)) := by
  have hb : s.status.length ≤ 1048576 := hs.2.1
  refine calls2 Tryz.func10 rfl tabOk w _ rfl _ rfl _ h ⟨rfl, rfl, rfl, rfl, trivial⟩ _ _ (by decide) ?_
  refine stop_call _ cl14 rfl rfl rfl rfl ⟨rfl, rfl⟩ (fun A w hW => stateFits_c p s w ⟨hW.get 0 rfl (.refl _), hW.get 1 rfl (.refl _), trivial⟩ hp hs) ?_
  rintro v L ⟨b, rfl, hbb, rfl⟩
  refine CaseB.mk (fun g => ?_) (fun g => ?_)
  · have n : ¬ Fits p.pure s.pure := fun e => by rw [hbb.2 e] at g; cases g
    exact retw [] ⟨[], rfl, fun e => (n e).elim, fun _ => rfl, rfl⟩ trivial rfl trivial (fun _ => rfl)
  have ft := hbb.1 (by simpa using g)
  obtain ⟨hlen, h1, h4, hpl, hsl, hsd, f0, f4⟩ := ft.textOk
  have hpn : (placesM s.places s.status).length = s.places.length := placesM_len hlen
  refine LoopW.mk ⟨{ q : Nat × Sl × List Str // q.1 ≤ s.places.length ∧ q.2.2 = (placesM s.places s.status).take q.1 },
    fun q => .mk [(3, .p 1 0), (5, .v (q.1.2.1.val q.1.2.2.length)), (15, .v (s.h0.val s.places.length)), (16, .v (.int .i64 (s.places.length : Int))), (17, .v (.int .i64 (q.1.1 : Int)))] 2 0 [(0, 38, 5), (1, 46, 9)] [((1, 0), .v (s.h0.val s.places.length)), ((1, 1), .v (s.h1.val s.status.length)), ((1, 7), .v (s.h7.val s.said.length)), ((1, 8), .v (.int .i64 s.fault))] [own q.1.2.1 9 cTxt 1 q.1.2.2, fR (stateO s)],
    fun q => s.places.length - q.1.1, ⟨(0, ⟨none, 0⟩, []), Nat.zero_le _, rfl⟩, ?_, ?_⟩
  · refine weak_mk [90, 1] ?_ ?_ ?_ ?_ ?_ rfl rfl
    · repeat (first | exact trivial | refine ⟨⟨_, rfl, (by first | exact .of rfl | exact .lit rfl | exact .of (by first | (rfl)) | exact .lit (by first | (rfl))), (by first | exact trivial | exact Nat.le_of_ble_eq_true rfl | exact small1 rfl)⟩, ?_⟩)
    · repeat (first | exact trivial | refine ⟨⟨(by first | exact .head _ | exact .tail _ (.head _) | exact .tail _ (.tail _ (.head _)) | exact .tail _ (.tail _ (.tail _ (.head _))) | exact .tail _ (.tail _ (.tail _ (.tail _ (.head _)))) | exact .tail _ (.tail _ (.tail _ (.tail _ (.tail _ (.head _))))) | exact .tail _ (.tail _ (.tail _ (.tail _ (.tail _ (.tail _ (.head _)))))) | exact .tail _ (.tail _ (.tail _ (.tail _ (.tail _ (.tail _ (.tail _ (.head _))))))) | exact .tail _ (.tail _ (.tail _ (.tail _ (.tail _ (.tail _ (.tail _ (.tail _ (.head _)))))))) | exact .tail _ (.tail _ (.tail _ (.tail _ (.tail _ (.tail _ (.tail _ (.tail _ (.tail _ (.head _)))))))))), Nat.le_of_ble_eq_true rfl⟩, ?_⟩)
    · repeat (first | exact trivial | refine ⟨⟨_, rfl, (by first | exact .of rfl | exact .lit rfl | exact .of (by first | (rfl)) | exact .lit (by first | (rfl))), (by first | exact trivial | exact Nat.le_of_ble_eq_true rfl | exact small1 rfl)⟩, ?_⟩)
    · repeat (first | exact trivial | refine ⟨⟨_, rfl⟩, ?_⟩)
    · repeat (first | exact trivial | refine ⟨.inl ⟨_, rfl, (by first | rfl | (rfl))⟩, ?_⟩ | refine ⟨.inr ⟨Nat.le_of_ble_eq_true rfl, rfl, rfl, rfl, rfl⟩, ?_⟩)
  rintro ⟨⟨i, y, xs⟩, i1, i2⟩
  simp only at i1 i2 ⊢
  have xl : xs.length = i := by rw [i2, List.length_take]; omega
  refine CaseB.mk (fun g => ?_) (fun g => ?_)
  · have hlt : i < s.places.length := by simpa using g
    have hlt2 : i < s.status.length := by omega
    have hw := e_succ i _ hlt (by omega)
    obtain ⟨⟨a0, a8⟩, t0, t3⟩ := hpl i hlt hlt2
    obtain ⟨j, hjl, hj, hsg⟩ := signsL_get _ t0 t3
    have sl := signM_len s.status[i]
    have dl := decM_len s.places[i]
    have nx := places_take hlen hlt hlt2
    rw [← i2] at nx
    refine stop_idx encInt tabOk rfl rfl rfl rfl rfl ⟨rfl, rfl⟩ (rdVia 1 rfl (.ofR (stateO_places s))) i rfl (by first | omega | (simp; done) | (simp; omega) | (unfold maxLen; omega) | (unfold maxLen; simp; done) | (unfold maxLen; simp; omega)) (fun ad => ?_)
    have hd1 : s.places[i] < 100 := by omega
    refine drawH_start tabOk (by kernel_rfl) (by kernel_rfl) (by kernel_rfl) 200 [((1, 1), .v (s.h1.val s.status.length))] [1] [_] ⟨⟨_, rfl, rfl, (by first | exact trivial | exact Nat.le_of_ble_eq_true rfl)⟩, trivial⟩ ⟨⟨_, rfl⟩, trivial⟩ ⟨rfl, trivial⟩ rfl ?_
    refine d_idx (ti := tiOf tab) encInt tabOk rfl rfl rfl rfl rfl ⟨rfl, rfl⟩ (rdVia 0 rfl (.ofR (stateO_status s))) i rfl (by first | omega | (simp; done) | (simp; omega) | (unfold maxLen; omega) | (unfold maxLen; simp; done) | (unfold maxLen; simp; omega)) (fun ad2 => ?_)
    have hle : (decM s.places[i]).length + (signsL[j]).length ≤ 9223372036854775807 := by rw [hsg]; omega
    have hp : decM s.places[i] ++ signsL[j] = placeM s.places[i] s.status[i] := by rw [hsg]; rfl
    refine BothW.mk ?_ ?_
    refine d_call _ cl31 rfl rfl rfl rfl ⟨rfl, rfl⟩ (fun A w hW => (itoa_c _ w a0 hd1)) ?_
    rintro v L ⟨rfl, rfl⟩
    refine AllN.mk fun g0 => ?_
    refine d_idxP (ti := tiOf tab) tabOk rfl rfl rfl rfl rfl ⟨rfl, rfl⟩ rfl j hj hjl ?_
    refine d_loadW encTxt 0 (xs := signsL) tabOk rfl rfl rfl ⟨rfl, rfl⟩ rfl rfl j 0 rfl hjl rfl ?_
    rotate_left
    refine AllN.mk fun g0 => ?_
    refine d_idxP (ti := tiOf tab) tabOk rfl rfl rfl rfl rfl ⟨rfl, rfl⟩ rfl j hj hjl ?_
    refine BothW.mk ?_ ?_
    refine d_call _ cl31 rfl rfl rfl rfl ⟨rfl, rfl⟩ (fun A w hW => (itoa_c _ w a0 hd1)) ?_
    rintro v L ⟨rfl, rfl⟩
    refine d_loadW encTxt 0 (xs := signsL) tabOk rfl rfl rfl ⟨rfl, rfl⟩ rfl rfl j 0 rfl hjl rfl ?_
    rotate_left
    refine d_loadW encTxt 0 (xs := signsL) tabOk rfl rfl rfl ⟨rfl, rfl⟩ rfl rfl j 0 rfl hjl rfl ?_
    refine d_call _ cl31 rfl rfl rfl rfl ⟨rfl, rfl⟩ (fun A w hW => (itoa_c _ w a0 hd1)) ?_
    rintro v L ⟨rfl, rfl⟩
    rotate_left
    all_goals
      refine d_bin rfl rfl rfl ⟨rfl, rfl⟩ (.string (bs ((decM s.places[i]) ++ (signsL[j])))) (fun w => eqGuard_str w) (fun w => sadd_run hle w) ?_
      rw [hp]
      refine AllN.mk fun g1 => ?_
      refine d_app (ti := tiOf tab) encTxt 2 tabOk (xs := xs) (ys := [placeM s.places[i] s.status[i]]) rfl rfl rfl rfl rfl rfl rfl rfl rfl (by decide) ⟨rfl, rfl⟩ rfl (by first | exact rdAt 0 rfl | exact rdOwnAt 0 rfl | exact rdAt 1 rfl | exact rdOwnAt 1 rfl | exact rdAt 2 rfl | exact rdOwnAt 2 rfl | exact rdAt 3 rfl | exact rdOwnAt 3 rfl | exact rdAt 4 rfl | exact rdOwnAt 4 rfl | exact rdAt 5 rfl | exact rdOwnAt 5 rfl | exact rdAt 6 rfl | exact rdOwnAt 6 rfl | exact rdAt 7 rfl | exact rdOwnAt 7 rfl | exact rdAt 8 rfl | exact rdOwnAt 8 rfl | exact rdAt 9 rfl | exact rdOwnAt 9 rfl | exact rdAt 10 rfl | exact rdOwnAt 10 rfl | exact rdAt 11 rfl | exact rdOwnAt 11 rfl | exact rdAt 12 rfl | exact rdOwnAt 12 rfl | exact rdAt 13 rfl | exact rdOwnAt 13 rfl | exact rdAt 14 rfl | exact rdOwnAt 14 rfl | exact rdAt 15 rfl | exact rdOwnAt 15 rfl | exact rdAt 16 rfl | exact rdOwnAt 16 rfl | exact rdAt 17 rfl | exact rdOwnAt 17 rfl | exact rdAt 18 rfl | exact rdOwnAt 18 rfl | exact rdAt 19 rfl | exact rdOwnAt 19 rfl | exact rdAt 20 rfl | exact rdOwnAt 20 rfl | exact rdAt 21 rfl | exact rdOwnAt 21 rfl | exact rdAt 22 rfl | exact rdOwnAt 22 rfl | exact rdAt 23 rfl | exact rdOwnAt 23 rfl) (by first | omega | (simp; done) | (simp; omega) | (unfold maxLen; omega) | (unfold maxLen; simp; done) | (unfold maxLen; simp; omega)) (by first | omega | (simp; done) | (simp; omega) | (unfold maxLen; omega) | (unfold maxLen; simp; done) | (unfold maxLen; simp; omega)) (by simp [keepF]) (fun z => ?_)
      refine ⟨⟨(i + 1, z, xs ++ [placeM s.places[i] s.status[i]]), by omega, nx.symm⟩, ?_, by simp only; omega⟩
      refine weak_mk [0, 3] ?_ ?_ ?_ ?_ ?_ rfl rfl
      · repeat (first | exact trivial | refine ⟨⟨_, rfl, (by first | exact .of rfl | exact .lit rfl | exact .of (by first | ((exact congrArg (fun z => SV.v (Value.int .i64 z)) hw))) | exact .lit (by first | ((exact congrArg (fun z => SV.v (Value.int .i64 z)) hw)))), (by first | exact trivial | exact Nat.le_of_ble_eq_true rfl | exact small1 rfl)⟩, ?_⟩)
      · repeat (first | exact trivial | refine ⟨⟨(by first | exact .head _ | exact .tail _ (.head _) | exact .tail _ (.tail _ (.head _)) | exact .tail _ (.tail _ (.tail _ (.head _))) | exact .tail _ (.tail _ (.tail _ (.tail _ (.head _)))) | exact .tail _ (.tail _ (.tail _ (.tail _ (.tail _ (.head _))))) | exact .tail _ (.tail _ (.tail _ (.tail _ (.tail _ (.tail _ (.head _)))))) | exact .tail _ (.tail _ (.tail _ (.tail _ (.tail _ (.tail _ (.tail _ (.head _))))))) | exact .tail _ (.tail _ (.tail _ (.tail _ (.tail _ (.tail _ (.tail _ (.tail _ (.head _)))))))) | exact .tail _ (.tail _ (.tail _ (.tail _ (.tail _ (.tail _ (.tail _ (.tail _ (.tail _ (.head _)))))))))), Nat.le_of_ble_eq_true rfl⟩, ?_⟩)
      · repeat (first | exact trivial | refine ⟨⟨_, rfl, (by first | exact .of rfl | exact .lit rfl | exact .of (by first | ((exact congrArg (fun z => SV.v (Value.int .i64 z)) hw))) | exact .lit (by first | ((exact congrArg (fun z => SV.v (Value.int .i64 z)) hw)))), (by first | exact trivial | exact Nat.le_of_ble_eq_true rfl | exact small1 rfl)⟩, ?_⟩)
      · repeat (first | exact trivial | refine ⟨⟨_, rfl⟩, ?_⟩)
      · repeat (first | exact trivial | refine ⟨.inl ⟨_, rfl, (by first | rfl | ((exact congrArg (fun z => SV.v (Value.int .i64 z)) hw)))⟩, ?_⟩ | refine ⟨.inr ⟨Nat.le_of_ble_eq_true rfl, rfl, rfl, rfl, rfl⟩, ?_⟩)
  have hie : i = s.places.length := by have := of_decide_eq_false g; omega
  subst hie
  rw [List.take_of_length_le (by omega)] at i2
  refine AllSl.mk fun b1 => ?_
  refine stop_app encTxt 1 tabOk (xs := xs) (ys := [[124]]) rfl rfl rfl rfl rfl rfl rfl rfl rfl (by decide) ⟨rfl, rfl⟩ rfl (by first | exact rdAt 0 rfl | exact rdOwnAt 0 rfl | exact rdAt 1 rfl | exact rdOwnAt 1 rfl | exact rdAt 2 rfl | exact rdOwnAt 2 rfl | exact rdAt 3 rfl | exact rdOwnAt 3 rfl | exact rdAt 4 rfl | exact rdOwnAt 4 rfl | exact rdAt 5 rfl | exact rdOwnAt 5 rfl | exact rdAt 6 rfl | exact rdOwnAt 6 rfl | exact rdAt 7 rfl | exact rdOwnAt 7 rfl | exact rdAt 8 rfl | exact rdOwnAt 8 rfl | exact rdAt 9 rfl | exact rdOwnAt 9 rfl | exact rdAt 10 rfl | exact rdOwnAt 10 rfl | exact rdAt 11 rfl | exact rdOwnAt 11 rfl | exact rdAt 12 rfl | exact rdOwnAt 12 rfl | exact rdAt 13 rfl | exact rdOwnAt 13 rfl | exact rdAt 14 rfl | exact rdOwnAt 14 rfl | exact rdAt 15 rfl | exact rdOwnAt 15 rfl | exact rdAt 16 rfl | exact rdOwnAt 16 rfl | exact rdAt 17 rfl | exact rdOwnAt 17 rfl | exact rdAt 18 rfl | exact rdOwnAt 18 rfl | exact rdAt 19 rfl | exact rdOwnAt 19 rfl | exact rdAt 20 rfl | exact rdOwnAt 20 rfl | exact rdAt 21 rfl | exact rdOwnAt 21 rfl | exact rdAt 22 rfl | exact rdOwnAt 22 rfl | exact rdAt 23 rfl | exact rdOwnAt 23 rfl) (by first | omega | (simp; done) | (simp; omega) | (unfold maxLen; omega) | (unfold maxLen; simp; done) | (unfold maxLen; simp; omega)) (by first | omega | (simp; done) | (simp; omega) | (unfold maxLen; omega) | (unfold maxLen; simp; done) | (unfold maxLen; simp; omega)) (fun z1 => ?_)
  have e2 : xs ++ [[124]] = (placesM s.places s.status ++ [[124]]) ++ (s.said.map decM).take 0 := by rw [i2, List.take_zero, List.append_nil]
  have l2 : (xs ++ [[124]]).length ≤ 5 := by rw [List.length_append, xl]; simp; omega
  generalize xs ++ [[124]] = xs1 at e2 l2 ⊢
  refine LoopW.mk ⟨{ q : Nat × Sl × List Str // q.1 ≤ s.said.length ∧ q.2.2 = (placesM s.places s.status ++ [[124]]) ++ (s.said.map decM).take q.1 ∧ q.2.2.length ≤ 5 + q.1 },
    fun q => .mk [(3, .p 1 0), (5, .v (q.1.2.1.val q.1.2.2.length)), (41, .v (s.h7.val s.said.length)), (42, .v (.int .i64 (s.said.length : Int))), (43, .v (.int .i64 (q.1.1 : Int)))] 2 0 [(0, 38, 5), (1, 46, 9)] [((1, 8), .v (.int .i64 s.fault))] [own q.1.2.1 9 cTxt 1 q.1.2.2, fR (stateO s)],
    fun q => s.said.length - q.1.1, ⟨(0, z1, xs1), Nat.zero_le _, e2, l2⟩, ?_, ?_⟩
  · refine weak_mk [0, 2] ?_ ?_ ?_ ?_ ?_ rfl rfl
    · repeat (first | exact trivial | refine ⟨⟨_, rfl, (by first | exact .of rfl | exact .lit rfl | exact .of (by first | (rfl)) | exact .lit (by first | (rfl))), (by first | exact trivial | exact Nat.le_of_ble_eq_true rfl | exact small1 rfl)⟩, ?_⟩)
    · repeat (first | exact trivial | refine ⟨⟨(by first | exact .head _ | exact .tail _ (.head _) | exact .tail _ (.tail _ (.head _)) | exact .tail _ (.tail _ (.tail _ (.head _))) | exact .tail _ (.tail _ (.tail _ (.tail _ (.head _)))) | exact .tail _ (.tail _ (.tail _ (.tail _ (.tail _ (.head _))))) | exact .tail _ (.tail _ (.tail _ (.tail _ (.tail _ (.tail _ (.head _)))))) | exact .tail _ (.tail _ (.tail _ (.tail _ (.tail _ (.tail _ (.tail _ (.head _))))))) | exact .tail _ (.tail _ (.tail _ (.tail _ (.tail _ (.tail _ (.tail _ (.tail _ (.head _)))))))) | exact .tail _ (.tail _ (.tail _ (.tail _ (.tail _ (.tail _ (.tail _ (.tail _ (.tail _ (.head _)))))))))), Nat.le_of_ble_eq_true rfl⟩, ?_⟩)
    · repeat (first | exact trivial | refine ⟨⟨_, rfl, (by first | exact .of rfl | exact .lit rfl | exact .of (by first | (rfl)) | exact .lit (by first | (rfl))), (by first | exact trivial | exact Nat.le_of_ble_eq_true rfl | exact small1 rfl)⟩, ?_⟩)
    · repeat (first | exact trivial | refine ⟨⟨_, rfl⟩, ?_⟩)
    · repeat (first | exact trivial | refine ⟨.inl ⟨_, rfl, (by first | rfl | (rfl))⟩, ?_⟩ | refine ⟨.inr ⟨Nat.le_of_ble_eq_true rfl, rfl, rfl, rfl, rfl⟩, ?_⟩)
  rintro ⟨⟨k, y2, ys⟩, k1, k2, k3⟩
  simp only at k1 k2 k3 ⊢
  refine CaseB.mk (fun g => ?_) (fun g => ?_)
  · have hlt : k < s.said.length := by simpa using g
    have hw := e_succ k _ hlt (by omega)
    obtain ⟨a0, a9⟩ := hsd k hlt
    have hd1 : s.said[k] < 100 := by omega
    refine stop_idx encInt tabOk rfl rfl rfl rfl rfl ⟨rfl, rfl⟩ (rdVia 1 rfl (.ofR (stateO_said s))) k rfl (by first | omega | (simp; done) | (simp; omega) | (unfold maxLen; omega) | (unfold maxLen; simp; done) | (unfold maxLen; simp; omega)) (fun ad => ?_)
    refine stop_call _ cl31 rfl rfl rfl rfl ⟨rfl, rfl⟩ (fun A w hW => (itoa_c _ w a0 hd1)) ?_
    rintro v L ⟨rfl, rfl⟩
    refine AllSl.mk fun b2 => ?_
    refine stop_app encTxt 1 tabOk (xs := ys) (ys := [decM s.said[k]]) rfl rfl rfl rfl rfl rfl rfl rfl rfl (by decide) ⟨rfl, rfl⟩ rfl (by first | exact rdAt 0 rfl | exact rdOwnAt 0 rfl | exact rdAt 1 rfl | exact rdOwnAt 1 rfl | exact rdAt 2 rfl | exact rdOwnAt 2 rfl | exact rdAt 3 rfl | exact rdOwnAt 3 rfl | exact rdAt 4 rfl | exact rdOwnAt 4 rfl | exact rdAt 5 rfl | exact rdOwnAt 5 rfl | exact rdAt 6 rfl | exact rdOwnAt 6 rfl | exact rdAt 7 rfl | exact rdOwnAt 7 rfl | exact rdAt 8 rfl | exact rdOwnAt 8 rfl | exact rdAt 9 rfl | exact rdOwnAt 9 rfl | exact rdAt 10 rfl | exact rdOwnAt 10 rfl | exact rdAt 11 rfl | exact rdOwnAt 11 rfl | exact rdAt 12 rfl | exact rdOwnAt 12 rfl | exact rdAt 13 rfl | exact rdOwnAt 13 rfl | exact rdAt 14 rfl | exact rdOwnAt 14 rfl | exact rdAt 15 rfl | exact rdOwnAt 15 rfl | exact rdAt 16 rfl | exact rdOwnAt 16 rfl | exact rdAt 17 rfl | exact rdOwnAt 17 rfl | exact rdAt 18 rfl | exact rdOwnAt 18 rfl | exact rdAt 19 rfl | exact rdOwnAt 19 rfl | exact rdAt 20 rfl | exact rdOwnAt 20 rfl | exact rdAt 21 rfl | exact rdOwnAt 21 rfl | exact rdAt 22 rfl | exact rdOwnAt 22 rfl | exact rdAt 23 rfl | exact rdOwnAt 23 rfl) (by first | omega | (simp; done) | (simp; omega) | (unfold maxLen; omega) | (unfold maxLen; simp; done) | (unfold maxLen; simp; omega)) (by first | omega | (simp; done) | (simp; omega) | (unfold maxLen; omega) | (unfold maxLen; simp; done) | (unfold maxLen; simp; omega)) (fun z2 => ?_)
    have hnl : (ys ++ [decM s.said[k]]).length ≤ 5 + (k + 1) := by rw [List.length_append]; simp; omega
    refine ⟨⟨(k + 1, z2, ys ++ [decM s.said[k]]), by omega, by rw [k2, sd_step s hlt, List.append_assoc], hnl⟩, ?_, by simp only; omega⟩
    refine weak_mk [0, 2] ?_ ?_ ?_ ?_ ?_ rfl rfl
    · repeat (first | exact trivial | refine ⟨⟨_, rfl, (by first | exact .of rfl | exact .lit rfl | exact .of (by first | ((exact congrArg (fun z => SV.v (Value.int .i64 z)) hw))) | exact .lit (by first | ((exact congrArg (fun z => SV.v (Value.int .i64 z)) hw)))), (by first | exact trivial | exact Nat.le_of_ble_eq_true rfl | exact small1 rfl)⟩, ?_⟩)
    · repeat (first | exact trivial | refine ⟨⟨(by first | exact .head _ | exact .tail _ (.head _) | exact .tail _ (.tail _ (.head _)) | exact .tail _ (.tail _ (.tail _ (.head _))) | exact .tail _ (.tail _ (.tail _ (.tail _ (.head _)))) | exact .tail _ (.tail _ (.tail _ (.tail _ (.tail _ (.head _))))) | exact .tail _ (.tail _ (.tail _ (.tail _ (.tail _ (.tail _ (.head _)))))) | exact .tail _ (.tail _ (.tail _ (.tail _ (.tail _ (.tail _ (.tail _ (.head _))))))) | exact .tail _ (.tail _ (.tail _ (.tail _ (.tail _ (.tail _ (.tail _ (.tail _ (.head _)))))))) | exact .tail _ (.tail _ (.tail _ (.tail _ (.tail _ (.tail _ (.tail _ (.tail _ (.tail _ (.head _)))))))))), Nat.le_of_ble_eq_true rfl⟩, ?_⟩)
    · repeat (first | exact trivial | refine ⟨⟨_, rfl, (by first | exact .of rfl | exact .lit rfl | exact .of (by first | ((exact congrArg (fun z => SV.v (Value.int .i64 z)) hw))) | exact .lit (by first | ((exact congrArg (fun z => SV.v (Value.int .i64 z)) hw)))), (by first | exact trivial | exact Nat.le_of_ble_eq_true rfl | exact small1 rfl)⟩, ?_⟩)
    · repeat (first | exact trivial | refine ⟨⟨_, rfl⟩, ?_⟩)
    · repeat (first | exact trivial | refine ⟨.inl ⟨_, rfl, (by first | rfl | ((exact congrArg (fun z => SV.v (Value.int .i64 z)) hw)))⟩, ?_⟩ | refine ⟨.inr ⟨Nat.le_of_ble_eq_true rfl, rfl, rfl, rfl, rfl⟩, ?_⟩)
  have hke : k = s.said.length := by have := of_decide_eq_false g; omega
  subst hke
  rw [List.take_of_length_le (by rw [List.length_map]; omega)] at k2
  have hA : (placesM s.places s.status ++ [[124]]) ++ s.said.map decM = wordsA s.pure := by rw [List.append_assoc]; rfl
  rw [hA] at k2
  have hne : ys ≠ [] := by rw [k2, ← hA]; simp
  refine CaseB.mk (fun g => ?_) (fun g => ?_)
  · have n0 : ¬ s.fault = 0 := by simpa using g
    obtain ⟨j, hjl, hj, hsg⟩ := faultsL_get _ f0 f4
    have fl := faultW_len s.fault
    refine AllSl.mk fun b3 => ?_
    refine stop_idx encTxt tabOk rfl rfl rfl rfl rfl ⟨rfl, rfl⟩ (rdOwnAt 0 rfl) j hj (by first | omega | (simp; done) | (simp; omega) | (unfold maxLen; omega) | (unfold maxLen; simp; done) | (unfold maxLen; simp; omega)) (fun ad => ?_)
    refine AllSl.mk fun b4 => ?_
    refine stop_app encTxt 2 tabOk (xs := ys) (ys := [[102, 97, 117, 108, 116], faultsL[j]]) rfl rfl rfl rfl rfl rfl rfl rfl rfl (by decide) ⟨rfl, rfl⟩ rfl (by first | exact rdAt 0 rfl | exact rdOwnAt 0 rfl | exact rdAt 1 rfl | exact rdOwnAt 1 rfl | exact rdAt 2 rfl | exact rdOwnAt 2 rfl | exact rdAt 3 rfl | exact rdOwnAt 3 rfl | exact rdAt 4 rfl | exact rdOwnAt 4 rfl | exact rdAt 5 rfl | exact rdOwnAt 5 rfl | exact rdAt 6 rfl | exact rdOwnAt 6 rfl | exact rdAt 7 rfl | exact rdOwnAt 7 rfl | exact rdAt 8 rfl | exact rdOwnAt 8 rfl | exact rdAt 9 rfl | exact rdOwnAt 9 rfl | exact rdAt 10 rfl | exact rdOwnAt 10 rfl | exact rdAt 11 rfl | exact rdOwnAt 11 rfl | exact rdAt 12 rfl | exact rdOwnAt 12 rfl | exact rdAt 13 rfl | exact rdOwnAt 13 rfl | exact rdAt 14 rfl | exact rdOwnAt 14 rfl | exact rdAt 15 rfl | exact rdOwnAt 15 rfl | exact rdAt 16 rfl | exact rdOwnAt 16 rfl | exact rdAt 17 rfl | exact rdOwnAt 17 rfl | exact rdAt 18 rfl | exact rdOwnAt 18 rfl | exact rdAt 19 rfl | exact rdOwnAt 19 rfl | exact rdAt 20 rfl | exact rdOwnAt 20 rfl | exact rdAt 21 rfl | exact rdOwnAt 21 rfl | exact rdAt 22 rfl | exact rdOwnAt 22 rfl | exact rdAt 23 rfl | exact rdOwnAt 23 rfl) (by first | omega | (simp; done) | (simp; omega) | (unfold maxLen; omega) | (unfold maxLen; simp; done) | (unfold maxLen; simp; omega)) (by first | omega | (simp; done) | (simp; omega) | (unfold maxLen; omega) | (unfold maxLen; simp; done) | (unfold maxLen; simp; omega)) (fun z3 => ?_)
    have e3 : textM s.pure = joinM (ys ++ [[102, 97, 117, 108, 116], faultsL[j]]) := by rw [textM_eq, if_neg (show ¬ s.pure.fault = 0 from n0), k2, hsg]; rfl
    have l3 : (ys ++ [[102, 97, 117, 108, 116], faultsL[j]]).length ≤ 100 := by rw [List.length_append]; simp; omega
    have m3 : ∀ x ∈ ys ++ [[102, 97, 117, 108, 116], faultsL[j]], x.length ≤ 21 := fun x hx => by
      rcases List.mem_append.1 hx with hx | hx
      · rw [k2] at hx; exact wordsA_mem hx
      · rcases List.mem_cons.1 hx with rfl | hx
        · decide
        · rcases List.mem_singleton.1 hx with rfl
          rw [hsg]; omega
    have p3 : 0 < (ys ++ [[102, 97, 117, 108, 116], faultsL[j]]).length := by simp
    generalize ys ++ [[102, 97, 117, 108, 116], faultsL[j]] = zs at e3 l3 m3 p3 ⊢
    have jl := joinM_len m3
    refine stop_own 0 rfl p3 (fun g3 hg3 _ _ => ?_)
    refine stop_call _ cl32 rfl rfl rfl rfl ⟨rfl, rfl⟩ (fun A w hW => (join_c z3 g3 hg3 zs w ⟨hW.rdOwn 0 rfl, trivial⟩ p3 (by omega) (by omega))) ?_
    rintro v L ⟨rfl, rfl⟩
    exact retw [] ⟨_, rfl, fun _ => e3.symm, fun e => (e ft).elim, rfl⟩ trivial rfl trivial (fun _ => rfl)
  have z0 : s.fault = 0 := by simpa using g
  have e3 : textM s.pure = joinM ys := by rw [textM_eq, if_pos (show s.pure.fault = 0 from z0), List.append_nil, ← k2]
  have m3 : ∀ x ∈ ys, x.length ≤ 21 := fun x hx => by rw [k2] at hx; exact wordsA_mem hx
  have p3 : 0 < ys.length := List.length_pos_iff.2 hne
  have jl := joinM_len m3
  refine stop_own 0 rfl p3 (fun g3 hg3 _ _ => ?_)
  refine stop_call _ cl32 rfl rfl rfl rfl ⟨rfl, rfl⟩ (fun A w hW => (join_c y2 g3 hg3 ys w ⟨hW.rdOwn 0 rfl, trivial⟩ p3 (by omega) (by omega))) ?_
  rintro v L ⟨rfl, rfl⟩
  exact retw [] ⟨_, rfl, fun _ => e3.symm, fun e => (e ft).elim, rfl⟩ trivial rfl trivial (fun _ => rfl)

end Go.Proofs.YtchkcjeeknfchaaGreatDoor

namespace Go.Proofs.YtchkcjeeknfchaaGreatDoor

open Go Go.Sx Go.RowKit

set_option maxHeartbeats 16000000 in
set_option maxRecDepth 100000 in
theorem exactFormatState_c (p : ProgH) (s : StateH) (w : World) (h : At w [fR (progO p), fR (stateO s)]) :
    Calls Tryz.prog 3 #[progV p, stateV s] w (Ret w fun v L => v = .bool true ∧ L = []) := by
  refine calls2 Tryz.func3 rfl tabOk w _ rfl _ rfl _ h ⟨rfl, rfl, rfl, rfl, trivial⟩ _ _ (by decide) ?_
  refine stop_call _ cl5 rfl rfl rfl rfl ⟨rfl, rfl⟩ (fun A w hW => ret_abs (szProg_c p 1048576 w ⟨hW.get 0 rfl (.refl _), trivial⟩ (by omega) (by omega))) ?_
  rintro v L ⟨l0, e0, rfl, rfl⟩
  refine CaseB.mk (fun _ => ?_) (fun hz => ?_)
  · exact retw [] ⟨rfl, rfl⟩ trivial rfl trivial (fun _ => rfl)
  have hz0 : ¬ l0 < 0 := by simpa using hz
  obtain ⟨ha, hl⟩ := szProgM_gen p.pure 1048576 (by omega) (by rw [← e0]; exact hz0)
  rw [← e0] at hl
  refine stop_call _ cl6 rfl rfl rfl rfl ⟨rfl, rfl⟩ (fun A w hW => ret_abs (szState_c s l0 w ⟨hW.get 1 rfl (.refl _), trivial⟩ (by omega) hl)) ?_
  rintro v L ⟨l1, e1, rfl, rfl⟩
  refine CaseB.mk (fun _ => ?_) (fun hz => ?_)
  · exact retw [] ⟨rfl, rfl⟩ trivial rfl trivial (fun _ => rfl)
  have hz1 : ¬ l1 < 0 := by simpa using hz
  obtain ⟨hb, _⟩ := szStateM_gen s.pure l0 hl (by rw [← e1]; exact hz1)
  refine draw_start tabOk (by kernel_rfl) (by kernel_rfl) (by kernel_rfl) 200 [((0, 0), .v (p.h0.val p.sems.length)), ((0, 1), .v (p.h1.val p.groups.length)), ((0, 2), .v (p.h2.val p.barriers.length)), ((0, 3), .v (p.h3.val p.rooms.length)), ((0, 4), .v (p.h4.val p.threads.length)), ((1, 0), .v (s.h0.val s.places.length)), ((1, 1), .v (s.h1.val s.status.length)), ((1, 2), .v (s.h2.val s.sems.length)), ((1, 3), .v (s.h3.val s.onces.length)), ((1, 4), .v (s.h4.val s.groups.length)), ((1, 5), .v (s.h5.val s.barriers.length)), ((1, 6), .v (s.h6.val s.chans.length)), ((1, 7), .v (s.h7.val s.said.length)), ((1, 8), .v (.int .i64 s.fault))] [0, 1] [_, _] ⟨⟨_, rfl, rfl, (by first | exact trivial | exact Nat.le_of_ble_eq_true rfl)⟩, ⟨_, rfl, rfl, (by first | exact trivial | exact Nat.le_of_ble_eq_true rfl)⟩, ⟨_, rfl, rfl, (by first | exact trivial | exact Nat.le_of_ble_eq_true rfl)⟩, ⟨_, rfl, rfl, (by first | exact trivial | exact Nat.le_of_ble_eq_true rfl)⟩, ⟨_, rfl, rfl, (by first | exact trivial | exact Nat.le_of_ble_eq_true rfl)⟩, ⟨_, rfl, rfl, (by first | exact trivial | exact Nat.le_of_ble_eq_true rfl)⟩, ⟨_, rfl, rfl, (by first | exact trivial | exact Nat.le_of_ble_eq_true rfl)⟩, ⟨_, rfl, rfl, (by first | exact trivial | exact Nat.le_of_ble_eq_true rfl)⟩, ⟨_, rfl, rfl, (by first | exact trivial | exact Nat.le_of_ble_eq_true rfl)⟩, ⟨_, rfl, rfl, (by first | exact trivial | exact Nat.le_of_ble_eq_true rfl)⟩, ⟨_, rfl, rfl, (by first | exact trivial | exact Nat.le_of_ble_eq_true rfl)⟩, ⟨_, rfl, rfl, (by first | exact trivial | exact Nat.le_of_ble_eq_true rfl)⟩, ⟨_, rfl, rfl, (by first | exact trivial | exact Nat.le_of_ble_eq_true rfl)⟩, ⟨_, rfl, rfl, (by first | exact trivial | exact Nat.le_of_ble_eq_true rfl)⟩, trivial⟩ ⟨⟨_, rfl⟩, ⟨_, rfl⟩, ⟨_, rfl⟩, ⟨_, rfl⟩, ⟨_, rfl⟩, ⟨_, rfl⟩, ⟨_, rfl⟩, ⟨_, rfl⟩, ⟨_, rfl⟩, ⟨_, rfl⟩, ⟨_, rfl⟩, ⟨_, rfl⟩, ⟨_, rfl⟩, ⟨_, rfl⟩, trivial⟩ ⟨rfl, rfl, trivial⟩ rfl ?_
  refine d_call _ cl8 rfl rfl rfl rfl ⟨rfl, rfl⟩ (fun A w hW => toProg_c p w ⟨hW.get 0 rfl (.refl _), trivial⟩ ha) ?_
  rintro v L ⟨y0, rfl, p0, rfl⟩
  refine d_call _ cl9 rfl rfl rfl rfl ⟨rfl, rfl⟩ (fun A w hW => toState_c s w ⟨hW.get 2 rfl (.refl _), trivial⟩ hb) ?_
  rintro v L ⟨y1, rfl, p1, rfl⟩
  refine d_call _ cl7 rfl rfl rfl rfl ⟨rfl, rfl⟩ (fun A w hW => fmtStateS_c y0 y1 w ⟨hW.get 1 rfl (.O_R fun _ h => h), hW.get 0 rfl (.O_R fun _ h => h), trivial⟩ (by rw [p0]; exact ha) (by rw [p1]; exact hb)) ?_
  rintro v L ⟨t1, rfl, j1, j2, rfl⟩
  rw [p0, p1] at j1 j2
  refine stop_call _ cl8 rfl rfl rfl rfl ⟨rfl, rfl⟩ (fun A w hW => toProg_c p w ⟨hW.get 2 rfl (.refl _), trivial⟩ ha) ?_
  rintro v L ⟨x0, rfl, q0, rfl⟩
  refine stop_call _ cl9 rfl rfl rfl rfl ⟨rfl, rfl⟩ (fun A w hW => toState_c s w ⟨hW.get 4 rfl (.refl _), trivial⟩ hb) ?_
  rintro v L ⟨x1, rfl, q1, rfl⟩
  refine stop_call _ cl10 rfl rfl rfl rfl ⟨rfl, rfl⟩ (fun A w hW => fmtState_c x0 x1 w ⟨hW.get 1 rfl (.O_R fun _ h => h), hW.get 0 rfl (.O_R fun _ h => h), trivial⟩ (by rw [q0]; exact ha) (by rw [q1]; exact hb)) ?_
  rintro v L ⟨t2, rfl, k1, k2, rfl⟩
  rw [q0, q1] at k1 k2
  obtain rfl : t2 = t1 := by
    by_cases ft : Fits p.pure s.pure
    · rw [j1 ft, k1 ft]
    · rw [j2 ft, k2 ft]
  refine stop_bin rfl rfl rfl ⟨rfl, rfl⟩ (.bool (t2 != t2)) (fun w => eqGuard_str w) (fun w => sne_run w) ?_
  refine CaseB.mk (fun g => by simp at g) (fun _ => ?_)
  refine draw_start tabOk (by kernel_rfl) (by kernel_rfl) (by kernel_rfl) 200 [((0, 0), .v (p.h0.val p.sems.length)), ((0, 1), .v (p.h1.val p.groups.length)), ((0, 2), .v (p.h2.val p.barriers.length)), ((0, 3), .v (p.h3.val p.rooms.length)), ((0, 4), .v (p.h4.val p.threads.length)), ((2, 0), .v (x0.h0.val x0.sems.length)), ((2, 1), .v (x0.h1.val x0.groups.length)), ((2, 2), .v (x0.h2.val x0.barriers.length)), ((2, 3), .v (x0.h3.val x0.rooms.length)), ((2, 4), .v (x0.h4.val x0.threads.length))] [0, 1, 4, 5] [_, _, _, _] ⟨⟨_, rfl, rfl, (by first | exact trivial | exact Nat.le_of_ble_eq_true rfl)⟩, ⟨_, rfl, rfl, (by first | exact trivial | exact Nat.le_of_ble_eq_true rfl)⟩, ⟨_, rfl, rfl, (by first | exact trivial | exact Nat.le_of_ble_eq_true rfl)⟩, ⟨_, rfl, rfl, (by first | exact trivial | exact Nat.le_of_ble_eq_true rfl)⟩, ⟨_, rfl, rfl, (by first | exact trivial | exact Nat.le_of_ble_eq_true rfl)⟩, ⟨_, rfl, rfl, (by first | exact trivial | exact Nat.le_of_ble_eq_true rfl)⟩, ⟨_, rfl, rfl, (by first | exact trivial | exact Nat.le_of_ble_eq_true rfl)⟩, ⟨_, rfl, rfl, (by first | exact trivial | exact Nat.le_of_ble_eq_true rfl)⟩, ⟨_, rfl, rfl, (by first | exact trivial | exact Nat.le_of_ble_eq_true rfl)⟩, ⟨_, rfl, rfl, (by first | exact trivial | exact Nat.le_of_ble_eq_true rfl)⟩, trivial⟩ ⟨⟨_, rfl⟩, ⟨_, rfl⟩, ⟨_, rfl⟩, ⟨_, rfl⟩, ⟨_, rfl⟩, ⟨_, rfl⟩, ⟨_, rfl⟩, ⟨_, rfl⟩, ⟨_, rfl⟩, ⟨_, rfl⟩, trivial⟩ ⟨rfl, rfl, rfl, rfl, trivial⟩ rfl ?_
  refine d_call _ cl8 rfl rfl rfl rfl ⟨rfl, rfl⟩ (fun A w hW => toProg_c p w ⟨hW.get 4 rfl (.refl _), trivial⟩ ha) ?_
  rintro v L ⟨z0, rfl, r0, rfl⟩
  refine d_call _ cl11 rfl rfl rfl rfl ⟨rfl, rfl⟩ (fun A w hW => eqProg_c x0 z0 w ⟨hW.get 2 rfl (.O_R fun _ h => h), hW.get 0 rfl (.O_R fun _ h => h), trivial⟩ (by rw [q0]; exact ha) (by rw [r0]; exact ha)) ?_
  rintro v L ⟨rfl, rfl⟩
  refine CaseB.mk (fun g => by simp [q0, r0] at g) (fun _ => ?_)
  refine draw_start tabOk (by kernel_rfl) (by kernel_rfl) (by kernel_rfl) 200 [((1, 0), .v (s.h0.val s.places.length)), ((1, 1), .v (s.h1.val s.status.length)), ((1, 2), .v (s.h2.val s.sems.length)), ((1, 3), .v (s.h3.val s.onces.length)), ((1, 4), .v (s.h4.val s.groups.length)), ((1, 5), .v (s.h5.val s.barriers.length)), ((1, 6), .v (s.h6.val s.chans.length)), ((1, 7), .v (s.h7.val s.said.length)), ((1, 8), .v (.int .i64 s.fault)), ((3, 0), .v (x1.h0.val x1.places.length)), ((3, 1), .v (x1.h1.val x1.status.length)), ((3, 2), .v (x1.h2.val x1.sems.length)), ((3, 3), .v (x1.h3.val x1.onces.length)), ((3, 4), .v (x1.h4.val x1.groups.length)), ((3, 5), .v (x1.h5.val x1.barriers.length)), ((3, 6), .v (x1.h6.val x1.chans.length)), ((3, 7), .v (x1.h7.val x1.said.length)), ((3, 8), .v (.int .i64 x1.fault))] [1, 6] [_, _] ⟨⟨_, rfl, rfl, (by first | exact trivial | exact Nat.le_of_ble_eq_true rfl)⟩, ⟨_, rfl, rfl, (by first | exact trivial | exact Nat.le_of_ble_eq_true rfl)⟩, ⟨_, rfl, rfl, (by first | exact trivial | exact Nat.le_of_ble_eq_true rfl)⟩, ⟨_, rfl, rfl, (by first | exact trivial | exact Nat.le_of_ble_eq_true rfl)⟩, ⟨_, rfl, rfl, (by first | exact trivial | exact Nat.le_of_ble_eq_true rfl)⟩, ⟨_, rfl, rfl, (by first | exact trivial | exact Nat.le_of_ble_eq_true rfl)⟩, ⟨_, rfl, rfl, (by first | exact trivial | exact Nat.le_of_ble_eq_true rfl)⟩, ⟨_, rfl, rfl, (by first | exact trivial | exact Nat.le_of_ble_eq_true rfl)⟩, ⟨_, rfl, rfl, (by first | exact trivial | exact Nat.le_of_ble_eq_true rfl)⟩, ⟨_, rfl, rfl, (by first | exact trivial | exact Nat.le_of_ble_eq_true rfl)⟩, ⟨_, rfl, rfl, (by first | exact trivial | exact Nat.le_of_ble_eq_true rfl)⟩, ⟨_, rfl, rfl, (by first | exact trivial | exact Nat.le_of_ble_eq_true rfl)⟩, ⟨_, rfl, rfl, (by first | exact trivial | exact Nat.le_of_ble_eq_true rfl)⟩, ⟨_, rfl, rfl, (by first | exact trivial | exact Nat.le_of_ble_eq_true rfl)⟩, ⟨_, rfl, rfl, (by first | exact trivial | exact Nat.le_of_ble_eq_true rfl)⟩, ⟨_, rfl, rfl, (by first | exact trivial | exact Nat.le_of_ble_eq_true rfl)⟩, ⟨_, rfl, rfl, (by first | exact trivial | exact Nat.le_of_ble_eq_true rfl)⟩, ⟨_, rfl, rfl, (by first | exact trivial | exact Nat.le_of_ble_eq_true rfl)⟩, trivial⟩ ⟨⟨_, rfl⟩, ⟨_, rfl⟩, ⟨_, rfl⟩, ⟨_, rfl⟩, ⟨_, rfl⟩, ⟨_, rfl⟩, ⟨_, rfl⟩, ⟨_, rfl⟩, ⟨_, rfl⟩, ⟨_, rfl⟩, ⟨_, rfl⟩, ⟨_, rfl⟩, ⟨_, rfl⟩, ⟨_, rfl⟩, ⟨_, rfl⟩, ⟨_, rfl⟩, ⟨_, rfl⟩, ⟨_, rfl⟩, trivial⟩ ⟨rfl, rfl, trivial⟩ rfl ?_
  refine d_call _ cl9 rfl rfl rfl rfl ⟨rfl, rfl⟩ (fun A w hW => toState_c s w ⟨hW.get 6 rfl (.refl _), trivial⟩ hb) ?_
  rintro v L ⟨z1, rfl, r1, rfl⟩
  refine d_call _ cl12 rfl rfl rfl rfl ⟨rfl, rfl⟩ (fun A w hW => eqState_c x1 z1 w ⟨hW.get 2 rfl (.O_R fun _ h => h), hW.get 0 rfl (.O_R fun _ h => h), trivial⟩ (by rw [q1]; exact hb) (by rw [r1]; exact hb)) ?_
  rintro v L ⟨rfl, rfl⟩
  refine CaseB.mk (fun g => by simp [q1, r1] at g) (fun _ => ?_)
  exact retw [] ⟨rfl, rfl⟩ trivial rfl trivial (fun _ => rfl)

end Go.Proofs.YtchkcjeeknfchaaGreatDoor

namespace Go.Sx

open Go Go.RowKit Go.ChangeShapes Go.WideShapes

theorem trodAll_below {H : Type} {enc : TypeId × Value → H} {P : Program} (hl : laidOutB P = true) {W W' : World} (hb : Below W.heap.size W W') (sp : Nat → Bool) : ∀ {ts : List TypeId} {vs : List Value} {ds : List (DataW H)} {ps : List MemPlace}, (∀ t ∈ ts, P.readableRec t = true ∧ t < P.types.size) →
    DataW.TrodAll enc P W 0 (fun _ => true) true ts vs ds ps → (∀ x ∈ ps, x.block < W.heap.size) → (∀ x ∈ ps, sp x.block = true) → DataW.TrodAll enc P W' 0 sp true ts vs ds ps
  | [], [], [], ps, _, h, _, _ => h
  | t :: ts, v :: vs, d :: ds, ps, hr, h, hlt, hsp => by
    obtain ⟨p, q, h1, h2, rfl⟩ := h
    have ht := hr t (by simp)
    exact ⟨p, q, WideElems.Trod_stays hl ht.1 ht.2 h1 (fun x hx => hb.same (hlt x (by simp [hx]))) (fun x hx => hsp x (by simp [hx])),
      trodAll_below hl hb sp (fun t ht => hr t (by simp [ht])) h2 (fun x hx => hlt x (by simp [hx])) (fun x hx => hsp x (by simp [hx])), rfl⟩
  | [], _ :: _, _, _, _, h, _, _ => h.elim
  | _ :: _, [], _, _, _, h, _, _ => h.elim
  | [], [], _ :: _, _, _, h, _, _ => h.elim
  | _ :: _, _ :: _, [], _, _, h, _, _ => h.elim

/-- A law that answers true and leaves old memory alone: what its row asks behind the call. -/
theorem law_post {H : Type} {enc : TypeId × Value → H} {P : Program} {f : Func} {s : ChangeSpec} {apart fresh handsOn again : Bool} {W W' : World} {args : Array Value} {ds gs : List (DataW H)} {before : List MemPlace} {tb : TypeId} {pl : List TypeId}
    (hl : laidOutB P = true) (hpl : f.params.toList = pl) (hp : pl.all (fun t => P.readableRec t && decide (t < P.types.size)) = true) (hvars : s.vars = []) (hres : f.resultTypes = #[tb]) (htb : P.underlying tb = some .bool)
    (hspec : s.fn H (ds ++ gs) = { results := [.lit (.bool true)], args := ds })
    (hW : DataW.Whole enc P f.params.toList s.vars apart W args.toList ds gs before) (hb : Below W.heap.size W W') :
    s.post enc P f apart fresh handsOn again W args (.bool true) W' := by
  have hold : ∀ p ∈ before, p.block < W.heap.size := fun p hp => by simpa using hW.lt p hp
  have hW0 := hW
  obtain ⟨pa, pv, hA, hV, hbef, hfz, hnd⟩ := hW
  have hbef' := hbef.symm; clear hbef
  rw [hvars] at hV
  obtain ⟨rfl, rfl⟩ := trodVars_none hV
  rw [List.append_nil] at hbef'
  subst hbef'
  rw [List.append_nil] at hspec
  have hp' : ∀ t ∈ f.params.toList, P.readableRec t = true ∧ t < P.types.size := fun t ht => by
    rw [hpl] at ht
    have := List.all_eq_true.1 hp t ht
    simpa using this
  have hB : ∀ (b : Nat) (sp : Nat → Bool) (hd : Bool), DataW.Trod enc P W' b sp hd tb (.bool true) (.lit (.bool true)) [] := fun b sp hd => ⟨1, by simp [DataW.trod, Value.cells, htb]⟩
  have hrl : (Value.bool true).resultList f.resultTypes.size = [.bool true] := by rw [hres]; rfl
  have hR : ∀ (b : Nat) (sp : Nat → Bool) (hd : Bool), DataW.TrodAll enc P W' b sp hd f.resultTypes.toList ((Value.bool true).resultList f.resultTypes.size) [.lit (.bool true)] [] := fun b sp hd => by
    rw [hrl, hres]; exact trodAll_mk1 (hB b sp hd)
  have hAr := fun sp h => trodAll_below hl hb sp hp' hA hold h
  have hvv : ∀ sp, DataW.TrodVars enc P W' sp s.vars ([] : List (DataW H)) [] := fun sp => by rw [hvars]; rfl
  refine ⟨ds, [], pa, [], pa, [], hW0, ?_, ?_, ?_, ?_, fun _ => ⟨?_, [.lit (.bool true)] ++ ds, [], [] ++ pa, ⟨[] ++ pa, [], trodAll_append (hAr _ (fun _ _ => rfl)) (hR _ _ _), hvv _, by simp, ?_, ?_⟩, fun p hp _ => by simpa using hp⟩⟩
  · simp only [List.append_nil, hspec]; exact hR _ _ _
  · simp only [List.append_nil, hspec]; exact hAr _ (fun p hp => by simpa using hold p hp)
  · simp only [List.append_nil, hspec]; exact hvv _
  · exact World.keptBut_mono (fun p hp => hp.elim) (hb.frame (fun _ => False))
  · intro j t r hj hv
    rw [hrl] at hv
    rw [hres] at hj
    cases j with
    | succ j => simp at hv
    | zero =>
      simp at hj hv
      subst hj; subst hv
      simp [Value.okWide, htb, Cell.okWide, Cell.ok]
  · intro b off hp
    rw [hb.frozen (hold _ (by simpa using hp))]
    exact hfz b off (by simpa using hp)
  · intro h
    simpa using hnd h

section

variable {H : Type} {enc : TypeId × Value → H} {P : Program} {W : World}

theorem cells_inv {α : Type} {el : α → List Value} {sz : Nat} (he : Enc el sz) (h0 : 0 < sz) {xs : List α} {j : Nat} {u : Value} (h : (cells el xs)[j]? = some u) : ∃ (k r : Nat) (hk : k < xs.length), j = k * sz + r ∧ (el xs[k])[r]? = some u := by
  have hlt : j < xs.length * sz := by rw [← cells_length he]; exact (List.getElem?_eq_some_iff.1 h).1
  have hk : j / sz < xs.length := Nat.div_lt_of_lt_mul (by rwa [Nat.mul_comm] at hlt)
  have hr : j % sz < sz := Nat.mod_lt _ h0
  have hj : j = j / sz * sz + j % sz := (Nat.div_add_mod' j sz).symm
  refine ⟨j / sz, j % sz, hk, hj, ?_⟩
  have hr' : j % sz < (el xs[j / sz]).length := by rw [he.len]; exact hr
  have := cells_at he hk (List.getElem?_eq_getElem hr')
  rw [← hj, h] at this
  rw [List.getElem?_eq_getElem hr', ← this]

/-- A slice opened: its elements read one by one. -/
theorem open_sl {α : Type} {el : α → List Value} {sz : Nat} (he : Enc el sz) (h0 : 0 < sz) {t e : TypeId} {fuel : Nat} {cs : List Value} {x : DataW H × List MemPlace} (ht : P.underlying t = some (.slice e)) (hc : P.cellsOf e = sz)
    (hel : ∀ n cs y, DataW.trod enc P W 0 (fun _ => true) true n e cs = some y → ∃ a : α, cs = el a)
    (h : DataW.trod enc P W 0 (fun _ => true) true fuel t cs = some x) :
    ∃ (i : Sl) (xs : List α), cs = [i.val xs.length] ∧ RdS W i sz (cells el xs) xs.length ∧ ∀ b, (fSl true i sz (cells el xs) xs.length).foot b → b < W.heap.size := by
  rcases Deep.open_slice ht h with ⟨rfl, rfl⟩ | ⟨a, len, cap, m, n, D, Pl, rfl, hb, hl, hm, hmm, rfl, hx⟩
  · exact ⟨⟨none, 0⟩, [], rfl, ⟨by simp [cells], by simp, by simp [maxLen], fun h => by simp at h⟩, fun b hb => by have := hb.1; simp at this⟩
  · rw [hc] at hx
    have hlm : len ≤ m := by rw [hmm]; simp; omega
    have hone : ∀ i, i < len → ∃ y : α, ∀ r u, (el y)[r]? = some u → W.cell? (a.add (i * sz + r)) = some u := fun i hi => by
      obtain ⟨cs', h1, h2⟩ := hx i (by omega)
      obtain ⟨y, rfl⟩ := hel _ _ _ h2
      obtain ⟨_, g1, g2⟩ := World.cells?_some h1
      refine ⟨y, fun r u hu => ?_⟩
      have hr : r < sz := by rw [← g1]; exact (List.getElem?_eq_some_iff.1 hu).1
      have := g2 r hr
      rw [addr_add_add, hu] at this
      exact this
    rcases Nat.eq_zero_or_pos len with hz | hz
    · subst hz
      exact ⟨⟨some a, cap⟩, [], rfl, ⟨by simp [cells], by simp, hm, fun h => by simp at h⟩, fun b hb => by have := hb.1; simp at this⟩
    · have : Inhabited α := ⟨(hone 0 hz).choose⟩
      obtain ⟨X, hX⟩ := Deep.choose_lt hone
      have hlen : ((List.range len).map X).length = len := by simp
      refine ⟨⟨some a, cap⟩, (List.range len).map X, by rw [hlen]; rfl, ⟨by rw [cells_length he], by rw [hlen]; exact hl, hm, fun _ => ⟨a, rfl, fun j u hu => ?_⟩⟩, ?_⟩
      · obtain ⟨k, r, hk, rfl, hu'⟩ := cells_inv he h0 hu
        have hk' : k < len := by simpa using hk
        exact hX k hk' r u (by simpa using hu')
      · rintro b ⟨_, ad, had, rfl⟩
        injection had with had
        subst had
        have hr : 0 < (el (X 0)).length := by rw [he.len]; exact h0
        have hc0 := hX 0 hz 0 _ (List.getElem?_eq_getElem hr)
        unfold World.cell? at hc0
        rw [block_add] at hc0
        cases hh : W.heap[a.block]? with
        | none => rw [hh] at hc0; simp at hc0
        | some o => exact (Array.getElem?_eq_some_iff.1 hh).1

/-- A struct opened: each field. -/
theorem trod_fields {t : TypeId} {sp : Nat → Bool} {hd : Bool} {b fuel sz : Nat} {cs : List Value} {x : DataW H × List MemPlace} {l : List (TypeId × Nat × Nat)} (hS : P.underlying t = some (.struct (P.fieldsOf t)))
    (hF : (P.fieldsOf t).toList.map (fun f => (f.type, f.offset, P.cellsOf f.type)) = l) (hsz : P.cellsOf t = sz) (h : DataW.trod enc P W b sp hd fuel t cs = some x) :
    cs.length = sz ∧ ∃ n, ∀ (j : Nat) (ty : TypeId) (off c : Nat), l[j]? = some (ty, off, c) → ∃ y, DataW.trod enc P W b sp hd n ty ((cs.drop off).take c) = some y := by
  obtain ⟨xs, n, _, _, hl, hn, hf⟩ := DataW.trod_struct hS h
  refine ⟨hl.trans hsz, n, fun j ty off c hj => ?_⟩
  rw [← hF, List.getElem?_map] at hj
  cases hfj : (P.fieldsOf t).toList[j]? with
  | none => rw [hfj] at hj; simp at hj
  | some f =>
    rw [hfj] at hj
    simp only [Option.map_some, Option.some.injEq, Prod.mk.injEq] at hj
    obtain ⟨rfl, rfl, rfl⟩ := hj
    have hfj' : (P.fieldsOf t)[j]? = some f := by simpa using hfj
    have := hf j f hfj'
    have hlt : j < xs.length := by rw [hn]; exact (Array.getElem?_eq_some_iff.1 hfj').1
    rw [List.getElem?_eq_getElem hlt] at this
    exact ⟨_, this⟩

end

end Go.Sx

namespace Go.Proofs.YtchkcjeeknfchaaGreatDoor

open Go Go.Sx Go.RowKit Go.ChangeShapes Go.WideShapes

theorem ownNone : ownKnob Tryz.prog.godebug = none := by kernel_rfl

theorem laidOut : laidOutB Tryz.prog = true := by kernel_rfl

theorem undBool : Tryz.prog.underlying 4 = some .bool := by kernel_rfl

end Go.Proofs.YtchkcjeeknfchaaGreatDoor
