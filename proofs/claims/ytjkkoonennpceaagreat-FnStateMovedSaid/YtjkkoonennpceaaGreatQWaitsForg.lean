/- FnWaitsFor: texts that its proof stands on, part 7. -/
import Derived.Test.YtjkkoonennpceaaGreatQWaitsForf
namespace Go.Proofs.YtjkkoonennpceaaGreat
open Go Go.Sx Go.RowKit
set_option maxHeartbeats 40000000 in
set_option maxRecDepth 100000 in
theorem stateFits_c (p : ProgH) (s : StateH) (w : World) (h : At w [fR (progO p), fR (stateO s)]) (hp : p.pure.small20) (hs : s.pure.small20) :
   Calls Tryz.prog 18 #[progV p, stateV s] w (Tells w (Fits p.pure s.pure)) := by
 obtain ⟨b0, b1, b2, b3, b4, b5, b6, b7⟩ := hs
 have mlen : ∀ {α β : Type} (f : α → β) (xs : List α), (xs.map f).length = xs.length := fun f xs => by simp
 have lt : p.pure.threads.length = p.threads.length := mlen _ _
 have l2 : s.pure.sems.length = s.sems.length := mlen _ _
 have l3 : s.pure.onces.length = s.onces.length := mlen _ _
 have l4 : s.pure.groups.length = s.groups.length := mlen _ _
 have l5 : s.pure.barriers.length = s.barriers.length := mlen _ _
 have l6 : s.pure.chans.length = s.chans.length := mlen _ _
 refine calls2 Tryz.func18 rfl tabOk w _ rfl _ rfl _ h ⟨rfl, rfl, rfl, rfl, trivial⟩ _ _ (by decide) ?_
 refine stop_call _ cl57 rfl rfl rfl rfl ⟨rfl, rfl⟩ (fun A w hW => progValid_c p w ⟨hW.get 0 rfl (.refl _), trivial⟩ ⟨hp.1, hp.2.1, hp.2.2.1, hp.2.2.2.1⟩) ?_
 rintro v L ⟨b, rfl, hb, rfl⟩
 apply CaseB.mk <;> intro g
 · exact ret0 ⟨_, rfl, tno fun e => (by rw [hb.2 e.prog] at g; cases g), rfl⟩ (fun _ => rfl)
 have ok : ProgOk p.pure := hb.1 z82
 apply CaseB.mk <;> intro g
 · have q : ¬ s.places.length = p.threads.length := by simp at g; omega
   exact ret0 ⟨_, rfl, tno fun e => q (by have := e.np; simpa [StateH.pure, ProgH.pure] using this), rfl⟩ (fun _ => rfl)
 have c0 : s.places.length = p.threads.length := by simp at g; omega
 apply CaseB.mk <;> intro g
 · have q : ¬ s.status.length = p.threads.length := by simp at g; omega
   exact ret0 ⟨_, rfl, tno fun e => q (by have := e.ns; simpa [StateH.pure, ProgH.pure] using this), rfl⟩ (fun _ => rfl)
 have c1 : s.status.length = p.threads.length := by simp at g; omega
 apply CaseB.mk <;> intro g
 · have q : ¬ s.sems.length = p.sems.length := by simp at g; omega
   exact ret0 ⟨_, rfl, tno fun e => q (by have := e.lsems; simpa [StateH.pure, ProgH.pure] using this), rfl⟩ (fun _ => rfl)
 have c2 : s.sems.length = p.sems.length := by simp at g; omega
 apply CaseB.mk <;> intro g
 · have q : ¬ s.groups.length = p.groups.length := by simp at g; omega
   exact ret0 ⟨_, rfl, tno fun e => q (by have := e.lgroups; simpa [StateH.pure, ProgH.pure] using this), rfl⟩ (fun _ => rfl)
 have c4 : s.groups.length = p.groups.length := by simp at g; omega
 apply CaseB.mk <;> intro g
 · have q : ¬ s.barriers.length = p.barriers.length := by simp at g; omega
   exact ret0 ⟨_, rfl, tno fun e => q (by have := e.lbarriers; simpa [StateH.pure, ProgH.pure] using this), rfl⟩ (fun _ => rfl)
 have c5 : s.barriers.length = p.barriers.length := by simp at g; omega
 apply CaseB.mk <;> intro g
 · have q : ¬ s.chans.length = p.rooms.length := by simp at g; omega
   exact ret0 ⟨_, rfl, tno fun e => q (by have := e.lchans; simpa [StateH.pure, ProgH.pure] using this), rfl⟩ (fun _ => rfl)
 have c6 : s.chans.length = p.rooms.length := by simp at g; omega
 apply CaseB.mk <;> intro g
 · have q : ¬ s.onces.length = 3 := by simp at g; omega
   exact ret0 ⟨_, rfl, tno fun e => q (by have := e.lonces; simpa [StateH.pure, ProgH.pure] using this), rfl⟩ (fun _ => rfl)
 have c3 : s.onces.length = 3 := by simp at g; omega
 apply CaseB.mk <;> intro g
 · have q : ¬ s.said.length ≤ 64 := by have g' := of_decide_eq_true g; omega
   exact ret0 ⟨_, rfl, tno fun e => q e.lsaid, rfl⟩ (fun _ => rfl)
 have c7 : s.said.length ≤ 64 := by have g' := of_decide_eq_false g; omega
 apply CaseB.mk <;> intro g
 · have q : ¬ 0 ≤ s.fault := by have g' := of_decide_eq_true g; omega
   exact ret0 ⟨_, rfl, tno fun e => q e.f0, rfl⟩ (fun _ => rfl)
 have c8 : 0 ≤ s.fault := by have g' := of_decide_eq_false g; omega
 apply CaseB.mk <;> intro g
 · have q : ¬ s.fault ≤ 4 := by have g' := of_decide_eq_true g; omega
   exact ret0 ⟨_, rfl, tno fun e => q e.f4, rfl⟩ (fun _ => rfl)
 have c9 : s.fault ≤ 4 := by have g' := of_decide_eq_false g; omega
 have n4 : p.threads.length ≤ 4 := by have := ok.n4; rwa [lt] at this
 have m0 : p.sems.length ≤ 3 := ok.sems.1
 have m1 : p.groups.length ≤ 3 := ok.groups.1
 have m2 : p.barriers.length ≤ 3 := ok.barriers.1
 have m3 : p.rooms.length ≤ 3 := ok.rooms.1
 refine LoopW.mk ⟨{ k : Nat // k ≤ s.sems.length ∧ ∀ (i : Nat) x, i < k → s.pure.sems[i]? = some x → SemOk x ∧ p.pure.sems[i]? = some x.limit },
   fun k => .mk [(2, .p 0 0), (3, .p 1 0), (106, .v (s.h2.val s.sems.length)), (107, .v (.int .i64 (s.sems.length : Int))), (108, .v (.int .i64 (k.1 : Int)))] 2 0 [(0, 37, 5), (1, 30, 9)] [((0, 0), .v (p.h0.val p.sems.length)), ((0, 1), .v (p.h1.val p.groups.length)), ((0, 2), .v (p.h2.val p.barriers.length)), ((0, 3), .v (p.h3.val p.rooms.length)), ((0, 4), .v (p.h4.val p.threads.length)), ((1, 0), .v (s.h0.val s.places.length)), ((1, 1), .v (s.h1.val s.status.length)), ((1, 2), .v (s.h2.val s.sems.length)), ((1, 3), .v (s.h3.val s.onces.length)), ((1, 4), .v (s.h4.val s.groups.length)), ((1, 5), .v (s.h5.val s.barriers.length)), ((1, 6), .v (s.h6.val s.chans.length)), ((1, 7), .v (s.h7.val s.said.length)), ((1, 8), .v (.int .i64 s.fault))] [fR (progO p), fR (stateO s)],
   fun k => s.sems.length - k.1, ⟨0, Nat.zero_le _, fun i x hi => by omega⟩, ?_, ?_⟩
 · exact weak_mk [0, 1] zw2 zw0 zw2 zw5 zw4 rfl rfl
 rintro ⟨k, hk, hinv⟩
 apply CaseB.mk <;> intro g
 · have hlt : k < s.sems.length := by simpa using g
   have hw := e_succ k _ hlt (by omega)
   have hat : s.pure.sems[k]? = some (s.sems[k]).m := by simp [StateH.pure, hlt]
   have hsm := (allS_map b2).2 _ (List.getElem_mem hlt)
   unfold Sem.small20 at hsm
   refine stop_idx encSemH tabOk rfl rfl rfl rfl rfl ⟨rfl, rfl⟩ (rdVia 1 rfl (.trans (.R_R (stateO_sems s)) (.ofR nest_h))) k rfl z34 (fun ad => ?_)
   refine draw_start tabOk z86 z86 z86 200 [((0, 0), .v (p.h0.val p.sems.length)), ((2, 0), .v (.int .i64 (s.sems[k]).m.free)), ((2, 1), .v (.int .i64 (s.sems[k]).m.limit)), ((2, 2), .v ((s.sems[k]).q.val (s.sems[k]).m.queue.length))] [0] [_] z95 z106 ⟨rfl, trivial⟩ rfl ?_
   refine d_call _ cl58 rfl rfl rfl rfl ⟨rfl, rfl⟩ (fun A w hW => semValid_c _ _ w ⟨hW.get 1 rfl (.trans (.R_R (stateO_sems s)) (.ofR (semsO_0 _ _ k hlt))), trivial⟩ (by omega)) ?_
   rintro v L ⟨bb, rfl, hbb, rfl⟩
   apply CaseB.mk <;> intro g
   · exact ret0 ⟨_, rfl, tno fun e => (by rw [hbb.2 ((e.sems k _ hat).1)] at g; cases g), rfl⟩ (fun _ => rfl)
   have q1 := hbb.1 z82
   have hlp : k < p.sems.length := by omega
   have hpat : p.pure.sems[k]? = some p.sems[k] := by simp [ProgH.pure, hlp]
   refine d_idx (ti := tiOf tab) encInt tabOk rfl rfl rfl rfl rfl ⟨rfl, rfl⟩ (rdVia 0 rfl (.ofR (progO_sems p))) k rfl z34 (fun ad2 => ?_)
   apply CaseB.mk <;> intro g
   · have q : ¬ (s.sems[k]).m.limit = p.sems[k] := by simpa using g
     exact ret0 ⟨_, rfl, tno fun e => q z45, rfl⟩ (fun _ => rfl)
   have q2 : (s.sems[k]).m.limit = p.sems[k] := by simpa using g
   refine ⟨⟨k + 1, by omega, fun i x hi hx => ?_⟩, ?_, by simp only; omega⟩
   · by_cases e : i < k
     · exact hinv i x e hx
     · obtain rfl : i = k := by omega
       rw [hat] at hx
       injection hx with hx
       subst hx
       exact ⟨q1, by rw [hpat, q2]⟩
   · exact weak_mk [0, 1] zw1 zw0 zw1 zw5 zw3 rfl rfl
 have hge : s.sems.length ≤ k := by simpa using g
 have vsems : ∀ (i : Nat) x, s.pure.sems[i]? = some x → SemOk x ∧ p.pure.sems[i]? = some x.limit := fun i x hx => hinv i x z64 hx
 refine LoopW.mk ⟨{ k : Nat // k ≤ s.groups.length ∧ ∀ (i : Nat) x, i < k → s.pure.groups[i]? = some x → GroupOk x },
   fun k => .mk [(2, .p 0 0), (3, .p 1 0), (128, .v (s.h4.val s.groups.length)), (129, .v (.int .i64 (s.groups.length : Int))), (130, .v (.int .i64 (k.1 : Int)))] 2 0 [(0, 37, 5), (1, 30, 9)] [((0, 0), .v (p.h0.val p.sems.length)), ((0, 1), .v (p.h1.val p.groups.length)), ((0, 2), .v (p.h2.val p.barriers.length)), ((0, 3), .v (p.h3.val p.rooms.length)), ((0, 4), .v (p.h4.val p.threads.length)), ((1, 0), .v (s.h0.val s.places.length)), ((1, 1), .v (s.h1.val s.status.length)), ((1, 2), .v (s.h2.val s.sems.length)), ((1, 3), .v (s.h3.val s.onces.length)), ((1, 4), .v (s.h4.val s.groups.length)), ((1, 5), .v (s.h5.val s.barriers.length)), ((1, 6), .v (s.h6.val s.chans.length)), ((1, 7), .v (s.h7.val s.said.length)), ((1, 8), .v (.int .i64 s.fault))] [fR (progO p), fR (stateO s)],
   fun k => s.groups.length - k.1, ⟨0, Nat.zero_le _, fun i x hi => by omega⟩, ?_, ?_⟩
 · exact weak_mk [0, 1] zw2 zw0 zw2 zw5 zw4 rfl rfl
 rintro ⟨k, hk, hinv⟩
 apply CaseB.mk <;> intro g
 · have hlt : k < s.groups.length := by simpa using g
   have hw := e_succ k _ hlt (by omega)
   have hat : s.pure.groups[k]? = some (s.groups[k]).m := by simp [StateH.pure, hlt]
   have hsm := (allS_map b4).2 _ (List.getElem_mem hlt)
   unfold Group.small20 at hsm
   refine stop_idx encGroupH tabOk rfl rfl rfl rfl rfl ⟨rfl, rfl⟩ (rdVia 1 rfl (.trans (.R_R (stateO_groups s)) (.ofR nest_h))) k rfl z34 (fun ad => ?_)
   refine stop_call _ cl59 rfl rfl rfl rfl ⟨rfl, rfl⟩ (fun A w hW => groupValid_c _ _ w ⟨hW.get 1 rfl (.trans (.R_R (stateO_groups s)) (.ofR (groupsO_0 _ _ k hlt))), trivial⟩ (by omega)) ?_
   rintro v L ⟨bb, rfl, hbb, rfl⟩
   apply CaseB.mk <;> intro g
   · exact ret0 ⟨_, rfl, tno fun e => (by rw [hbb.2 (e.groups _ (List.mem_of_getElem? hat))] at g; cases g), rfl⟩ (fun _ => rfl)
   have q1 := hbb.1 z82
   refine ⟨⟨k + 1, by omega, fun i x hi hx => ?_⟩, ?_, by simp only; omega⟩
   · by_cases e : i < k
     · exact hinv i x e hx
     · obtain rfl : i = k := by omega
       rw [hat] at hx
       injection hx with hx
       subst hx
       exact q1
   · exact weak_mk [0, 1] zw1 zw0 zw1 zw5 zw3 rfl rfl
 have hge : s.groups.length ≤ k := by simpa using g
 have vgroups : ∀ (i : Nat) x, s.pure.groups[i]? = some x → GroupOk x := fun i x hx => hinv i x z64 hx
 refine LoopW.mk ⟨{ k : Nat // k ≤ s.barriers.length ∧ ∀ (i : Nat) x, i < k → s.pure.barriers[i]? = some x → BarrierOk x ∧ p.pure.barriers[i]? = some x.parties },
   fun k => .mk [(2, .p 0 0), (3, .p 1 0), (139, .v (s.h5.val s.barriers.length)), (140, .v (.int .i64 (s.barriers.length : Int))), (141, .v (.int .i64 (k.1 : Int)))] 2 0 [(0, 37, 5), (1, 30, 9)] [((0, 0), .v (p.h0.val p.sems.length)), ((0, 1), .v (p.h1.val p.groups.length)), ((0, 2), .v (p.h2.val p.barriers.length)), ((0, 3), .v (p.h3.val p.rooms.length)), ((0, 4), .v (p.h4.val p.threads.length)), ((1, 0), .v (s.h0.val s.places.length)), ((1, 1), .v (s.h1.val s.status.length)), ((1, 2), .v (s.h2.val s.sems.length)), ((1, 3), .v (s.h3.val s.onces.length)), ((1, 4), .v (s.h4.val s.groups.length)), ((1, 5), .v (s.h5.val s.barriers.length)), ((1, 6), .v (s.h6.val s.chans.length)), ((1, 7), .v (s.h7.val s.said.length)), ((1, 8), .v (.int .i64 s.fault))] [fR (progO p), fR (stateO s)],
   fun k => s.barriers.length - k.1, ⟨0, Nat.zero_le _, fun i x hi => by omega⟩, ?_, ?_⟩
 · exact weak_mk [0, 1] zw2 zw0 zw2 zw5 zw4 rfl rfl
 rintro ⟨k, hk, hinv⟩
 apply CaseB.mk <;> intro g
 · have hlt : k < s.barriers.length := by simpa using g
   have hw := e_succ k _ hlt (by omega)
   have hat : s.pure.barriers[k]? = some (s.barriers[k]).m := by simp [StateH.pure, hlt]
   have hsm := (allS_map b5).2 _ (List.getElem_mem hlt)
   unfold Barrier.small20 at hsm
   refine stop_idx encBarrierH tabOk rfl rfl rfl rfl rfl ⟨rfl, rfl⟩ (rdVia 1 rfl (.trans (.R_R (stateO_barriers s)) (.ofR nest_h))) k rfl z34 (fun ad => ?_)
   refine draw_start tabOk z86 z86 z86 200 [((0, 2), .v (p.h2.val p.barriers.length)), ((2, 0), .v (.int .i64 (s.barriers[k]).m.parties)), ((2, 1), .v (.int .i64 (s.barriers[k]).m.round)), ((2, 2), .v ((s.barriers[k]).q.val (s.barriers[k]).m.waits.length))] [0] [_] z95 z106 ⟨rfl, trivial⟩ rfl ?_
   refine d_call _ cl60 rfl rfl rfl rfl ⟨rfl, rfl⟩ (fun A w hW => barrierValid_c _ _ w ⟨hW.get 1 rfl (.trans (.R_R (stateO_barriers s)) (.ofR (barriersO_0 _ _ k hlt))), trivial⟩ (by omega)) ?_
   rintro v L ⟨bb, rfl, hbb, rfl⟩
   apply CaseB.mk <;> intro g
   · exact ret0 ⟨_, rfl, tno fun e => (by rw [hbb.2 ((e.barriers k _ hat).1)] at g; cases g), rfl⟩ (fun _ => rfl)
   have q1 := hbb.1 z82
   have hlp : k < p.barriers.length := by omega
   have hpat : p.pure.barriers[k]? = some p.barriers[k] := by simp [ProgH.pure, hlp]
   refine d_idx (ti := tiOf tab) encInt tabOk rfl rfl rfl rfl rfl ⟨rfl, rfl⟩ (rdVia 0 rfl (.ofR (progO_barriers p))) k rfl z34 (fun ad2 => ?_)
   apply CaseB.mk <;> intro g
   · have q : ¬ (s.barriers[k]).m.parties = p.barriers[k] := by simpa using g
     exact ret0 ⟨_, rfl, tno fun e => q z42, rfl⟩ (fun _ => rfl)
   have q2 : (s.barriers[k]).m.parties = p.barriers[k] := by simpa using g
   refine ⟨⟨k + 1, by omega, fun i x hi hx => ?_⟩, ?_, by simp only; omega⟩
   · by_cases e : i < k
     · exact hinv i x e hx
     · obtain rfl : i = k := by omega
       rw [hat] at hx
       injection hx with hx
       subst hx
       exact ⟨q1, by rw [hpat, q2]⟩
   · exact weak_mk [0, 1] zw1 zw0 zw1 zw5 zw3 rfl rfl
 have hge : s.barriers.length ≤ k := by simpa using g
 have vbarriers : ∀ (i : Nat) x, s.pure.barriers[i]? = some x → BarrierOk x ∧ p.pure.barriers[i]? = some x.parties := fun i x hx => hinv i x z64 hx
 refine LoopW.mk ⟨{ k : Nat // k ≤ s.chans.length ∧ ∀ (i : Nat) x, i < k → s.pure.chans[i]? = some x → x.valid = true ∧ p.pure.rooms[i]? = some x.room },
   fun k => .mk [(2, .p 0 0), (3, .p 1 0), (161, .v (s.h6.val s.chans.length)), (162, .v (.int .i64 (s.chans.length : Int))), (163, .v (.int .i64 (k.1 : Int)))] 2 0 [(0, 37, 5), (1, 30, 9)] [((0, 0), .v (p.h0.val p.sems.length)), ((0, 1), .v (p.h1.val p.groups.length)), ((0, 2), .v (p.h2.val p.barriers.length)), ((0, 3), .v (p.h3.val p.rooms.length)), ((0, 4), .v (p.h4.val p.threads.length)), ((1, 0), .v (s.h0.val s.places.length)), ((1, 1), .v (s.h1.val s.status.length)), ((1, 2), .v (s.h2.val s.sems.length)), ((1, 3), .v (s.h3.val s.onces.length)), ((1, 4), .v (s.h4.val s.groups.length)), ((1, 5), .v (s.h5.val s.barriers.length)), ((1, 6), .v (s.h6.val s.chans.length)), ((1, 7), .v (s.h7.val s.said.length)), ((1, 8), .v (.int .i64 s.fault))] [fR (progO p), fR (stateO s)],
   fun k => s.chans.length - k.1, ⟨0, Nat.zero_le _, fun i x hi => by omega⟩, ?_, ?_⟩
 · exact weak_mk [0, 1] zw2 zw0 zw2 zw5 zw4 rfl rfl
 rintro ⟨k, hk, hinv⟩
 apply CaseB.mk <;> intro g
 · have hlt : k < s.chans.length := by simpa using g
   have hw := e_succ k _ hlt (by omega)
   have hat : s.pure.chans[k]? = some (s.chans[k]).m := by simp [StateH.pure, hlt]
   have hsm := (allS_map b6).2 _ (List.getElem_mem hlt)
   unfold Chan.small20 at hsm
   refine stop_idx encChanH tabOk rfl rfl rfl rfl rfl ⟨rfl, rfl⟩ (rdVia 1 rfl (.trans (.R_R (stateO_chans s)) (.ofR nest_h))) k rfl z34 (fun ad => ?_)
   refine draw_start tabOk z86 z86 z86 200 [((0, 3), .v (p.h3.val p.rooms.length)), ((2, 0), .v (.int .i64 (s.chans[k]).m.room)), ((2, 1), .v ((s.chans[k]).q0.val (s.chans[k]).m.items.length)), ((2, 2), .v ((s.chans[k]).q1.val (s.chans[k]).m.senders.length)), ((2, 3), .v ((s.chans[k]).q2.val (s.chans[k]).m.getters.length)), ((2, 4), .v (.bool (s.chans[k]).m.closed))] [0] [_] z91 z101 ⟨rfl, trivial⟩ rfl ?_
   refine d_call _ cl61 rfl rfl rfl rfl ⟨rfl, rfl⟩ (fun A w hW => valid_c _ _ _ _ w ⟨hW.get 1 rfl (.trans (.R_R (stateO_chans s)) (.ofR (chansO_0 _ _ k hlt))), hW.get 1 rfl (.trans (.R_R (stateO_chans s)) (.ofR (chansO_1 _ _ k hlt))), hW.get 1 rfl (.trans (.R_R (stateO_chans s)) (.ofR (chansO_2 _ _ k hlt))), trivial⟩ ⟨by omega, by omega, by omega⟩) ?_
   rintro v L ⟨rfl, rfl⟩
   apply CaseB.mk <;> intro g
   · exact ret0 ⟨_, rfl, tno fun e => (by rw [(e.chans k _ hat).1] at g; cases g), rfl⟩ (fun _ => rfl)
   have q1 : (s.chans[k]).m.valid = true := by simpa using g
   have hlp : k < p.rooms.length := by omega
   have hpat : p.pure.rooms[k]? = some p.rooms[k] := by simp [ProgH.pure, hlp]
   refine d_idx (ti := tiOf tab) encInt tabOk rfl rfl rfl rfl rfl ⟨rfl, rfl⟩ (rdVia 0 rfl (.ofR (progO_rooms p))) k rfl z34 (fun ad2 => ?_)
   apply CaseB.mk <;> intro g
   · have q : ¬ (s.chans[k]).m.room = p.rooms[k] := by simpa using g
     exact ret0 ⟨_, rfl, tno fun e => q z44, rfl⟩ (fun _ => rfl)
   have q2 : (s.chans[k]).m.room = p.rooms[k] := by simpa using g
   refine ⟨⟨k + 1, by omega, fun i x hi hx => ?_⟩, ?_, by simp only; omega⟩
   · by_cases e : i < k
     · exact hinv i x e hx
     · obtain rfl : i = k := by omega
       rw [hat] at hx
       injection hx with hx
       subst hx
       exact ⟨q1, by rw [hpat, q2]⟩
   · exact weak_mk [0, 1] zw1 zw0 zw1 zw5 zw3 rfl rfl
 have hge : s.chans.length ≤ k := by simpa using g
 have vchans : ∀ (i : Nat) x, s.pure.chans[i]? = some x → x.valid = true ∧ p.pure.rooms[i]? = some x.room := fun i x hx => hinv i x z64 hx
 refine LoopW.mk ⟨{ k : Nat // k ≤ s.onces.length ∧ ∀ (i : Nat) x, i < k → s.pure.onces[i]? = some x → OnceOk x },
   fun k => .mk [(2, .p 0 0), (3, .p 1 0), (183, .v (s.h3.val s.onces.length)), (184, .v (.int .i64 (s.onces.length : Int))), (185, .v (.int .i64 (k.1 : Int)))] 2 0 [(0, 37, 5), (1, 30, 9)] [((0, 0), .v (p.h0.val p.sems.length)), ((0, 1), .v (p.h1.val p.groups.length)), ((0, 2), .v (p.h2.val p.barriers.length)), ((0, 3), .v (p.h3.val p.rooms.length)), ((0, 4), .v (p.h4.val p.threads.length)), ((1, 0), .v (s.h0.val s.places.length)), ((1, 1), .v (s.h1.val s.status.length)), ((1, 2), .v (s.h2.val s.sems.length)), ((1, 3), .v (s.h3.val s.onces.length)), ((1, 4), .v (s.h4.val s.groups.length)), ((1, 5), .v (s.h5.val s.barriers.length)), ((1, 6), .v (s.h6.val s.chans.length)), ((1, 7), .v (s.h7.val s.said.length)), ((1, 8), .v (.int .i64 s.fault))] [fR (progO p), fR (stateO s)],
   fun k => s.onces.length - k.1, ⟨0, Nat.zero_le _, fun i x hi => by omega⟩, ?_, ?_⟩
 · exact weak_mk [0, 1] zw2 zw0 zw2 zw5 zw4 rfl rfl
 rintro ⟨k, hk, hinv⟩
 apply CaseB.mk <;> intro g
 · have hlt : k < s.onces.length := by simpa using g
   have hw := e_succ k _ hlt (by omega)
   have hat : s.pure.onces[k]? = some (s.onces[k]).m := by simp [StateH.pure, hlt]
   have hsm := (allS_map b3).2 _ (List.getElem_mem hlt)
   unfold Once.small20 at hsm
   refine stop_idx encOnceH tabOk rfl rfl rfl rfl rfl ⟨rfl, rfl⟩ (rdVia 1 rfl (.trans (.R_R (stateO_onces s)) (.ofR nest_h))) k rfl z34 (fun ad => ?_)
   refine stop_call _ cl62 rfl rfl rfl rfl ⟨rfl, rfl⟩ (fun A w hW => onceValid_c _ _ w ⟨hW.get 1 rfl (.trans (.R_R (stateO_onces s)) (.ofR (oncesO_0 _ _ k hlt))), trivial⟩ (by omega)) ?_
   rintro v L ⟨bb, rfl, hbb, rfl⟩
   apply CaseB.mk <;> intro g
   · exact ret0 ⟨_, rfl, tno fun e => (by rw [hbb.2 (e.onces _ (List.mem_of_getElem? hat))] at g; cases g), rfl⟩ (fun _ => rfl)
   have q1 := hbb.1 z82
   refine ⟨⟨k + 1, by omega, fun i x hi hx => ?_⟩, ?_, by simp only; omega⟩
   · by_cases e : i < k
     · exact hinv i x e hx
     · obtain rfl : i = k := by omega
       rw [hat] at hx
       injection hx with hx
       subst hx
       exact q1
   · exact weak_mk [0, 1] zw1 zw0 zw1 zw5 zw3 rfl rfl
 have hge : s.onces.length ≤ k := by simpa using g
 have vonces : ∀ (i : Nat) x, s.pure.onces[i]? = some x → OnceOk x := fun i x hx => hinv i x z64 hx
 refine LoopW.mk ⟨{ k : Nat // k ≤ s.said.length ∧ ∀ x ∈ s.said.take k, isValue x = true },
   fun k => .mk [(2, .p 0 0), (3, .p 1 0), (194, .v (s.h7.val s.said.length)), (195, .v (.int .i64 (s.said.length : Int))), (196, .v (.int .i64 (k.1 : Int)))] 2 0 [(0, 37, 5), (1, 30, 9)] [((0, 0), .v (p.h0.val p.sems.length)), ((0, 1), .v (p.h1.val p.groups.length)), ((0, 2), .v (p.h2.val p.barriers.length)), ((0, 3), .v (p.h3.val p.rooms.length)), ((0, 4), .v (p.h4.val p.threads.length)), ((1, 0), .v (s.h0.val s.places.length)), ((1, 1), .v (s.h1.val s.status.length)), ((1, 2), .v (s.h2.val s.sems.length)), ((1, 3), .v (s.h3.val s.onces.length)), ((1, 4), .v (s.h4.val s.groups.length)), ((1, 5), .v (s.h5.val s.barriers.length)), ((1, 6), .v (s.h6.val s.chans.length)), ((1, 7), .v (s.h7.val s.said.length)), ((1, 8), .v (.int .i64 s.fault))] [fR (progO p), fR (stateO s)],
   fun k => s.said.length - k.1, ⟨0, Nat.zero_le _, by simp⟩, ?_, ?_⟩
 · exact weak_mk [0, 1] zw2 zw0 zw2 zw5 zw4 rfl rfl
 rintro ⟨k, hk, hinv⟩
 apply CaseB.mk <;> intro g
 · have hlt : k < s.said.length := by simpa using g
   have hw := e_succ k _ hlt (by omega)
   refine stop_idx encInt tabOk rfl rfl rfl rfl rfl ⟨rfl, rfl⟩ (rdVia 1 rfl (.ofR (stateO_said s))) k rfl z34 (fun ad => ?_)
   refine stop_call _ cl63 rfl rfl rfl rfl ⟨rfl, rfl⟩ (fun A w hW => isValue_c _ w) ?_
   rintro v L ⟨rfl, rfl⟩
   apply CaseB.mk <;> intro g
   · exact ret0 ⟨_, rfl, tno fun e => (by rw [e.said _ (List.getElem_mem (l := s.said) hlt)] at g; cases g), rfl⟩ (fun _ => rfl)
   refine ⟨⟨k + 1, by omega, fun x hx => ?_⟩, ?_, by simp only; omega⟩
   · rw [List.take_succ_eq_append_getElem hlt] at hx
     rcases List.mem_append.1 hx with hx | hx
     · exact hinv x hx
     · simp at hx; subst hx; simpa using g
   · exact weak_mk [0, 1] zw1 zw0 zw1 zw5 zw3 rfl rfl
 have hge : s.said.length ≤ k := by simpa using g
 have vsaid : ∀ x ∈ s.said, isValue x = true := by rw [List.take_of_length_le hge] at hinv; exact hinv
 have hN : (events s.pure).length ≤ 1048576 := by
   have ge : ∀ {α : Type} {xs : List α} {Q : α → Prop}, (∀ (i : Nat) x, xs[i]? = some x → Q x) → ∀ x ∈ xs, Q x := fun h x hx => by
     obtain ⟨i, hi⟩ := List.getElem?_of_mem hx
     exact h i x hi
   have e1 := evL_len (f := evSem) (C := 6) (i := 0) (xs := s.pure.sems) fun i x hx => by
     have := (ge (Q := SemOk) (fun i x h => (vsems i x h).1) x hx).q6; simpa [evSem] using this
   have e2 := evL_len (f := evOnce) (C := 6) (i := 0) (xs := s.pure.onces) fun i x hx => by
     have := onceOk_len (ge vonces x hx); simpa [evOnce] using this
   have e3 := evL_len (f := evGroup) (C := 6) (i := 0) (xs := s.pure.groups) fun i x hx => by
     have := groupOk_len (ge vgroups x hx); simpa [evGroup] using this
   have e4 := evL_len (f := evBarrier) (C := 6) (i := 0) (xs := s.pure.barriers) fun i x hx => by
     have := barrierOk_len (ge (Q := BarrierOk) (fun i x h => (vbarriers i x h).1) x hx); simpa [evBarrier] using this
   have e5 := evL_len (f := evChan) (C := 6) (i := 0) (xs := s.pure.chans) fun i x hx => by
     have := chanOk_len (ge (Q := fun x => x.valid = true) (fun i x h => (vchans i x h).1) x hx); simpa [evChan] using this
   simp only [events, List.length_append]
   omega
 refine stop_call _ cl64 rfl rfl rfl rfl ⟨rfl, rfl⟩ (fun A w hW => waitingsOf_c s w ⟨hW.get 1 rfl (.refl _), trivial⟩ hN ⟨by omega, by omega, by omega, by omega, by omega⟩) ?_
 rintro v L ⟨r, r2, ps, os, rfl, hps, hos, rfl⟩
 have kps : keyed ps := keyed_pm.1 (by rw [hps]; exact mapOf_keyed _)
 have kos : keyed os := keyed_pm.1 (by rw [hos]; exact mapOf_keyed _)
 refine LoopW.mk ⟨{ q : Nat × List (Int × LH Waiting) × List (Int × LH Int) // q.1 ≤ p.threads.length ∧ Left ps q.2.1 q.1 ∧ Left os q.2.2 q.1 ∧ ∀ (t : Nat) ops at_ st, t < q.1 → p.pure.threads[t]? = some ops → s.pure.places[t]? = some at_ → s.pure.status[t]? = some st → ThreadOk ops at_ st (ofKey (events s.pure) t) (ofKey (owners s.pure) t) },
   fun q => .mk [(2, .p 0 0), (3, .p 1 0), (18, .v (.map (some r))), (19, .v (.map (some r2))), (210, .v (p.h4.val p.threads.length)), (211, .v (.int .i64 (p.threads.length : Int))), (212, .v (.int .i64 (q.1.1 : Int)))] 2 0 [(0, 37, 5), (1, 30, 9)] [((0, 0), .v (p.h0.val p.sems.length)), ((0, 1), .v (p.h1.val p.groups.length)), ((0, 2), .v (p.h2.val p.barriers.length)), ((0, 3), .v (p.h3.val p.rooms.length)), ((0, 4), .v (p.h4.val p.threads.length)), ((1, 0), .v (s.h0.val s.places.length)), ((1, 1), .v (s.h1.val s.status.length)), ((1, 2), .v (s.h2.val s.sems.length)), ((1, 3), .v (s.h3.val s.onces.length)), ((1, 4), .v (s.h4.val s.groups.length)), ((1, 5), .v (s.h5.val s.barriers.length)), ((1, 6), .v (s.h6.val s.chans.length)), ((1, 7), .v (s.h7.val s.said.length)), ((1, 8), .v (.int .i64 s.fault))] [fMW r q.1.2.1, fMap r2 venH q.1.2.2, fO (rW ps), fO (rI os), fR (progO p), fR (stateO s)],
   fun q => p.threads.length - q.1.1, ⟨(0, ps, os), Nat.zero_le _, Left.start kps, Left.start kos, fun t _ _ _ ht => by simp only at ht; omega⟩, ?_, ?_⟩
 · exact weak_mk [0, 2, 1, 3, 4, 5] zw2 zw0 zw2 zw5 zw4 rfl rfl
 rintro ⟨⟨k, qs, ts⟩, hk, lq, lo, hinv⟩
 simp only at hk lq lo hinv
 apply CaseB.mk <;> intro g
 rotate_left
 · have hge : k = p.threads.length := by have g' : ¬ (k : Int) < p.threads.length := by simpa using g
                                         omega
   subst hge
   have dq := lq.done hps
   have dn := lo.done hos
   have fin : (∀ e ∈ events s.pure, 0 ≤ e.1 ∧ e.1 < p.threads.length) → (∀ e ∈ owners s.pure, 0 ≤ e.1 ∧ e.1 < p.threads.length) → Fits p.pure s.pure := fun h1 h2 =>
     ⟨ok, by rw [lt]; exact c0, by rw [lt]; exact c1, by rw [l2]; exact c2, by rw [l4]; exact c4, by rw [l5]; exact c5, by rw [l6]; exact c6, by rw [l3]; exact c3, c7, c8, c9, vsems, fun x hx => by obtain ⟨i, hi⟩ := List.getElem?_of_mem hx; exact vgroups i x hi, vbarriers, vchans, fun x hx => by obtain ⟨i, hi⟩ := List.getElem?_of_mem hx; exact vonces i x hi, vsaid,
       fun t ops a st ht => hinv t ops a st (by have := (List.getElem?_eq_some_iff.1 ht).1; rw [lt] at this; exact this) ht, by rw [lt]; exact h1, by rw [lt]; exact h2⟩
   refine stop_lenM 0 (kt := 3) (et := 93) rfl rfl rfl rfl rfl rfl ⟨rfl, rfl⟩ z86 ?_
   apply CaseB.mk <;> intro g
   · have q0 : qs = [] := by simpa using g
     refine stop_lenM 1 (kt := 3) (et := 23) rfl rfl rfl rfl rfl rfl ⟨rfl, rfl⟩ z86 ?_
     refine ret0 ⟨_, rfl, ?_, rfl⟩ (fun _ => rfl)
     constructor
     · intro g2
       exact fin (dq.1 q0) (dn.1 z79)
     · intro e
       have := dn.2 (by rw [← lt]; exact e.ow)
       simp [this]
   · have q0 : ¬ qs = [] := by simpa using g
     exact ret0 ⟨_, rfl, tno fun e => q0 (dq.2 (by rw [← lt]; exact e.ev)), rfl⟩ (fun _ => rfl)
 have hlt : k < p.threads.length := by simpa using g
 have hw := e_succ k _ hlt (by omega)
 have hops : p.pure.threads[k]? = some (p.threads[k]).m := by simp [ProgH.pure, hlt]
 have hlp : k < s.places.length := by omega
 have hls : k < s.status.length := by omega
 have hpl : s.pure.places[k]? = some s.places[k] := List.getElem?_eq_getElem hlp
 have hst : s.pure.status[k]? = some s.status[k] := List.getElem?_eq_getElem hls
 have hth : Fits p.pure s.pure → ThreadOk (p.threads[k]).m s.places[k] s.status[k] (ofKey (events s.pure) k) (ofKey (owners s.pure) k) := fun e => e.threads k _ _ _ hops hpl hst
 obtain ⟨u, hu⟩ : ∃ u, u = (aget qs (k : Int)).getD LH.nil := ⟨_, rfl⟩
 obtain ⟨o, ho⟩ : ∃ o, o = (aget ts (k : Int)).getD LH.nil := ⟨_, rfl⟩
 have hux : u.xs = ofKey (events s.pure) k := by rw [hu]; exact lq.at hps
 have hox : o.xs = ofKey (owners s.pure) k := by rw [ho]; exact lo.at hos
 have hnext : ThreadOk (p.threads[k]).m s.places[k] s.status[k] u.xs o.xs → ∀ (t : Nat) ops at_ st, t < k + 1 → p.pure.threads[t]? = some ops → s.pure.places[t]? = some at_ → s.pure.status[t]? = some st → ThreadOk ops at_ st (ofKey (events s.pure) t) (ofKey (owners s.pure) t) := fun hok t ops a st ht h1 h2 h3 => by
   by_cases e : t < k
   · exact hinv t ops a st e h1 h2 h3
   · obtain rfl : t = k := by omega
     rw [hops] at h1; rw [hpl] at h2; rw [hst] at h3
     injection h1 with h1; injection h2 with h2; injection h3 with h3
     subst h1; subst h2; subst h3
     rw [← hux, ← hox]; exact hok
 rw [← hux, ← hox] at hth
 refine stop_idx encOpSH tabOk rfl rfl rfl rfl rfl ⟨rfl, rfl⟩ (rdVia 4 rfl (.trans (.R_R (progO_threads p)) (.ofR nest_h))) k rfl z34 (fun ad => ?_)
 refine stop_idx encInt tabOk rfl rfl rfl rfl rfl ⟨rfl, rfl⟩ (rdVia 5 rfl (.ofR (stateO_places s))) k rfl z34 (fun ad2 => ?_)
 apply CaseB.mk <;> intro g
 · have q : ¬ 0 ≤ s.places[k] := by have g' := of_decide_eq_true g; omega
   exact ret0 ⟨_, rfl, tno fun e => q (hth e).1, rfl⟩ (fun _ => rfl)
 have a0 : 0 ≤ s.places[k] := by have g' := of_decide_eq_false g; omega
 apply CaseB.mk <;> intro g
 · have q : ¬ s.places[k] ≤ (p.threads[k]).m.length := by have g' := of_decide_eq_true g; omega
   exact ret0 ⟨_, rfl, tno fun e => q (hth e).2.1, rfl⟩ (fun _ => rfl)
 have a1 : s.places[k] ≤ (p.threads[k]).m.length := by have g' := of_decide_eq_false g; omega
 refine draw_start tabOk z86 z86 z86 200 [] [2, 3, 5] [_, _, _] trivial trivial ⟨rfl, rfl, rfl, trivial⟩ rfl ?_
 refine BothW.mk ?_ ?_
 refine d_lookup 0 (qk := .i64) (kt := 3) (et := 93) (z := .slice none 0 0) rfl rfl rfl rfl ⟨rfl, rfl⟩ z86 z86 z86 (u.q.val u.xs.length) (by rw [hu]; cases aget qs (k : Int) <;> rfl) ?_
 refine d_lookup 1 (qk := .i64) (kt := 3) (et := 23) (z := .slice none 0 0) rfl rfl rfl rfl ⟨rfl, rfl⟩ z86 z86 z86 (o.q.val o.xs.length) (by rw [ho]; cases aget ts (k : Int) <;> rfl) ?_
 rotate_left
 refine d_lookup 1 (qk := .i64) (kt := 3) (et := 23) (z := .slice none 0 0) rfl rfl rfl rfl ⟨rfl, rfl⟩ z86 z86 z86 (o.q.val o.xs.length) (by rw [ho]; cases aget ts (k : Int) <;> rfl) ?_
 refine d_lookup 0 (qk := .i64) (kt := 3) (et := 93) (z := .slice none 0 0) rfl rfl rfl rfl ⟨rfl, rfl⟩ z86 z86 z86 (u.q.val u.xs.length) (by rw [hu]; cases aget qs (k : Int) <;> rfl) ?_
 all_goals
   refine stop_delete 0 (qk := .i64) (kt := 3) (et := 93) rfl rfl rfl rfl rfl rfl rfl rfl z86 z86 _ rfl ?_
   refine stop_delete 1 (qk := .i64) (kt := 3) (et := 23) rfl rfl rfl rfl rfl rfl rfl rfl z86 z86 _ rfl ?_
   have lq' := lq.next
   have lo' := lo.next
   apply CaseB.mk <;> intro g
   · have ae : s.places[k] = (p.threads[k]).m.length := by simpa using g
     have hne : ∀ {op : Op}, (p.threads[k]).m[(s.places[k]).toNat]? = some op → False := fun h => by
       have := (List.getElem?_eq_some_iff.1 h).1; omega
     have hfin : Fits p.pure s.pure → s.status[k] = 3 ∧ u.xs = [] ∧ o.xs = [] := fun e => by
       rcases (hth e).2.2 with h | ⟨op, h, _⟩
       · exact h.2
       · exact (hne h).elim
     refine stop_idx encInt tabOk rfl rfl rfl rfl rfl ⟨rfl, rfl⟩ (rdVia 5 rfl (.ofR (stateO_status s))) k rfl z34 (fun ad3 => ?_)
     apply CaseB.mk <;> intro g
     · have q : ¬ s.status[k] = 3 := by simpa using g
       exact ret0 ⟨_, rfl, tno fun e => q (hfin e).1, rfl⟩ (fun _ => rfl)
     have s3 : s.status[k] = 3 := by simpa using g
     apply CaseB.mk <;> intro g
     · have q : ¬ u.xs = [] := len_pos.1 g
       exact ret0 ⟨_, rfl, tno fun e => q (hfin e).2.1, rfl⟩ (fun _ => rfl)
     have ux : u.xs = [] := Classical.byContradiction fun n => by rw [len_pos.2 n] at g; cases g
     apply CaseB.mk <;> intro g
     · have q : ¬ o.xs = [] := len_pos.1 g
       exact ret0 ⟨_, rfl, tno fun e => q (hfin e).2.2, rfl⟩ (fun _ => rfl)
     have ox : o.xs = [] := Classical.byContradiction fun n => by rw [len_pos.2 n] at g; cases g
     refine ⟨⟨(k + 1, adel qs (k : Int), adel ts (k : Int)), by omega, lq', lo', hnext ⟨a0, a1, .inl ⟨ae, s3, ux, ox⟩⟩⟩, ?_, by simp only; omega⟩
     exact weak_mk [1, 0, 2, 3, 4, 5] zw1 zw0 zw1 zw5 zw3 rfl rfl
   have ane : ¬ s.places[k] = (p.threads[k]).m.length := by simpa using g
   have hlo : (s.places[k]).toNat < (p.threads[k]).m.length := by omega
   obtain ⟨op, hop⟩ : ∃ op, (p.threads[k]).m[(s.places[k]).toNat]? = some op := ⟨_, List.getElem?_eq_getElem hlo⟩
   have hopg : (p.threads[k]).m[(s.places[k]).toNat] = op := by rw [List.getElem?_eq_getElem hlo] at hop; injection hop
   have hfin : Fits p.pure s.pure → (s.status[k] = 0 ∧ u.xs = [] ∧ o.xs = []) ∨ (s.status[k] = 1 ∧ o.xs = [] ∧ u.xs = [want op]) ∨ (s.status[k] = 2 ∧ u.xs = [] ∧ op.kind = 4 ∧ o.xs = [op.on]) := fun e => by
     rcases (hth e).2.2 with h | ⟨op', h, h2⟩
     · exact (ane h.1).elim
     · rw [hop] at h; injection h with h; subst h; exact h2
   have hgood : (s.status[k] = 0 ∧ u.xs = [] ∧ o.xs = []) ∨ (s.status[k] = 1 ∧ o.xs = [] ∧ u.xs = [want op]) ∨ (s.status[k] = 2 ∧ u.xs = [] ∧ op.kind = 4 ∧ o.xs = [op.on]) → ThreadOk (p.threads[k]).m s.places[k] s.status[k] u.xs o.xs := fun h => ⟨a0, a1, .inr ⟨op, hop, h⟩⟩
   refine stop_idx encOp tabOk rfl rfl rfl rfl rfl ⟨rfl, rfl⟩ (rdVia 4 rfl (.trans (.R_R (progO_threads p)) (.ofR (threadsO_0 _ _ k hlt)))) (s.places[k]).toNat (by omega) z34 (fun ad3 => ?_)
   rw [hopg]
   refine stop_idx encInt tabOk rfl rfl rfl rfl rfl ⟨rfl, rfl⟩ (rdVia 5 rfl (.ofR (stateO_status s))) k rfl z34 (fun ad4 => ?_)
   refine CaseB.mk (fun g => ?_) (fun g0 => ?_)
   · have s0 : s.status[k] = 0 := by simpa using g
     have hf0 : Fits p.pure s.pure → u.xs = [] ∧ o.xs = [] := fun e => by
       rcases hfin e with h | h | h
       · exact h.2
       · rw [s0] at h; exact absurd h.1 (by decide)
       · rw [s0] at h; exact absurd h.1 (by decide)
     apply CaseB.mk <;> intro g
     · have q : ¬ u.xs = [] := len_pos.1 g
       exact ret0 ⟨_, rfl, tno fun e => q (hf0 e).1, rfl⟩ (fun _ => rfl)
     have ux : u.xs = [] := Classical.byContradiction fun n => by rw [len_pos.2 n] at g; cases g
     apply CaseB.mk <;> intro g
     · have q : ¬ o.xs = [] := len_pos.1 g
       exact ret0 ⟨_, rfl, tno fun e => q (hf0 e).2, rfl⟩ (fun _ => rfl)
     have ox : o.xs = [] := Classical.byContradiction fun n => by rw [len_pos.2 n] at g; cases g
     refine ⟨⟨(k + 1, adel qs (k : Int), adel ts (k : Int)), by omega, lq', lo', hnext (hgood (.inl ⟨s0, ux, ox⟩))⟩, ?_, by simp only; omega⟩
     exact weak_mk [1, 0, 2, 3, 4, 5] zw1 zw0 zw1 zw5 zw3 rfl rfl
   have n0 : ¬ s.status[k] = 0 := by simpa using g0
   refine CaseB.mk (fun g => ?_) (fun g1 => ?_)
   · have s1 : s.status[k] = 1 := by simpa using g
     have hf1 : Fits p.pure s.pure → o.xs = [] ∧ u.xs = [want op] := fun e => by
       rcases hfin e with h | h | h
       · rw [s1] at h; exact absurd h.1 (by decide)
       · exact h.2
       · rw [s1] at h; exact absurd h.1 (by decide)
     apply CaseB.mk <;> intro g
     · have hk2 : op.kind = 2 ∨ op.kind = 8 := .inl z82
       have hwant : want op = ⟨op.kind, op.on, op.arg⟩ := by simp only [want, if_pos hk2]
       refine draw_start tabOk z86 z86 z86 200 [((3, 0), .v (.int .i64 op.kind)), ((3, 1), .v (.int .i64 op.on)), ((3, 2), .v (.int .i64 op.arg))] [2] [_] z100 z111 ⟨rfl, trivial⟩ rfl ?_
       apply CaseB.mk <;> intro g
       · have q : ¬ o.xs = [] := len_pos.1 g
         exact ret0 ⟨_, rfl, tno fun e => q (hf1 e).1, rfl⟩ (fun _ => rfl)
       have ox : o.xs = [] := Classical.byContradiction fun n => by rw [len_pos.2 n] at g; cases g
       apply CaseB.mk <;> intro g
       · have q : ¬ u.xs.length = 1 := by simp at g; omega
         exact ret0 ⟨_, rfl, tno fun e => q (by rw [(hf1 e).2]; rfl), rfl⟩ (fun _ => rfl)
       have ul : u.xs.length = 1 := by simp at g; omega
       obtain ⟨u0, huu⟩ : ∃ u0, u.xs = [u0] := by
         match hx : u.xs, ul with
         | [x], _ => exact ⟨x, rfl⟩
       have hin : ((k : Int), u) ∈ ps := by
         refine lq.sub.subset (aget_in ?_)
         cases hq : aget qs (k : Int) with
         | none => rw [hq] at hu; rw [hu] at ul; simp [LH.nil] at ul
         | some z => rw [hq] at hu; rw [hu]; rfl
       refine d_idx (ti := tiOf tab) encWait tabOk rfl rfl rfl rfl rfl ⟨rfl, rfl⟩ (rdVia 0 rfl (.ofO (rows_in hin))) 0 rfl z34 (fun ad5 => ?_)
       have hg0 : ∀ h0, u.xs[0]'h0 = u0 := fun h0 => by simp [huu]
       rw [hg0]
       refine d_bin rfl rfl rfl ⟨rfl, rfl⟩ (.bool (decide (u0 ≠ (⟨op.kind, op.on, op.arg⟩ : Waiting)))) (fun w => (run_eqGuard_agg w _ _ _ _ _ _ z86)) (fun w => (neWait u0 ⟨op.kind, op.on, op.arg⟩ w)) ?_
       apply CaseB.mk <;> intro g
       · have q : ¬ u0 = (⟨op.kind, op.on, op.arg⟩ : Waiting) := by simpa using g
         exact ret0 ⟨_, rfl, tno fun e => q z59, rfl⟩ (fun _ => rfl)
       have ue : u0 = (⟨op.kind, op.on, op.arg⟩ : Waiting) := by simpa using g
       refine ⟨⟨(k + 1, adel qs (k : Int), adel ts (k : Int)), by omega, lq', lo', hnext (hgood (.inr (.inl ⟨s1, ox, by rw [huu, ue, hwant]⟩)))⟩, ?_, by simp only; omega⟩
       exact weak_mk [1, 0, 2, 3, 4, 5] zw1 zw0 zw1 zw5 zw3 rfl rfl
     · have hn2 : ¬ op.kind = 2 := by simpa using g
       apply CaseB.mk <;> intro g
       · have hk2 : op.kind = 2 ∨ op.kind = 8 := .inr z82
         have hwant : want op = ⟨op.kind, op.on, op.arg⟩ := by simp only [want, if_pos hk2]
         refine draw_start tabOk z86 z86 z86 200 [((3, 0), .v (.int .i64 op.kind)), ((3, 1), .v (.int .i64 op.on)), ((3, 2), .v (.int .i64 op.arg))] [2] [_] z100 z111 ⟨rfl, trivial⟩ rfl ?_
         apply CaseB.mk <;> intro g
         · have q : ¬ o.xs = [] := len_pos.1 g
           exact ret0 ⟨_, rfl, tno fun e => q (hf1 e).1, rfl⟩ (fun _ => rfl)
         have ox : o.xs = [] := Classical.byContradiction fun n => by rw [len_pos.2 n] at g; cases g
         apply CaseB.mk <;> intro g
         · have q : ¬ u.xs.length = 1 := by simp at g; omega
           exact ret0 ⟨_, rfl, tno fun e => q (by rw [(hf1 e).2]; rfl), rfl⟩ (fun _ => rfl)
         have ul : u.xs.length = 1 := by simp at g; omega
         obtain ⟨u0, huu⟩ : ∃ u0, u.xs = [u0] := by
           match hx : u.xs, ul with
           | [x], _ => exact ⟨x, rfl⟩
         have hin : ((k : Int), u) ∈ ps := by
           refine lq.sub.subset (aget_in ?_)
           cases hq : aget qs (k : Int) with
           | none => rw [hq] at hu; rw [hu] at ul; simp [LH.nil] at ul
           | some z => rw [hq] at hu; rw [hu]; rfl
         refine d_idx (ti := tiOf tab) encWait tabOk rfl rfl rfl rfl rfl ⟨rfl, rfl⟩ (rdVia 0 rfl (.ofO (rows_in hin))) 0 rfl z34 (fun ad5 => ?_)
         have hg0 : ∀ h0, u.xs[0]'h0 = u0 := fun h0 => by simp [huu]
         rw [hg0]
         refine d_bin rfl rfl rfl ⟨rfl, rfl⟩ (.bool (decide (u0 ≠ (⟨op.kind, op.on, op.arg⟩ : Waiting)))) (fun w => (run_eqGuard_agg w _ _ _ _ _ _ z86)) (fun w => (neWait u0 ⟨op.kind, op.on, op.arg⟩ w)) ?_
         apply CaseB.mk <;> intro g
         · have q : ¬ u0 = (⟨op.kind, op.on, op.arg⟩ : Waiting) := by simpa using g
           exact ret0 ⟨_, rfl, tno fun e => q z59, rfl⟩ (fun _ => rfl)
         have ue : u0 = (⟨op.kind, op.on, op.arg⟩ : Waiting) := by simpa using g
         refine ⟨⟨(k + 1, adel qs (k : Int), adel ts (k : Int)), by omega, lq', lo', hnext (hgood (.inr (.inl ⟨s1, ox, by rw [huu, ue, hwant]⟩)))⟩, ?_, by simp only; omega⟩
         exact weak_mk [1, 0, 2, 3, 4, 5] zw1 zw0 zw1 zw5 zw3 rfl rfl
       · have hn8 : ¬ op.kind = 8 := by simpa using g
         have hwant : want op = ⟨op.kind, op.on, 0⟩ := by simp only [want, if_neg (show ¬ (op.kind = 2 ∨ op.kind = 8) from fun h => h.elim hn2 hn8)]
         refine draw_start tabOk z86 z86 z86 200 [((3, 0), .v (.int .i64 op.kind)), ((3, 1), .v (.int .i64 op.on)), ((3, 2), .v (.int .i64 0))] [2] [_] z100 z111 ⟨rfl, trivial⟩ rfl ?_
         apply CaseB.mk <;> intro g
         · have q : ¬ o.xs = [] := len_pos.1 g
           exact ret0 ⟨_, rfl, tno fun e => q (hf1 e).1, rfl⟩ (fun _ => rfl)
         have ox : o.xs = [] := Classical.byContradiction fun n => by rw [len_pos.2 n] at g; cases g
         apply CaseB.mk <;> intro g
         · have q : ¬ u.xs.length = 1 := by simp at g; omega
           exact ret0 ⟨_, rfl, tno fun e => q (by rw [(hf1 e).2]; rfl), rfl⟩ (fun _ => rfl)
         have ul : u.xs.length = 1 := by simp at g; omega
         obtain ⟨u0, huu⟩ : ∃ u0, u.xs = [u0] := by
           match hx : u.xs, ul with
           | [x], _ => exact ⟨x, rfl⟩
         have hin : ((k : Int), u) ∈ ps := by
           refine lq.sub.subset (aget_in ?_)
           cases hq : aget qs (k : Int) with
           | none => rw [hq] at hu; rw [hu] at ul; simp [LH.nil] at ul
           | some z => rw [hq] at hu; rw [hu]; rfl
         refine d_idx (ti := tiOf tab) encWait tabOk rfl rfl rfl rfl rfl ⟨rfl, rfl⟩ (rdVia 0 rfl (.ofO (rows_in hin))) 0 rfl z34 (fun ad5 => ?_)
         have hg0 : ∀ h0, u.xs[0]'h0 = u0 := fun h0 => by simp [huu]
         rw [hg0]
         refine d_bin rfl rfl rfl ⟨rfl, rfl⟩ (.bool (decide (u0 ≠ (⟨op.kind, op.on, 0⟩ : Waiting)))) (fun w => (run_eqGuard_agg w _ _ _ _ _ _ z86)) (fun w => (neWait u0 ⟨op.kind, op.on, 0⟩ w)) ?_
         apply CaseB.mk <;> intro g
         · have q : ¬ u0 = (⟨op.kind, op.on, 0⟩ : Waiting) := by simpa using g
           exact ret0 ⟨_, rfl, tno fun e => q z59, rfl⟩ (fun _ => rfl)
         have ue : u0 = (⟨op.kind, op.on, 0⟩ : Waiting) := by simpa using g
         refine ⟨⟨(k + 1, adel qs (k : Int), adel ts (k : Int)), by omega, lq', lo', hnext (hgood (.inr (.inl ⟨s1, ox, by rw [huu, ue, hwant]⟩)))⟩, ?_, by simp only; omega⟩
         exact weak_mk [1, 0, 2, 3, 4, 5] zw1 zw0 zw1 zw5 zw3 rfl rfl
   have n1 : ¬ s.status[k] = 1 := by simpa using g1
   refine CaseB.mk (fun g => ?_) (fun g2 => ?_)
   · have s2 : s.status[k] = 2 := by simpa using g
     have hf2 : Fits p.pure s.pure → u.xs = [] ∧ op.kind = 4 ∧ o.xs = [op.on] := fun e => by
       rcases hfin e with h | h | h
       · rw [s2] at h; exact absurd h.1 (by decide)
       · rw [s2] at h; exact absurd h.1 (by decide)
       · exact h.2
     refine draw_start tabOk z86 z86 z86 200 [((2, 0), .v (.int .i64 op.kind)), ((2, 1), .v (.int .i64 op.on))] [3] [_] z105 z114 ⟨rfl, trivial⟩ rfl ?_
     apply CaseB.mk <;> intro g
     · have q : ¬ u.xs = [] := len_pos.1 g
       exact ret0 ⟨_, rfl, tno fun e => q (hf2 e).1, rfl⟩ (fun _ => rfl)
     have ux : u.xs = [] := Classical.byContradiction fun n => by rw [len_pos.2 n] at g; cases g
     apply CaseB.mk <;> intro g
     · have q : ¬ op.kind = 4 := by simpa using g
       exact ret0 ⟨_, rfl, tno fun e => q (hf2 e).2.1, rfl⟩ (fun _ => rfl)
     have k4 : op.kind = 4 := by simpa using g
     apply CaseB.mk <;> intro g
     · have q : ¬ o.xs.length = 1 := by simp at g; omega
       exact ret0 ⟨_, rfl, tno fun e => q (by rw [(hf2 e).2.2]; rfl), rfl⟩ (fun _ => rfl)
     have ol : o.xs.length = 1 := by simp at g; omega
     obtain ⟨o0, hoo⟩ : ∃ o0, o.xs = [o0] := by
       match hx : o.xs, ol with
       | [x], _ => exact ⟨x, rfl⟩
     have hin : ((k : Int), o) ∈ os := by
       refine lo.sub.subset (aget_in ?_)
       cases hq : aget ts (k : Int) with
       | none => rw [hq] at ho; rw [ho] at ol; simp [LH.nil] at ol
       | some z => rw [hq] at ho; rw [ho]; rfl
     refine d_idx (ti := tiOf tab) encInt tabOk rfl rfl rfl rfl rfl ⟨rfl, rfl⟩ (rdVia 0 rfl (.ofO (rows_in hin))) 0 rfl z34 (fun ad5 => ?_)
     have hg0 : ∀ h0, o.xs[0]'h0 = o0 := fun h0 => by simp [hoo]
     rw [hg0]
     apply CaseB.mk <;> intro g
     · have q : ¬ o0 = op.on := by simpa using g
       exact ret0 ⟨_, rfl, tno fun e => q (by have := (hf2 e).2.2; rw [hoo] at this; injection this), rfl⟩ (fun _ => rfl)
     have oe : o0 = op.on := by simpa using g
     refine ⟨⟨(k + 1, adel qs (k : Int), adel ts (k : Int)), by omega, lq', lo', hnext (hgood (.inr (.inr ⟨s2, ux, k4, by rw [hoo, oe]⟩)))⟩, ?_, by simp only; omega⟩
     exact weak_mk [1, 0, 2, 3, 4, 5] zw1 zw0 zw1 zw5 zw3 rfl rfl
   have n2 : ¬ s.status[k] = 2 := by simpa using g2
   exact ret0 ⟨_, rfl, tno fun e => (by rcases hfin e with h | h | h; exact n0 h.1; exact n1 h.1; exact n2 h.1), rfl⟩ (fun _ => rfl)
def evReady (i : Nat) (x : Int) : List Int := if x = 0 ∨ x = 2 then [(i : Int)] else []
def readyM (s : State) : List Int := if s.fault = 0 then evL evReady 0 s.status else []
theorem readyL_len (xs : List Int) : (evL evReady 0 xs).length ≤ xs.length := by
 have := evL_len (f := evReady) (C := 1) (i := 0) (xs := xs) fun i x _ => by unfold evReady; split <;> simp
 omega
set_option maxHeartbeats 4000000 in
set_option maxRecDepth 100000 in
theorem ready_c (s : StateH) (w : World) (h : At w [fR (stateO s)]) (hb : s.status.length ≤ 1048576) :
   Calls Tryz.prog 72 #[stateV s] w (Ret w fun v L => ∃ y : Sl, v = y.val (readyM s.pure).length ∧ L = [own y 3 cInt 1 (readyM s.pure)]) := by
 refine calls1 Tryz.func72 rfl tabOk w _ rfl _ rfl _ h ⟨rfl, rfl, trivial⟩ _ (by decide) ?_
 apply CaseB.mk <;> intro g
 · have n : ¬ s.fault = 0 := by simpa using g
   have e : readyM s.pure = [] := if_neg n
   rw [e]
   exact retw [90] ⟨⟨none, 0⟩, rfl, rfl⟩ z102 rfl ⟨rfl, trivial⟩ (fun _ => rfl)
 have f0 : s.fault = 0 := by simpa using g
 have e : readyM s.pure = evL evReady 0 s.status := if_pos f0
 rw [e]
 refine LoopW.mk ⟨{ q : Nat × Sl × List Int // q.1 ≤ s.status.length ∧ q.2.2 = evL evReady 0 (s.status.take q.1) },
   fun q => .mk [(1, .p 0 0), (3, .v (q.1.2.1.val q.1.2.2.length)), (10, .v (s.h1.val s.status.length)), (11, .v (.int .i64 (s.status.length : Int))), (12, .v (.int .i64 (q.1.1 : Int)))] 1 0 [(0, 30, 9)] [((0, 0), .v (s.h0.val s.places.length))] [own q.1.2.1 3 cInt 1 q.1.2.2, fR (stateO s)],
   fun q => s.status.length - q.1.1, ⟨(0, ⟨none, 0⟩, []), Nat.zero_le _, rfl⟩, ?_, ?_⟩
 · exact weak_mk [90, 0] zw2 zw0 zw2 zw5 zw4 rfl rfl
 rintro ⟨⟨k, y, xs⟩, hk, hx⟩
 simp only at hk hx
 apply CaseB.mk <;> intro g
 · have hlt : k < s.status.length := by simpa using g
   have hw := e_succ k _ hlt (by omega)
   have hsucc := evL_succ evReady s.status hlt
   have hl : xs.length ≤ 1048576 := by have := readyL_len (s.status.take k); rw [← hx] at this; simp at this; omega
   refine stop_idx encInt tabOk rfl rfl rfl rfl rfl ⟨rfl, rfl⟩ (rdVia 1 rfl (.ofR (stateO_status s))) k rfl z34 (fun ad => ?_)
   refine CaseB.mk (fun g => ?_) (fun g0 => ?_)
   · have c : s.status[k] = 0 ∨ s.status[k] = 2 := .inl z82
     refine AllSl.mk fun b => ?_
     refine stop_app encInt 1 tabOk (ys := [(k : Int)]) rfl rfl rfl rfl rfl rfl rfl rfl rfl (by decide) ⟨rfl, rfl⟩ rfl z28 z34 z34 (fun z => ?_)
     refine ⟨⟨(k + 1, z, xs ++ [(k : Int)]), by omega, by simp only [hsucc, evReady, if_pos c, hx]⟩, ?_, by simp only; omega⟩
     exact weak_mk [0, 2] zw1 zw0 zw1 zw5 zw3 rfl rfl
   have n0 : ¬ s.status[k] = 0 := by simpa using g0
   apply CaseB.mk <;> intro g
   · have c : s.status[k] = 0 ∨ s.status[k] = 2 := .inr z82
     refine AllSl.mk fun b => ?_
     refine stop_app encInt 1 tabOk (ys := [(k : Int)]) rfl rfl rfl rfl rfl rfl rfl rfl rfl (by decide) ⟨rfl, rfl⟩ rfl z28 z34 z34 (fun z => ?_)
     refine ⟨⟨(k + 1, z, xs ++ [(k : Int)]), by omega, by simp only [hsucc, evReady, if_pos c, hx]⟩, ?_, by simp only; omega⟩
     exact weak_mk [0, 2] zw1 zw0 zw1 zw5 zw3 rfl rfl
   have n2 : ¬ s.status[k] = 2 := by simpa using g
   refine ⟨⟨(k + 1, y, xs), by omega, by simp only [hsucc, evReady, if_neg (show ¬ (s.status[k] = 0 ∨ s.status[k] = 2) from fun h => h.elim n0 n2), hx, List.append_nil]⟩, ?_, by simp only; omega⟩
   exact weak_mk [0, 1] zw1 zw0 zw1 zw5 zw3 rfl rfl
 have hge : s.status.length ≤ k := by simpa using g
 rw [List.take_of_length_le hge] at hx
 subst hx
 exact retw [0] ⟨y, rfl, rfl⟩ z115 rfl ⟨rfl, trivial⟩ (fun _ => rfl)
set_option maxRecDepth 100000 in
theorem allDone1_c (x : Int) (w : World) : Calls Tryz.prog 122 #[.int .i64 x] w (Ret w fun v L => v = .bool (decide (x ≠ 3)) ∧ L = []) := by
 refine calls1 Tryz.func122 rfl tabOk w _ rfl _ rfl [] trivial trivial _ (by decide) ?_
 exact ret0 ⟨congrArg Value.bool (show (x != 3) = decide (x ≠ 3) by by_cases h : x = 3 <;> simp [h]), rfl⟩ (fun _ => rfl)
set_option maxRecDepth 100000 in
theorem allDone_c (s : StateH) (w : World) (h : At w [fR (stateO s)]) (hb : s.status.length ≤ 1048576) :
   Calls Tryz.prog 73 #[stateV s] w (Tells w (∀ x ∈ s.status, x = 3)) := by
 refine calls1 Tryz.func73 rfl tabOk w _ rfl _ rfl _ h ⟨rfl, rfl, trivial⟩ _ (by decide) ?_
 refine stop_call _ cl121 rfl rfl rfl rfl ⟨rfl, rfl⟩ (fun A w hW => containsFunc_c (fv := 122) (cap := #[]) (q := fun x => decide (x ≠ 3)) (G := []) cl122 (fun x w h => allDone1_c x w) s.h1 s.status w ⟨hW.get 0 rfl (.ofR (stateO_status s)), fB_of (fun g hg => by cases hg), trivial⟩ (by omega)) ?_
 rintro v L ⟨b, rfl, hbb, rfl⟩
 refine ret0 ⟨_, rfl, ?_, rfl⟩ (fun _ => rfl)
 cases b with
 | true =>
   obtain ⟨x, hx, hne⟩ := hbb.1 rfl
   exact ⟨fun e => (by cases e), fun e => absurd (e x hx) (by simpa using hne)⟩
 | false =>
   refine ⟨fun _ x hx => Classical.byContradiction fun n => ?_, fun _ => rfl⟩
   have := hbb.2 ⟨x, hx, by simpa using n⟩
   cases this
def Chan.zero : Chan := ⟨0, [], [], [], false⟩
def Chan.send (m : Chan) (t v : Int) : Chan × List Int × Bool × Bool :=
 if m.Valid ∧ m.closed = false ∧ isThread t = true ∧ isValue v = true ∧ ¬ t ∈ m.threads then
   if h : 0 < m.getters.length then ({ m with getters := m.getters.drop 1 }, [m.getters[0]], true, true)
   else if (m.items.length : Int) < m.room then ({ m with items := m.items ++ [v] }, [], true, true)
   else ({ m with senders := m.senders ++ [⟨t, v⟩] }, [], false, true)
 else (.zero, [], false, false)
def nilS : Sl := ⟨none, 0⟩
def SendR (p : Chan × List Int × Bool × Bool) (v : Value) (L : List Fct) : Prop :=
 ∃ i s g r : Sl, v = .tuple #[chanV p.1 i s g, r.val p.2.1.length, .bool p.2.2.1, .bool p.2.2.2] ∧ L = [own i 3 cInt 1 p.1.items, own s 144 cLet 2 p.1.senders, own g 3 cInt 1 p.1.getters, own r 3 cInt 1 p.2.1]
theorem valid_t {m : Chan} (h : (!m.valid) = false) : m.Valid := by simpa [Chan.valid] using h
theorem valid_f {m : Chan} (h : (!m.valid) = true) : ¬ m.Valid := by simpa [Chan.valid] using h
set_option maxHeartbeats 2000000 in
set_option maxRecDepth 100000 in
theorem sendS_c (m : Chan) (i s g : Sl) (t u : Int) (w : World) (h : At w [slo i cInt 1 m.items, slo s cLet 2 m.senders, slo g cInt 1 m.getters]) (hb : m.small) :
   Calls Tryz.prog 168 #[chanV m i s g, .int .i64 t, .int .i64 u] w (Ret w (SendR (m.send t u))) := by
 obtain ⟨b1, b2, b3⟩ := hb
 generalize hp : m.send t u = p
 have hno : ¬ (m.Valid ∧ m.closed = false ∧ isThread t = true ∧ isValue u = true ∧ ¬ t ∈ m.threads) → p = (.zero, [], false, false) := fun h => by rw [← hp, Chan.send, if_neg h]
 refine calls3 Tryz.func168 rfl tabOk w _ rfl _ rfl _ h z110 _ _ _ (by decide) ?_
 refine stop_call _ cl117 rfl rfl rfl rfl ⟨rfl, rfl⟩ (fun A w hW => validS_c m i s g w ⟨z27, z27, z27, trivial⟩ ⟨b1, b2, b3⟩) ?_
 rintro v L ⟨rfl, rfl⟩
 refine CaseB.mk (fun h1 => ?_) (fun h1 => ?_)
 · obtain rfl := hno (fun h => valid_f h1 h.1)
   refine AllSl.mk fun r => ?_
   exact retw [97, 98, 99, 0] ⟨nilS, nilS, nilS, r, rfl, rfl⟩ z89 rfl ⟨rfl, rfl, rfl, rfl, trivial⟩ (fun _ => rfl)
 have h7 := distinct_len (valid_t h1).di
 refine CaseB.mk (fun h4 => ?_) (fun h4 => ?_)
 · obtain rfl := hno (fun h => by rw [h.2.1] at h4; cases h4)
   refine AllSl.mk fun r => ?_
   exact retw [97, 98, 99, 0] ⟨nilS, nilS, nilS, r, rfl, rfl⟩ z89 rfl ⟨rfl, rfl, rfl, rfl, trivial⟩ (fun _ => rfl)
 refine stop_call _ cl157 rfl rfl rfl rfl ⟨rfl, rfl⟩ (fun A w hW => l1Thread_c _ w) ?_
 rintro v L ⟨rfl, rfl⟩
 refine CaseB.mk (fun h2 => ?_) (fun h2 => ?_)
 · obtain rfl := hno (fun h => by rw [h.2.2.1] at h2; cases h2)
   refine AllSl.mk fun r => ?_
   exact retw [97, 98, 99, 0] ⟨nilS, nilS, nilS, r, rfl, rfl⟩ z89 rfl ⟨rfl, rfl, rfl, rfl, trivial⟩ (fun _ => rfl)
 refine stop_call _ cl67 rfl rfl rfl rfl ⟨rfl, rfl⟩ (fun A w hW => l2Value_c _ w) ?_
 rintro v L ⟨rfl, rfl⟩
 refine CaseB.mk (fun h5 => ?_) (fun h5 => ?_)
 · obtain rfl := hno (fun h => by rw [h.2.2.2.1] at h5; cases h5)
   refine AllSl.mk fun r => ?_
   exact retw [97, 98, 99, 0] ⟨nilS, nilS, nilS, r, rfl, rfl⟩ z89 rfl ⟨rfl, rfl, rfl, rfl, trivial⟩ (fun _ => rfl)
 refine stop_call _ cl175 rfl rfl rfl rfl ⟨rfl, rfl⟩ (fun A w hW => l5Waits_c m i s g t w ⟨z27, z27, z27, trivial⟩ ⟨b1, b2, b3⟩ (by simp [Chan.threads] at h7; omega)) ?_
 rintro v L ⟨rfl, rfl⟩
 refine CaseB.mk (fun h3 => ?_) (fun h3 => ?_)
 · obtain rfl := hno (fun h => h.2.2.2.2 (by simpa using h3))
   refine AllSl.mk fun r => ?_
   exact retw [97, 98, 99, 0] ⟨nilS, nilS, nilS, r, rfl, rfl⟩ z89 rfl ⟨rfl, rfl, rfl, rfl, trivial⟩ (fun _ => rfl)
 have hok : m.Valid ∧ m.closed = false ∧ isThread t = true ∧ isValue u = true ∧ ¬ t ∈ m.threads := ⟨valid_t h1, h4, by simpa using h2, by simpa using h5, by simpa using h3⟩
 rw [Chan.send, if_pos hok] at hp
 refine stop_call _ cl145 rfl rfl rfl rfl ⟨rfl, rfl⟩ (fun A w hW => copy_c m i s g w ⟨z27, z27, z27, trivial⟩ ⟨b1, b2, b3⟩) ?_
 rintro v L ⟨i1, s1, g1, rfl, rfl⟩
 refine CaseB.mk (fun h6 => ?_) (fun h6 => ?_)
 · have hg : 0 < m.getters.length := by simpa using h6
   rw [dif_pos hg] at hp
   subst hp
   refine AllSl.mk fun y0 => ?_
   refine stop_cut tabOk rfl rfl rfl rfl ⟨rfl, rfl⟩ rfl rfl z28 (1) (m.getters.length) ((m.getters.drop 1)).length rfl rfl z34 z34 z34 ?_
   refine stop_appK encInt tabOk (xs := []) rfl rfl rfl rfl rfl rfl rfl rfl rfl (by decide) ⟨rfl, rfl⟩ z32 (rdDrop encInt 1 (by omega) (rdAt 6 rfl)) z34 z34 (fun g2 => ?_)
   refine draw_start tabOk z86 z86 z86 200 [((2, 0), .v (.int .i64 m.room)), ((2, 1), .v (i1.val m.items.length)), ((2, 2), .v (s1.val m.senders.length)), ((2, 3), .v (g2.val (m.getters.drop 1).length)), ((2, 4), .v (.bool m.closed)), ((0, 3), .v (g.val m.getters.length))] [0, 1, 2, 3, 4, 5, 6] [_, _, _, _, _, _, _] z91 z101 ⟨rfl, rfl, rfl, rfl, rfl, rfl, rfl, trivial⟩ rfl ?_
   refine d_idx (ti := tiOf tab) encInt tabOk rfl rfl rfl rfl rfl ⟨rfl, rfl⟩ z28 0 rfl z34 (fun ad => ?_)
   repeat' ((conv => whnf); (first
     | refine BothW.mk ?_ ?_
     | refine AllSl.mk fun y => ?_
     | fail))
   all_goals
     exact retw [2, 3, 1, 0] ⟨i1, s1, g2, _, rfl, rfl⟩ z96 rfl ⟨rfl, rfl, rfl, rfl, trivial⟩ (fun _ => rfl)
 have hg : ¬ 0 < m.getters.length := by simpa using h6
 rw [dif_neg hg] at hp
 refine CaseB.mk (fun h7 => ?_) (fun h7 => ?_)
 · have hi : (m.items.length : Int) < m.room := by simpa using h7
   rw [if_pos hi] at hp
   subst hp
   refine AllSl.mk fun r => ?_
   refine stop_appK encInt tabOk (ys := [u]) rfl rfl rfl rfl rfl rfl rfl rfl rfl (by decide) ⟨rfl, rfl⟩ z32 z28 z34 z34 (fun i2 => ?_)
   refine AllSl.mk fun r => ?_
   exact retw [1, 3, 4, 0] ⟨i2, s1, g1, r, rfl, rfl⟩ z96 rfl ⟨rfl, rfl, rfl, rfl, trivial⟩ (fun _ => rfl)
 · have hi : ¬ (m.items.length : Int) < m.room := by simpa using h7
   rw [if_neg hi] at hp
   subst hp
   refine AllSl.mk fun r => ?_
   refine stop_appK encLet tabOk (ys := [⟨t, u⟩]) rfl rfl rfl rfl rfl rfl rfl rfl rfl (by decide) ⟨rfl, rfl⟩ z32 z28 z34 z34 (fun s2 => ?_)
   refine AllSl.mk fun r => ?_
   exact retw [3, 1, 4, 0] ⟨i1, s2, g1, r, rfl, rfl⟩ z96 rfl ⟨rfl, rfl, rfl, rfl, trivial⟩ (fun _ => rfl)
def Chan.gItems (m : Chan) : List Int := m.items ++ (m.senders.take 1).map Letter.v
def Chan.gWho (m : Chan) : List Int := (m.senders.take 1).map Letter.t
def Chan.get (m : Chan) (t : Int) : Chan × Int × Int × List Int × Bool :=
 if m.Valid ∧ isThread t = true ∧ ¬ t ∈ m.threads then
   if 0 < m.gItems.length then ({ m with items := m.gItems.drop 1, senders := m.senders.drop 1 }, m.gItems.headD 0, 1, m.gWho, true)
   else if m.closed = true then ({ m with items := [], senders := [] }, 0, 2, [], true)
   else ({ m with items := [], senders := [], getters := m.getters ++ [t] }, 0, 0, [], true)
 else (.zero, 0, 0, [], false)
def GetR (p : Chan × Int × Int × List Int × Bool) (v : Value) (L : List Fct) : Prop :=
 ∃ i s g r : Sl, v = .tuple #[chanV p.1 i s g, .int .i64 p.2.1, .int .i64 p.2.2.1, r.val p.2.2.2.1.length, .bool p.2.2.2.2] ∧ L = [own i 3 cInt 1 p.1.items, own s 144 cLet 2 p.1.senders, own g 3 cInt 1 p.1.getters, own r 3 cInt 1 p.2.2.2.1]
theorem head0 {xs : List Int} (h : 0 < xs.length) : xs.headD 0 = xs[0] := by
 cases xs with
 | nil => simp at h
 | cons x r => rfl
theorem take1 {α : Type} {xs : List α} (h : 0 < xs.length) : xs.take 1 = [xs[0]] := by
 cases xs with
 | nil => simp at h
 | cons x r => rfl
theorem gItems1 {m : Chan} (h : 0 < m.senders.length) : m.gItems = m.items ++ [m.senders[0].v] := by rw [Chan.gItems, take1 h]; rfl
theorem gWho1 {m : Chan} (h : 0 < m.senders.length) : m.gWho = [m.senders[0].t] := by rw [Chan.gWho, take1 h]; rfl
theorem gItems0 {m : Chan} (h : m.senders = []) : m.gItems = m.items := by rw [Chan.gItems, h]; simp
theorem gWho0 {m : Chan} (h : m.senders = []) : m.gWho = [] := by rw [Chan.gWho, h]; rfl
set_option maxHeartbeats 4000000 in
set_option maxRecDepth 100000 in
theorem getS_c (m : Chan) (i s g : Sl) (t : Int) (w : World) (h : At w [slo i cInt 1 m.items, slo s cLet 2 m.senders, slo g cInt 1 m.getters]) (hb : m.small) :
   Calls Tryz.prog 169 #[chanV m i s g, .int .i64 t] w (Ret w (GetR (m.get t))) := by
 obtain ⟨b1, b2, b3⟩ := hb
 generalize hp : m.get t = p
 have hno : ¬ (m.Valid ∧ isThread t = true ∧ ¬ t ∈ m.threads) → p = (.zero, 0, 0, [], false) := fun h => by rw [← hp, Chan.get, if_neg h]
 refine calls2 Tryz.func169 rfl tabOk w _ rfl _ rfl _ h z110 _ _ (by decide) ?_
 refine AllSl.mk fun n0 => ?_
 refine stop_call _ cl117 rfl rfl rfl rfl ⟨rfl, rfl⟩ (fun A w hW => validS_c m i s g w ⟨z27, z27, z27, trivial⟩ ⟨b1, b2, b3⟩) ?_
 rintro v L ⟨rfl, rfl⟩
 refine CaseB.mk (fun h1 => ?_) (fun h1 => ?_)
 · obtain rfl := hno (fun h => valid_f h1 h.1)
   exact retw [97, 98, 99, 0] ⟨nilS, nilS, nilS, n0, rfl, rfl⟩ z89 rfl ⟨rfl, rfl, rfl, rfl, trivial⟩ (fun _ => rfl)
 have h6 := distinct_len (valid_t h1).di
 have hi4 : m.items.length ≤ 4 := by have := (valid_t h1).it; have := (valid_t h1).r1; omega
 simp only [Chan.threads, List.length_append, List.length_map] at h6
 refine stop_call _ cl157 rfl rfl rfl rfl ⟨rfl, rfl⟩ (fun A w hW => l1Thread_c _ w) ?_
 rintro v L ⟨rfl, rfl⟩
 refine CaseB.mk (fun h2 => ?_) (fun h2 => ?_)
 · obtain rfl := hno (fun h => by rw [h.2.1] at h2; cases h2)
   exact retw [97, 98, 99, 0] ⟨nilS, nilS, nilS, n0, rfl, rfl⟩ z89 rfl ⟨rfl, rfl, rfl, rfl, trivial⟩ (fun _ => rfl)
 refine stop_call _ cl175 rfl rfl rfl rfl ⟨rfl, rfl⟩ (fun A w hW => l5Waits_c m i s g t w ⟨z27, z27, z27, trivial⟩ ⟨b1, b2, b3⟩ (by omega)) ?_
 rintro v L ⟨rfl, rfl⟩
 refine CaseB.mk (fun h3 => ?_) (fun h3 => ?_)
 · obtain rfl := hno (fun h => h.2.2 (by simpa using h3))
   exact retw [97, 98, 99, 0] ⟨nilS, nilS, nilS, n0, rfl, rfl⟩ z89 rfl ⟨rfl, rfl, rfl, rfl, trivial⟩ (fun _ => rfl)
 have hok : m.Valid ∧ isThread t = true ∧ ¬ t ∈ m.threads := ⟨valid_t h1, by simpa using h2, by simpa using h3⟩
 rw [Chan.get, if_pos hok] at hp
 refine stop_call _ cl145 rfl rfl rfl rfl ⟨rfl, rfl⟩ (fun A w hW => copy_c m i s g w ⟨z27, z27, z27, trivial⟩ ⟨b1, b2, b3⟩) ?_
 rintro v L ⟨i1, s1, g1, rfl, rfl⟩
 refine CaseB.mk (fun h4 => ?_) (fun h4 => ?_)
 · have hs : 0 < m.senders.length := by simpa using h4
   have hI : 0 < (m.items ++ [(m.senders[0]'hs).v]).length := by simp
   rw [gItems1 hs, gWho1 hs, if_pos hI, head0 hI] at hp
   subst hp
   refine stop_idx encLet tabOk rfl rfl rfl rfl rfl ⟨rfl, rfl⟩ z28 0 rfl z34 (fun ad => ?_)
   refine AllSl.mk fun y => ?_
   refine stop_appK encInt tabOk (xs := m.items) (ys := [(m.senders[0]'hs).v]) rfl rfl rfl rfl rfl rfl rfl rfl rfl (by decide) ⟨rfl, rfl⟩ z32 z28 z34 z34 (fun i2 => ?_)
   refine AllSl.mk fun y => ?_
   refine stop_cut tabOk rfl rfl rfl rfl ⟨rfl, rfl⟩ rfl rfl z28 (1) (m.senders.length) ((m.senders.drop 1)).length rfl rfl z34 z34 z34 ?_
   refine stop_appK encLet tabOk (xs := []) rfl rfl rfl rfl rfl rfl rfl rfl rfl (by decide) ⟨rfl, rfl⟩ z32 (rdDrop encLet 1 (by omega) (by first | exact rdAt 6 rfl | exact rdAt 7 rfl | exact rdAt 8 rfl | exact rdAt 5 rfl)) z34 z34 (fun s2 => ?_)
   refine stop_idx encLet tabOk rfl rfl rfl rfl rfl ⟨rfl, rfl⟩ z28 0 rfl z34 (fun ad => ?_)
   refine AllSl.mk fun y => ?_
   refine stop_appK encInt tabOk (xs := []) (ys := [(m.senders[0]'hs).t]) rfl rfl rfl rfl rfl rfl rfl rfl rfl (by decide) ⟨rfl, rfl⟩ z32 z28 z34 z34 (fun r => ?_)
   refine CaseB.mk (fun h5 => ?_) (fun h5 => by simp at h5)
   refine AllSl.mk fun y => ?_
   refine stop_cut tabOk rfl rfl rfl rfl ⟨rfl, rfl⟩ rfl rfl z28 (1) ((m.items ++ [(m.senders[0]'hs).v]).length) (((m.items ++ [(m.senders[0]'hs).v]).drop 1)).length rfl rfl z34 z34 z34 ?_
   refine stop_appK encInt tabOk (xs := []) rfl rfl rfl rfl rfl rfl rfl rfl rfl (by decide) ⟨rfl, rfl⟩ z32 (rdDrop encInt 1 (by simp) (by first | exact rdOwnAt 1 rfl | exact rdOwnAt 2 rfl | exact rdOwnAt 3 rfl | exact rdOwnAt 4 rfl | exact rdOwnAt 5 rfl)) z34 z34 (fun i3 => ?_)
   refine draw_start tabOk z86 z86 z86 200 [((2, 0), .v (.int .i64 m.room)), ((2, 1), .v (i3.val ((m.items ++ [(m.senders[0]'hs).v]).drop 1).length)), ((2, 2), .v (s2.val (m.senders.drop 1).length)), ((2, 3), .v (g1.val m.getters.length)), ((2, 4), .v (.bool m.closed))] [0, 1, 2, 3, 4, 5, 6, 7, 8, 9, 10] [_, _, _, _, _, _, _, _, _, _, _] z92 z103 ⟨rfl, rfl, rfl, rfl, rfl, rfl, rfl, rfl, rfl, rfl, rfl, trivial⟩ rfl ?_
   refine d_idx (ti := tiOf tab) encInt tabOk rfl rfl rfl rfl rfl ⟨rfl, rfl⟩ z28 0 rfl z34 (fun ad => ?_)
   exact retw [0, 3, 7, 1] ⟨i3, s2, g1, r, rfl, rfl⟩ z96 rfl ⟨rfl, rfl, rfl, rfl, trivial⟩ (fun _ => rfl)
 · have hs : m.senders = [] := by simpa using h4
   rw [gItems0 hs, gWho0 hs] at hp
   refine CaseB.mk (fun h5 => ?_) (fun h5 => ?_)
   · have hI : 0 < m.items.length := by simpa using h5
     rw [if_pos hI, head0 hI] at hp
     subst hp
     refine AllSl.mk fun y => ?_
     refine stop_cut tabOk rfl rfl rfl rfl ⟨rfl, rfl⟩ rfl rfl z28 (1) (m.items.length) ((m.items.drop 1)).length rfl rfl z34 z34 z34 ?_
     refine stop_appK encInt tabOk (xs := []) rfl rfl rfl rfl rfl rfl rfl rfl rfl (by decide) ⟨rfl, rfl⟩ z32 (rdDrop encInt 1 (by omega) (by first | exact rdOwnAt 1 rfl | exact rdOwnAt 2 rfl)) z34 z34 (fun i3 => ?_)
     refine draw_start tabOk z86 z86 z86 200 [((2, 0), .v (.int .i64 m.room)), ((2, 1), .v (i3.val (m.items.drop 1).length)), ((2, 2), .v (s1.val m.senders.length)), ((2, 3), .v (g1.val m.getters.length)), ((2, 4), .v (.bool m.closed))] [0, 1, 2, 3, 4, 5, 6, 7] [_, _, _, _, _, _, _, _] z92 z103 ⟨rfl, rfl, rfl, rfl, rfl, rfl, rfl, rfl, trivial⟩ rfl ?_
     refine d_idx (ti := tiOf tab) encInt tabOk rfl rfl rfl rfl rfl ⟨rfl, rfl⟩ z28 0 rfl z34 (fun ad => ?_)
     exact retw [0, 2, 3, 4] ⟨i3, s1, g1, n0, rfl, rfl⟩ z97 rfl ⟨rfl, rfl, rfl, rfl, trivial⟩ (fun _ => z56)
   · have hI : ¬ 0 < m.items.length := by simpa using h5
     have hI' : m.items = [] := by simpa using h5
     rw [if_neg hI] at hp
     refine CaseB.mk (fun h6 => ?_) (fun h6 => ?_)
     · rw [if_pos h6] at hp
       subst hp
       exact retw [0, 1, 2, 3] ⟨i1, s1, g1, n0, rfl, rfl⟩ z98 rfl ⟨rfl, rfl, rfl, rfl, trivial⟩ (fun _ => z55)
     · rw [if_neg (by simp [h6])] at hp
       subst hp
       refine AllSl.mk fun r => ?_
       refine stop_appK encInt tabOk (ys := [t]) rfl rfl rfl rfl rfl rfl rfl rfl rfl (by decide) ⟨rfl, rfl⟩ z32 z28 z34 z34 (fun g2 => ?_)
       exact retw [2, 3, 0, 4] ⟨i1, s1, g2, n0, rfl, rfl⟩ z98 rfl ⟨rfl, rfl, rfl, rfl, trivial⟩ (fun _ => z55)
def Chan.close (m : Chan) : Chan × List Int × Bool :=
 if m.Valid ∧ m.closed = false ∧ m.senders = [] then ({ m with senders := [], getters := [], closed := true }, m.getters, true) else (.zero, [], false)
def CloseR (p : Chan × List Int × Bool) (v : Value) (L : List Fct) : Prop :=
 ∃ i s g r : Sl, v = .tuple #[chanV p.1 i s g, r.val p.2.1.length, .bool p.2.2] ∧ L = [own i 3 cInt 1 p.1.items, own s 144 cLet 2 p.1.senders, own g 3 cInt 1 p.1.getters, own r 3 cInt 1 p.2.1]
set_option maxHeartbeats 2000000 in
set_option maxRecDepth 100000 in
theorem closeS_c (m : Chan) (i s g : Sl) (w : World) (h : At w [slo i cInt 1 m.items, slo s cLet 2 m.senders, slo g cInt 1 m.getters]) (hb : m.small) :
   Calls Tryz.prog 170 #[chanV m i s g] w (Ret w (CloseR m.close)) := by
 obtain ⟨b1, b2, b3⟩ := hb
 generalize hp : m.close = p
 have hno : ¬ (m.Valid ∧ m.closed = false ∧ m.senders = []) → p = (.zero, [], false) := fun h => by rw [← hp, Chan.close, if_neg h]
 refine calls1 Tryz.func170 rfl tabOk w _ rfl _ rfl _ h z110 _ (by decide) ?_
 refine stop_call _ cl117 rfl rfl rfl rfl ⟨rfl, rfl⟩ (fun A w hW => validS_c m i s g w ⟨z27, z27, z27, trivial⟩ ⟨b1, b2, b3⟩) ?_
 rintro v L ⟨rfl, rfl⟩
 refine CaseB.mk (fun h1 => ?_) (fun h1 => ?_)
 · obtain rfl := hno (fun h => valid_f h1 h.1)
   refine AllSl.mk fun r => ?_
   exact retw [96, 97, 98, 0] ⟨nilS, nilS, nilS, r, rfl, rfl⟩ z89 rfl ⟨rfl, rfl, rfl, rfl, trivial⟩ (fun _ => rfl)
 refine CaseB.mk (fun h2 => ?_) (fun h2 => ?_)
 · obtain rfl := hno (fun h => by rw [h.2.1] at h2; cases h2)
   refine AllSl.mk fun r => ?_
   exact retw [96, 97, 98, 0] ⟨nilS, nilS, nilS, r, rfl, rfl⟩ z89 rfl ⟨rfl, rfl, rfl, rfl, trivial⟩ (fun _ => rfl)
 refine CaseB.mk (fun h3 => ?_) (fun h3 => ?_)
 · obtain rfl := hno (fun h => by rw [h.2.2] at h3; simp at h3)
   refine AllSl.mk fun r => ?_
   exact retw [96, 97, 98, 0] ⟨nilS, nilS, nilS, r, rfl, rfl⟩ z89 rfl ⟨rfl, rfl, rfl, rfl, trivial⟩ (fun _ => rfl)
 have hs : m.senders = [] := by simpa using h3
 rw [Chan.close, if_pos ⟨valid_t h1, h2, hs⟩] at hp
 subst hp
 refine stop_call _ cl145 rfl rfl rfl rfl ⟨rfl, rfl⟩ (fun A w hW => copy_c m i s g w ⟨z27, z27, z27, trivial⟩ ⟨b1, b2, b3⟩) ?_
 rintro v L ⟨i1, s1, g1, rfl, rfl⟩
 refine AllSl.mk fun g2 => ?_
 refine draw_start tabOk z86 z86 z86 200 [((2, 0), .v (.int .i64 m.room)), ((2, 1), .v (i1.val m.items.length)), ((2, 2), .v (s1.val m.senders.length)), ((2, 3), .v (g2.val 0)), ((2, 4), .lit true), ((0, 3), .v (g.val m.getters.length))] [0, 1, 2, 3, 4, 5, 6] [_, _, _, _, _, _, _] z91 z101 ⟨rfl, rfl, rfl, rfl, rfl, rfl, rfl, trivial⟩ rfl ?_
 refine AllSl.mk fun y => ?_
 refine d_appK (ti := tiOf tab) encInt tabOk (xs := []) rfl rfl rfl rfl rfl rfl rfl rfl rfl (by decide) ⟨rfl, rfl⟩ z32 z28 z34 z34 z84 (fun r => ?_)
 exact retw [2, 3, 1, 0] ⟨i1, s1, g2, r, rfl, rfl⟩ z97 rfl ⟨rfl, rfl, rfl, rfl, trivial⟩ (fun _ => z56)
def Chan.small8 (m : Chan) : Prop := m.items.length ≤ 8 ∧ m.senders.length ≤ 8 ∧ m.getters.length ≤ 8
theorem Chan.small8.small {m : Chan} (h : m.small8) : m.small := ⟨by have := h.1; omega, by have := h.2.1; omega, by have := h.2.2; omega⟩
theorem Chan.Valid.len {m : Chan} (h : m.Valid) : m.items.length ≤ 4 ∧ m.senders.length + m.getters.length ≤ 6 := by
 have h1 := distinct_len h.di
 have := h.it
 have := h.r1
 simp only [Chan.threads, List.length_append, List.length_map] at h1
 omega
theorem distinct_sub {xs ys : List Int} (h : ys.Sublist xs) (hd : distinct xs = true) : distinct ys = true := by
 simp only [distinct, decide_eq_true_eq] at hd ⊢
 exact ⟨hd.1.sublist h, fun x hx => hd.2 x (h.subset hx)⟩
theorem distinct_snoc {xs : List Int} {t : Int} (hd : distinct xs = true) (h1 : isThread t = true) (h2 : ¬ t ∈ xs) : distinct (xs ++ [t]) = true := by
 simp only [distinct, decide_eq_true_eq] at hd ⊢
 refine ⟨?_, fun x hx => ?_⟩
 · rw [List.nodup_append]
   refine ⟨hd.1, by simp, fun a ha b hb => ?_⟩
   simp at hb; subst hb
   rintro rfl; exact h2 ha
 · rcases List.mem_append.1 hx with hx | hx
   · exact hd.2 x hx
   · simp at hx; subst hx; exact h1
theorem send_ok {m : Chan} {t u : Int} (h : (m.send t u).2.2.2 = true) : m.Valid ∧ m.closed = false ∧ isThread t = true ∧ isValue u = true ∧ ¬ t ∈ m.threads := by
 rw [Chan.send] at h
 split at h
 · assumption
 · cases h
theorem get_ok {m : Chan} {t : Int} (h : (m.get t).2.2.2.2 = true) : m.Valid ∧ isThread t = true ∧ ¬ t ∈ m.threads := by
 rw [Chan.get] at h
 split at h
 · assumption
 · cases h
theorem close_ok {m : Chan} (h : m.close.2.2 = true) : m.Valid ∧ m.closed = false ∧ m.senders = [] := by
 rw [Chan.close] at h
 split at h
 · assumption
 · cases h
theorem send_valid {m : Chan} {t u : Int} (h : (m.send t u).2.2.2 = true) : (m.send t u).1.Valid := by
 have hc := send_ok h
 obtain ⟨hv, h2, h3, h4, h5⟩ := hc
 rw [Chan.send, if_pos ⟨hv, h2, h3, h4, h5⟩]
 split
 · rename_i hg
   have hg' : m.getters ≠ [] := fun e => by rw [e] at hg; simp at hg
   have hs : m.senders = [] := Classical.byContradiction fun hn => hg' (hv.se hn).2.1
   refine ⟨hv.r0, hv.r1, hv.it, hv.iv, hv.sv, distinct_sub ?_ hv.di, fun hn => absurd hs hn, fun _ => hv.ge hg'⟩
   exact List.Sublist.append (List.Sublist.refl _) (List.drop_sublist _ _)
 · rename_i hg
   have hg' : m.getters = [] := by simpa using hg
   split
   · rename_i hi
     have hs : m.senders = [] := Classical.byContradiction fun hn => by have := (hv.se hn).1; omega
     refine ⟨hv.r0, hv.r1, by simp; omega, fun x hx => ?_, hv.sv, hv.di, fun hn => absurd hs hn, fun hn => absurd hg' hn⟩
     rcases List.mem_append.1 hx with hx | hx
     · exact hv.iv x hx
     · simp at hx; subst hx; exact h4
   · rename_i hi
     have := hv.it
     refine ⟨hv.r0, hv.r1, hv.it, hv.iv, fun x hx => ?_, ?_, fun _ => ⟨by simp; omega, hg', h2⟩, fun hn => absurd hg' hn⟩
     · rcases List.mem_append.1 hx with hx | hx
       · exact hv.sv x hx
       · simp at hx; subst hx; exact h4
     · have e : (Chan.threads { m with senders := m.senders ++ [⟨t, u⟩] }) = m.threads ++ [t] := by simp [Chan.threads, hg']
       rw [e]
       exact distinct_snoc hv.di h3 h5
theorem get_valid {m : Chan} {t : Int} (h : (m.get t).2.2.2.2 = true) : (m.get t).1.Valid := by
 obtain ⟨hv, h3, h5⟩ := get_ok h
 rw [Chan.get, if_pos ⟨hv, h3, h5⟩]
 split
 · rename_i hI
   have hg : m.getters = [] := Classical.byContradiction fun hn => by
     have h1 := (hv.ge hn).1
     have hs : m.senders = [] := Classical.byContradiction fun hs => hn (hv.se hs).2.1
     rw [Chan.gItems, h1, hs] at hI
     simp at hI
   have hall : ∀ x ∈ m.gItems, isValue x = true := fun x hx => by
     rcases List.mem_append.1 hx with hx | hx
     · exact hv.iv x hx
     · obtain ⟨l, hl, rfl⟩ := List.mem_map.1 hx
       exact hv.sv l (List.mem_of_mem_take hl)
   have hlen : ((m.gItems.drop 1).length : Int) ≤ m.room ∧ (m.senders ≠ [] → ((m.gItems.drop 1).length : Int) = m.room) := by
     have := hv.it
     cases hs : m.senders with
     | nil => simp [Chan.gItems, hs]; omega
     | cons a r => have := (hv.se (by simp [hs])).1; simp [Chan.gItems, hs]; omega
   refine ⟨hv.r0, hv.r1, hlen.1, fun x hx => hall x (List.mem_of_mem_drop hx), fun l hl => hv.sv l (List.mem_of_mem_drop hl), distinct_sub ?_ hv.di, fun hn => ?_, fun hn => absurd hg hn⟩
   · exact List.Sublist.append (List.Sublist.map _ (List.drop_sublist _ _)) (List.Sublist.refl _)
   · have hs : m.senders ≠ [] := fun e => by rw [e] at hn; simp at hn
     exact ⟨hlen.2 hs, hg, (hv.se hs).2.2⟩
 · rename_i hI
   have hI2 : m.items = [] ∧ m.senders = [] := by
     simp [Chan.gItems] at hI
     refine ⟨hI.1, ?_⟩
     cases hs : m.senders with
     | nil => rfl
     | cons a r => simp [hs] at hI
   have e : ({ m with items := [], senders := [] } : Chan) = m := by rw [← hI2.1]; cases m; simp at hI2; simp [hI2]
   split
   · rw [e]; exact hv
   · rename_i hcl
     have hcl' : m.closed = false := by simpa using hcl
     refine ⟨hv.r0, hv.r1, by have := hv.r0; simpa using this, by simp, by simp, ?_, fun hn => absurd rfl hn, fun _ => ⟨rfl, hcl'⟩⟩
     have e2 : (Chan.threads { m with items := [], senders := [], getters := m.getters ++ [t] }) = m.threads ++ [t] := by simp [Chan.threads, hI2.2]
     rw [e2]
     exact distinct_snoc hv.di h3 h5
theorem close_valid {m : Chan} (h : m.close.2.2 = true) : m.close.1.Valid := by
 obtain ⟨hv, h1, h2⟩ := close_ok h
 rw [Chan.close, if_pos ⟨hv, h1, h2⟩]
 refine ⟨hv.r0, hv.r1, hv.it, hv.iv, by simp, ?_, fun hn => absurd rfl hn, fun hn => absurd rfl hn⟩
 simp [Chan.threads, distinct]
def restM (p : Prog) (t : Nat) (a : Int) : Int := if a = ((p.threads.getD t []).length : Int) then 3 else 0
def goM (p : Prog) (s : State) (t : Int) : State :=
 { s with places := s.places.set t.toNat (s.places.getD t.toNat 0 + 1), status := s.status.set t.toNat (restM p t.toNat (s.places.getD t.toNat 0 + 1)) }
def onM (p : Prog) (who : List Int) (s : State) : State := who.foldl (goM p) s
def waitM (s : State) (t st : Int) : State := { s with status := s.status.set t.toNat st }
theorem goM_places (p : Prog) (s : State) (t : Int) (u : Nat) (h0 : 0 ≤ t) : (goM p s t).places[u]? = if (u : Int) = t then s.places[u]?.map (· + 1) else s.places[u]? := by
 obtain ⟨k, rfl⟩ : ∃ k : Nat, t = k := ⟨_, (Int.toNat_of_nonneg h0).symm⟩
 simp only [goM, Int.toNat_natCast, List.getElem?_set]
 by_cases e : k = u
 · subst e
   simp only [if_true]
   by_cases hl : k < s.places.length
   · simp [hl]
   · simp [hl]
 · have e' : ¬ (u : Int) = k := by omega
   simp only [e, e', if_false]
theorem goM_status (p : Prog) (s : State) (t : Int) (u : Nat) (h0 : 0 ≤ t) : (goM p s t).status[u]? = if (u : Int) = t then s.status[u]?.map (fun _ => restM p u (s.places.getD u 0 + 1)) else s.status[u]? := by
 obtain ⟨k, rfl⟩ : ∃ k : Nat, t = k := ⟨_, (Int.toNat_of_nonneg h0).symm⟩
 simp only [goM, Int.toNat_natCast, List.getElem?_set]
 by_cases e : k = u
 · subst e
   simp only [if_true]
   by_cases hl : k < s.status.length
   · simp [hl]
   · simp [hl]
 · have e' : ¬ (u : Int) = k := by omega
   simp only [e, e', if_false]
theorem onM_places (p : Prog) : ∀ (who : List Int) (s : State), who.Nodup → (∀ x ∈ who, 0 ≤ x) → ∀ u : Nat, (onM p who s).places[u]? = if (u : Int) ∈ who then s.places[u]?.map (· + 1) else s.places[u]?
 | [], s, _, _, u => by simp [onM]
 | x :: r, s, hd, h0, u => by
   have hd' := List.nodup_cons.1 hd
   have ih := onM_places p r (goM p s x) hd'.2 (fun y hy => h0 y (List.mem_cons_of_mem _ hy)) u
   have e : onM p (x :: r) s = onM p r (goM p s x) := rfl
   rw [e, ih, goM_places p s x u (h0 x (by simp))]
   by_cases h1 : (u : Int) = x
   · have h2 : ¬ (u : Int) ∈ r := fun h => hd'.1 (h1 ▸ h)
     rw [if_neg h2, if_pos h1, if_pos (by simp [h1])]
   · rw [if_neg h1]
     by_cases h2 : (u : Int) ∈ r
     · rw [if_pos h2, if_pos (List.mem_cons_of_mem _ h2)]
     · rw [if_neg h2, if_neg (by simp [h1, h2])]
theorem onM_status (p : Prog) : ∀ (who : List Int) (s : State), who.Nodup → (∀ x ∈ who, 0 ≤ x) → ∀ u : Nat, (onM p who s).status[u]? = if (u : Int) ∈ who then s.status[u]?.map (fun _ => restM p u (s.places.getD u 0 + 1)) else s.status[u]?
 | [], s, _, _, u => by simp [onM]
 | x :: r, s, hd, h0, u => by
   have hd' := List.nodup_cons.1 hd
   have ih := onM_status p r (goM p s x) hd'.2 (fun y hy => h0 y (List.mem_cons_of_mem _ hy)) u
   have e : onM p (x :: r) s = onM p r (goM p s x) := rfl
   rw [e, ih, goM_status p s x u (h0 x (by simp))]
   by_cases h1 : (u : Int) = x
   · have h2 : ¬ (u : Int) ∈ r := fun h => hd'.1 (h1 ▸ h)
     rw [if_neg h2, if_pos h1, if_pos (by simp [h1])]
   · rw [if_neg h1]
     by_cases h2 : (u : Int) ∈ r
     · rw [if_pos h2, if_pos (List.mem_cons_of_mem _ h2)]
       have h3 : (goM p s x).places.getD u 0 = s.places.getD u 0 := by
         rw [List.getD_eq_getElem?_getD, List.getD_eq_getElem?_getD, goM_places p s x u (h0 x (by simp)), if_neg h1]
       rw [h3]
     · rw [if_neg h2, if_neg (by simp [h1, h2])]
theorem onM_rest (p : Prog) : ∀ (who : List Int) (s : State), ∃ pl st, onM p who s = { s with places := pl, status := st } ∧ pl.length = s.places.length ∧ st.length = s.status.length
 | [], s => ⟨s.places, s.status, rfl, rfl, rfl⟩
 | x :: r, s => by
   obtain ⟨pl, st, h, h1, h2⟩ := onM_rest p r (goM p s x)
   refine ⟨pl, st, ?_, ?_, ?_⟩
   · have e : onM p (x :: r) s = onM p r (goM p s x) := rfl
     rw [e, h]; rfl
   · rw [h1]; simp [goM]
   · rw [h2]; simp [goM]
def Swap {β : Type} (es es' fx fx' : List β) : Prop := ∃ A B, es = A ++ fx ++ B ∧ es' = A ++ fx' ++ B
theorem Swap.l {β : Type} {es es' fx fx' : List β} (h : Swap es es' fx fx') (Q : List β) : Swap (es ++ Q) (es' ++ Q) fx fx' := by
 obtain ⟨A, B, rfl, rfl⟩ := h
 exact ⟨A, B ++ Q, by simp, by simp⟩
theorem Swap.r {β : Type} {es es' fx fx' : List β} (h : Swap es es' fx fx') (Q : List β) : Swap (Q ++ es) (Q ++ es') fx fx' := by
 obtain ⟨A, B, rfl, rfl⟩ := h
 exact ⟨Q ++ A, B, by simp, by simp⟩
theorem evL_swap {α β : Type} (f : Nat → α → List β) {xs : List α} {i : Nat} {x : α} (h : xs[i]? = some x) (x' : α) : Swap (evL f 0 xs) (evL f 0 (xs.set i x')) (f i x) (f i x') := by
 have : ∀ (xs : List α) (j i : Nat), xs[i]? = some x → Swap (evL f j xs) (evL f j (xs.set i x')) (f (j + i) x) (f (j + i) x') := by
   intro xs
   induction xs with
   | nil => intro j i h; simp at h
   | cons y r ih =>
     intro j i h
     cases i with
     | zero =>
       simp at h; subst h
       exact ⟨[], evL f (j + 1) r, by simp [evL], by simp [evL]⟩
     | succ i =>
       have := (ih (j + 1) i z81).r (f j y)
       rw [show j + 1 + i = j + (i + 1) by omega] at this
       exact this
 have h2 := this xs 0 i h
 rwa [Nat.zero_add] at h2
theorem ofKey_append {β : Type} (a b : List (Int × β)) (t : Int) : ofKey (a ++ b) t = ofKey a t ++ ofKey b t := by simp [ofKey]
theorem Swap.same {β : Type} {es es' fx fx' : List (Int × β)} (h : Swap es es' fx fx') {u : Int} (e : ofKey fx' u = ofKey fx u) : ofKey es' u = ofKey es u := by
 obtain ⟨A, B, rfl, rfl⟩ := h
 simp only [ofKey_append, e]
theorem Swap.gone {β : Type} {es es' fx fx' : List (Int × β)} (h : Swap es es' fx fx') {u : Int} (h1 : ofKey fx u ≠ []) (h2 : ofKey fx' u = []) (h3 : (ofKey es u).length ≤ 1) : ofKey es' u = [] := by
 obtain ⟨A, B, rfl, rfl⟩ := h
 simp only [ofKey_append, List.length_append] at h3 ⊢
 have h4 : 0 < (ofKey fx u).length := List.length_pos_iff.2 h1
 have a0 : ofKey A u = [] := List.eq_nil_of_length_eq_zero (by omega)
 have b0 : ofKey B u = [] := List.eq_nil_of_length_eq_zero (by omega)
 rw [a0, b0, h2]; rfl
theorem Swap.none {β : Type} {es es' fx fx' : List (Int × β)} (h : Swap es es' fx fx') {u : Int} (h1 : ofKey es u = []) : ofKey fx u = [] := by
 obtain ⟨A, B, rfl, rfl⟩ := h
 simp only [ofKey_append, List.append_eq_nil_iff] at h1
 exact h1.1.2
theorem Swap.come {β : Type} {es es' fx fx' : List (Int × β)} (h : Swap es es' fx fx') {u : Int} (h1 : ofKey es u = []) : ofKey es' u = ofKey fx' u := by
 obtain ⟨A, B, rfl, rfl⟩ := h
 simp only [ofKey_append, List.append_eq_nil_iff] at h1 ⊢
 rw [h1.1.1, h1.2]; simp
theorem Swap.from {β : Type} {es es' fx fx' : List (Int × β)} (h : Swap es es' fx fx') {t : Int} (hk : ∀ u, u ≠ t → ofKey fx u = [] → ofKey fx' u = []) : ∀ e ∈ es', e.1 = t ∨ ∃ e2 ∈ es, e2.1 = e.1 := by
 intro e he
 by_cases ht : e.1 = t
 · exact .inl ht
 refine .inr (Classical.byContradiction fun hn => ?_)
 have h0 : ofKey es e.1 = [] := ofKey_nil.2 fun e2 h2 h3 => hn ⟨e2, h2, h3⟩
 have h1 := h.come h0
 rw [hk e.1 ht (h.none h0)] at h1
 exact ofKey_nil.1 h1 e he rfl
theorem Swap.refl {β : Type} (es : List β) : Swap es es [] [] := ⟨es, [], by simp, by simp⟩
theorem swap_sems {s : State} {i : Nat} {x : Sem} (h : s.sems[i]? = some x) (x' : Sem) : Swap (events s) (events { s with sems := s.sems.set i x' }) (evSem i x) (evSem i x') := ((((evL_swap evSem h x').l _).l _).l _).l _
theorem swap_onces {s : State} {i : Nat} {x : Once} (h : s.onces[i]? = some x) (x' : Once) : Swap (events s) (events { s with onces := s.onces.set i x' }) (evOnce i x) (evOnce i x') := ((((evL_swap evOnce h x').r _).l _).l _).l _
theorem swap_groups {s : State} {i : Nat} {x : Group} (h : s.groups[i]? = some x) (x' : Group) : Swap (events s) (events { s with groups := s.groups.set i x' }) (evGroup i x) (evGroup i x') := (((evL_swap evGroup h x').r _).l _).l _
theorem swap_barriers {s : State} {i : Nat} {x : Barrier} (h : s.barriers[i]? = some x) (x' : Barrier) : Swap (events s) (events { s with barriers := s.barriers.set i x' }) (evBarrier i x) (evBarrier i x') := ((evL_swap evBarrier h x').r _).l _
theorem swap_chans {s : State} {i : Nat} {x : Chan} (h : s.chans[i]? = some x) (x' : Chan) : Swap (events s) (events { s with chans := s.chans.set i x' }) (evChan i x) (evChan i x') := (evL_swap evChan h x').r _
theorem swap_own {s : State} {i : Nat} {x : Once} (h : s.onces[i]? = some x) (x' : Once) : Swap (owners s) (owners { s with onces := s.onces.set i x' }) (evOwn i x) (evOwn i x') := evL_swap evOwn h x'
theorem SharedOk.of {p : Prog} {s s' : State} (h : SharedOk p s) (e1 : s'.sems = s.sems) (e2 : s'.onces = s.onces) (e3 : s'.groups = s.groups) (e4 : s'.barriers = s.barriers) (e5 : s'.chans = s.chans) : SharedOk p s' := by
 obtain ⟨a, b, c, d, e, f, g, i, j, k⟩ := h
 exact ⟨by rw [e1]; exact a, by rw [e3]; exact b, by rw [e4]; exact c, by rw [e5]; exact d, by rw [e2]; exact e, by rw [e1]; exact f, by rw [e3]; exact g, by rw [e4]; exact i, by rw [e5]; exact j, by rw [e2]; exact k⟩
theorem set_all {α : Type} {P : Nat → α → Prop} {xs : List α} (h : ∀ (i : Nat) x, xs[i]? = some x → P i x) {i : Nat} {x' : α} (h1 : P i x') : ∀ (j : Nat) x, (xs.set i x')[j]? = some x → P j x := by
 intro j x hx
 rw [List.getElem?_set] at hx
 split at hx
 · rename_i e
   subst e
   split at hx
   · injection hx with hx; subst hx; exact h1
   · cases hx
 · exact h j x hx
theorem set_mem {α : Type} {P : α → Prop} {xs : List α} (h : ∀ x ∈ xs, P x) {i : Nat} {x' : α} (h1 : P x') : ∀ x ∈ xs.set i x', P x := fun x hx => by
 rcases List.mem_or_eq_of_mem_set hx with hx | rfl
 · exact h x hx
 · exact h1
theorem SharedOk.setSem {p : Prog} {s : State} (h : SharedOk p s) {i : Nat} {x x' : Sem} (hx : s.sems[i]? = some x) (ok : SemOk x') (e : x'.limit = x.limit) : SharedOk p { s with sems := s.sems.set i x' } :=
 { h with lsems := by simpa using h.lsems, sems := set_all h.sems ⟨ok, by rw [e]; exact (h.sems i x hx).2⟩ }
theorem SharedOk.setOnce {p : Prog} {s : State} (h : SharedOk p s) {i : Nat} {x' : Once} (ok : OnceOk x') : SharedOk p { s with onces := s.onces.set i x' } :=
 { h with lonces := by simpa using h.lonces, onces := set_mem h.onces ok }
theorem SharedOk.setGroup {p : Prog} {s : State} (h : SharedOk p s) {i : Nat} {x' : Group} (ok : GroupOk x') : SharedOk p { s with groups := s.groups.set i x' } :=
 { h with lgroups := by simpa using h.lgroups, groups := set_mem h.groups ok }
theorem SharedOk.setBarrier {p : Prog} {s : State} (h : SharedOk p s) {i : Nat} {x x' : Barrier} (hx : s.barriers[i]? = some x) (ok : BarrierOk x') (e : x'.parties = x.parties) : SharedOk p { s with barriers := s.barriers.set i x' } :=
 { h with lbarriers := by simpa using h.lbarriers, barriers := set_all h.barriers ⟨ok, by rw [e]; exact (h.barriers i x hx).2⟩ }
theorem SharedOk.setChan {p : Prog} {s : State} (h : SharedOk p s) {i : Nat} {x x' : Chan} (hx : s.chans[i]? = some x) (ok : x'.valid = true) (e : x'.room = x.room) : SharedOk p { s with chans := s.chans.set i x' } :=
 { h with lchans := by simpa using h.lchans, chans := set_all h.chans ⟨ok, by rw [e]; exact (h.chans i x hx).2⟩ }
def Th (p : Prog) (s s' : State) (ops : List Op) (u : Nat) (a st a' st' : Int) : Prop :=
 (a' = a ∧ st' = st ∧ ofKey (events s') u = ofKey (events s) u ∧ ofKey (owners s') u = ofKey (owners s) u) ∨
 (a' = a + 1 ∧ st' = restM p u (a + 1) ∧ a < ops.length ∧ ofKey (events s') u = [] ∧ ofKey (owners s') u = []) ∨
 ∃ op, ops[a.toNat]? = some op ∧ a' = a ∧ ((st' = 1 ∧ ofKey (events s') u = [want op] ∧ ofKey (owners s') u = []) ∨ (st' = 2 ∧ ofKey (events s') u = [] ∧ op.kind = 4 ∧ ofKey (owners s') u = [op.on]))
theorem Th.ok {p : Prog} {s s' : State} {ops : List Op} {u : Nat} {a st a' st' : Int} (h : Th p s s' ops u a st a' st') (hp : p.threads[u]? = some ops) (h0 : ThreadOk ops a st (ofKey (events s) u) (ofKey (owners s) u)) : ThreadOk ops a' st' (ofKey (events s') u) (ofKey (owners s') u) := by
 rcases h with ⟨rfl, rfl, e1, e2⟩ | ⟨rfl, rfl, hl, e1, e2⟩ | ⟨op, ho, rfl, h⟩
 · rw [e1, e2]; exact h0
 · obtain ⟨a0, a1, _⟩ := h0
   have hg : p.threads.getD u [] = ops := by rw [List.getD_eq_getElem?_getD, hp]; rfl
   rw [e1, e2]
   refine ⟨by omega, by omega, ?_⟩
   by_cases e : a + 1 = (ops.length : Int)
   · exact .inl ⟨e, by rw [restM, hg, if_pos e], rfl, rfl⟩
   · refine .inr ⟨ops[(a + 1).toNat]'(by omega), List.getElem?_eq_getElem _, .inl ⟨by rw [restM, hg, if_neg e], rfl, rfl⟩⟩
 · obtain ⟨a0, a1, _⟩ := h0
   refine ⟨a0, a1, .inr ⟨op, ho, ?_⟩⟩
   rcases h with ⟨rfl, e1, e2⟩ | ⟨rfl, e1, e2, e3⟩
   · exact .inr (.inl ⟨rfl, e2, e1⟩)
   · exact .inr (.inr ⟨rfl, e1, e2, e3⟩)
theorem Fits.len1 {p : Prog} {s : State} (ft : Fits p s) (u : Nat) (hu : u < p.threads.length) : (ofKey (events s) u).length ≤ 1 := by
 obtain ⟨a0, a1, h⟩ := ft.threads u _ _ _ (List.getElem?_eq_getElem hu) (List.getElem?_eq_getElem (by rw [ft.np]; exact hu)) (List.getElem?_eq_getElem (by rw [ft.ns]; exact hu))
 rcases h with ⟨_, _, e, _⟩ | ⟨op, _, ⟨_, e, _⟩ | ⟨_, _, e⟩ | ⟨_, e, _⟩⟩ <;> rw [e] <;> simp
theorem Fits.isIn {p : Prog} {s : State} (ft : Fits p s) {u : Int} (h : ofKey (events s) u ≠ []) : 0 ≤ u ∧ u < p.threads.length := by
 match hc : ofKey (events s) u with
 | [] => exact (h hc).elim
 | x :: r =>
   have hm : x ∈ ofKey (events s) u := by rw [hc]; simp
   exact ft.ev _ (ofKey_mem.1 hm)
theorem Fits.waiting {p : Prog} {s : State} (ft : Fits p s) {u : Nat} {ops : List Op} {a st : Int} (h1 : p.threads[u]? = some ops) (h2 : s.places[u]? = some a) (h3 : s.status[u]? = some st) (h : ofKey (events s) u ≠ []) : a < ops.length ∧ ofKey (owners s) u = [] ∧ st = 1 := by
 obtain ⟨a0, a1, h4⟩ := ft.threads u ops a st h1 h2 h3
 rcases h4 with ⟨_, _, e, _⟩ | ⟨op, h5, ⟨_, e, _⟩ | ⟨e1, e2, _⟩ | ⟨_, e, _⟩⟩
 · exact (h e).elim
 · exact (h e).elim
 · have := (List.getElem?_eq_some_iff.1 h5).1
   exact ⟨by omega, e2, e1⟩
 · exact (h e).elim
theorem Fits.move {p : Prog} {s s' : State} (ft : Fits p s) {t : Nat} {who : List Int} {fx fx' : List (Int × Waiting)} (sh : SharedOk p s')
   (lp : s'.places.length = s.places.length) (ls : s'.status.length = s.status.length)
   (lsaid : s'.said.length ≤ 64) (said : ∀ v ∈ s'.said, isValue v = true) (f0 : 0 ≤ s'.fault) (f4 : s'.fault ≤ 4)
   (sw : Swap (events s) (events s') fx fx') (ow : ∀ u : Int, u ≠ t → ofKey (owners s') u = ofKey (owners s) u)
   (hw : ∀ u ∈ who, u ≠ t → ofKey fx u ≠ [] ∧ ofKey fx' u = []) (ho : ∀ u, u ∉ who → u ≠ t → ofKey fx' u = ofKey fx u)
   (pl : ∀ u : Nat, u ≠ t → s'.places[u]? = if (u : Int) ∈ who then s.places[u]?.map (· + 1) else s.places[u]?)
   (st : ∀ u : Nat, u ≠ t → s'.status[u]? = if (u : Int) ∈ who then s.status[u]?.map (fun _ => restM p u (s.places.getD u 0 + 1)) else s.status[u]?)
   (ht : ∀ ops a st, p.threads[t]? = some ops → s.places[t]? = some a → s.status[t]? = some st → ∃ a' st', s'.places[t]? = some a' ∧ s'.status[t]? = some st' ∧ Th p s s' ops t a st a' st') (tn : t < p.threads.length) : Fits p s' := by
 have key : ∀ u : Int, u ≠ t → ofKey fx u = [] → ofKey fx' u = [] := fun u hu h0 => by
   by_cases hm : u ∈ who
   · exact (hw u hm hu).2
   · rw [ho u hm hu, h0]
 have hev : ∀ e ∈ events s', 0 ≤ e.1 ∧ e.1 < (p.threads.length : Int) := fun e he => by
   rcases sw.from key e he with h | ⟨e2, h2, h3⟩
   · rw [h]; omega
   · rw [← h3]; exact ft.ev _ h2
 have how : ∀ e ∈ owners s', 0 ≤ e.1 ∧ e.1 < (p.threads.length : Int) := fun e he => by
   by_cases hu : e.1 = t
   · rw [hu]; omega
   · have hm : e.2 ∈ ofKey (owners s') e.1 := ofKey_mem.2 he
     rw [ow e.1 hu] at hm
     exact ft.ow _ (ofKey_mem.1 hm)
 refine ⟨ft.prog, by rw [lp, ft.np], by rw [ls, ft.ns], sh.lsems, sh.lgroups, sh.lbarriers, sh.lchans, sh.lonces, lsaid, f0, f4, sh.sems, sh.groups, sh.barriers, sh.chans, sh.onces, said, fun u ops a' st' h1 h2 h3 => ?_, hev, how⟩
 have hu : u < p.threads.length := (List.getElem?_eq_some_iff.1 h1).1
 have hup : u < s.places.length := by rw [ft.np]; exact hu
 have hus : u < s.status.length := by rw [ft.ns]; exact hu
 have g2 : s.places[u]? = some s.places[u] := List.getElem?_eq_getElem hup
 have g3 : s.status[u]? = some s.status[u] := List.getElem?_eq_getElem hus
 have h0 := ft.threads u ops _ _ h1 g2 g3
 by_cases e : u = t
 · subst e
   obtain ⟨a2, st2, k1, k2, k3⟩ := ht ops _ _ h1 g2 g3
   rw [h2] at k1; rw [h3] at k2
   injection k1 with k1; injection k2 with k2
   subst k1; subst k2
   exact k3.ok h1 h0
 · have e' : (u : Int) ≠ t := by omega
   have p1 := pl u e
   have p2 := st u e
   rw [h2, g2] at p1
   rw [h3, g3] at p2
   by_cases hm : (u : Int) ∈ who
   · rw [if_pos hm] at p1 p2
     simp only [Option.map_some, Option.some.injEq] at p1 p2
     obtain ⟨w1, w2⟩ := hw u hm e'
     have hne : ofKey (events s) u ≠ [] := fun h => w1 (sw.none h)
     obtain ⟨q1, q2, q3⟩ := ft.waiting h1 g2 g3 hne
     refine Th.ok (s := s) (a := s.places[u]) (st := s.status[u]) (.inr (.inl ⟨p1, ?_, q1, sw.gone w1 w2 (ft.len1 u hu), by rw [ow u e', q2]⟩)) h1 h0
     rw [p2, List.getD_eq_getElem?_getD, g2]; rfl
   · rw [if_neg hm] at p1 p2
     injection p1 with p1; injection p2 with p2
     exact Th.ok (s := s) (a := s.places[u]) (st := s.status[u]) (.inl ⟨p1, p2, sw.same (ho u hm e'), ow u e'⟩) h1 h0
end Go.Proofs.YtjkkoonennpceaaGreat
