/- FnMoreChoices: texts that its proof stands on, part 7. -/
import Derived.Test.YtijmjecehppbfaaGreatQMoreChoicesf
namespace Go.Proofs.YtijmjecehppbfaaGreat
set_option maxRecDepth 100000
set_option maxHeartbeats 100000000
open Go Go.Sx Go.RowKit
theorem cM0 (p : ProgH) (s : StateH) (w : World) (h : At w [fR (aY p), fR (aK s)]) (hp : p.pure.small20) (hs : s.pure.small20) :
   Calls Tryz.prog 62 #[dW p, aM s] w (iD w (Fits p.pure s.pure)) := by
 obtain ⟨b0, b1, b2, b3, b4, b5, b6, b7⟩ := hs
 have mlen : ∀ {α β : Type} (f : α → β) (xs : List α), (xs.map f).length = xs.length := fun f xs => by simp
 have lt : p.pure.threads.length = p.threads.length := mlen _ _
 have l2 : s.pure.sems.length = s.sems.length := mlen _ _
 have l3 : s.pure.onces.length = s.onces.length := mlen _ _
 have l4 : s.pure.groups.length = s.groups.length := mlen _ _
 have l5 : s.pure.barriers.length = s.barriers.length := mlen _ _
 have l6 : s.pure.chans.length = s.chans.length := mlen _ _
 refine cB Tryz.func62 rfl aA w _ rfl _ rfl _ h ⟨rfl, rfl, rfl, rfl, trivial⟩ _ _ (by decide) ?_
 refine aB _ nH0 rfl rfl rfl rfl ⟨rfl, rfl⟩ (fun A w hW => vK p w ⟨hW.get 0 rfl (.refl _), trivial⟩ ⟨hp.1, hp.2.1, hp.2.2.1, hp.2.2.2.1⟩) ?_
 rintro v L ⟨b, rfl, hb, rfl⟩
 apply CaseB.mk <;> intro g
 · exact aH ⟨_, rfl, tno fun e => (by rw [hb.2 e.prog] at g; cases g), rfl⟩ (fun _ => rfl)
 have ok : ProgOk p.pure := hb.1 z98
 apply CaseB.mk <;> intro g
 · have q : ¬ s.places.length = p.threads.length := by simp at g; omega
   exact aH ⟨_, rfl, tno fun e => q (by have := e.np; simpa [StateH.pure, ProgH.pure] using this), rfl⟩ (fun _ => rfl)
 have c0 : s.places.length = p.threads.length := by simp at g; omega
 apply CaseB.mk <;> intro g
 · have q : ¬ s.status.length = p.threads.length := by simp at g; omega
   exact aH ⟨_, rfl, tno fun e => q (by have := e.ns; simpa [StateH.pure, ProgH.pure] using this), rfl⟩ (fun _ => rfl)
 have c1 : s.status.length = p.threads.length := by simp at g; omega
 apply CaseB.mk <;> intro g
 · have q : ¬ s.sems.length = p.sems.length := by simp at g; omega
   exact aH ⟨_, rfl, tno fun e => q (by have := e.lsems; simpa [StateH.pure, ProgH.pure] using this), rfl⟩ (fun _ => rfl)
 have c2 : s.sems.length = p.sems.length := by simp at g; omega
 apply CaseB.mk <;> intro g
 · have q : ¬ s.groups.length = p.groups.length := by simp at g; omega
   exact aH ⟨_, rfl, tno fun e => q (by have := e.lgroups; simpa [StateH.pure, ProgH.pure] using this), rfl⟩ (fun _ => rfl)
 have c4 : s.groups.length = p.groups.length := by simp at g; omega
 apply CaseB.mk <;> intro g
 · have q : ¬ s.barriers.length = p.barriers.length := by simp at g; omega
   exact aH ⟨_, rfl, tno fun e => q (by have := e.lbarriers; simpa [StateH.pure, ProgH.pure] using this), rfl⟩ (fun _ => rfl)
 have c5 : s.barriers.length = p.barriers.length := by simp at g; omega
 apply CaseB.mk <;> intro g
 · have q : ¬ s.chans.length = p.rooms.length := by simp at g; omega
   exact aH ⟨_, rfl, tno fun e => q (by have := e.lchans; simpa [StateH.pure, ProgH.pure] using this), rfl⟩ (fun _ => rfl)
 have c6 : s.chans.length = p.rooms.length := by simp at g; omega
 apply CaseB.mk <;> intro g
 · have q : ¬ s.onces.length = 3 := by simp at g; omega
   exact aH ⟨_, rfl, tno fun e => q (by have := e.lonces; simpa [StateH.pure, ProgH.pure] using this), rfl⟩ (fun _ => rfl)
 have c3 : s.onces.length = 3 := by simp at g; omega
 apply CaseB.mk <;> intro g
 · have q : ¬ s.said.length ≤ 64 := by have g' := of_decide_eq_true g; omega
   exact aH ⟨_, rfl, tno fun e => q e.lsaid, rfl⟩ (fun _ => rfl)
 have c7 : s.said.length ≤ 64 := by have g' := of_decide_eq_false g; omega
 apply CaseB.mk <;> intro g
 · have q : ¬ 0 ≤ s.fault := by have g' := of_decide_eq_true g; omega
   exact aH ⟨_, rfl, tno fun e => q e.f0, rfl⟩ (fun _ => rfl)
 have c8 : 0 ≤ s.fault := by have g' := of_decide_eq_false g; omega
 apply CaseB.mk <;> intro g
 · have q : ¬ s.fault ≤ 4 := by have g' := of_decide_eq_true g; omega
   exact aH ⟨_, rfl, tno fun e => q e.f4, rfl⟩ (fun _ => rfl)
 have c9 : s.fault ≤ 4 := by have g' := of_decide_eq_false g; omega
 have n4 : p.threads.length ≤ 4 := by have := ok.n4; rwa [lt] at this
 have m0 : p.sems.length ≤ 3 := ok.sems.1
 have m1 : p.groups.length ≤ 3 := ok.groups.1
 have m2 : p.barriers.length ≤ 3 := ok.barriers.1
 have m3 : p.rooms.length ≤ 3 := ok.rooms.1
 refine LoopW.mk ⟨{ k : Nat // k ≤ s.sems.length ∧ ∀ (i : Nat) x, i < k → s.pure.sems[i]? = some x → SemOk x ∧ p.pure.sems[i]? = some x.limit },
   fun k => .mk [(2, .p 0 0), (3, .p 1 0), (106, .v (s.h2.val s.sems.length)), (107, .v (.int .i64 (s.sems.length : Int))), (108, .v (.int .i64 (k.1 : Int)))] 2 0 [(0, 26, 5), (1, 35, 9)] [((0, 0), .v (p.h0.val p.sems.length)), ((0, 1), .v (p.h1.val p.groups.length)), ((0, 2), .v (p.h2.val p.barriers.length)), ((0, 3), .v (p.h3.val p.rooms.length)), ((0, 4), .v (p.h4.val p.threads.length)), ((1, 0), .v (s.h0.val s.places.length)), ((1, 1), .v (s.h1.val s.status.length)), ((1, 2), .v (s.h2.val s.sems.length)), ((1, 3), .v (s.h3.val s.onces.length)), ((1, 4), .v (s.h4.val s.groups.length)), ((1, 5), .v (s.h5.val s.barriers.length)), ((1, 6), .v (s.h6.val s.chans.length)), ((1, 7), .v (s.h7.val s.said.length)), ((1, 8), .v (.int .i64 s.fault))] [fR (aY p), fR (aK s)],
   fun k => s.sems.length - k.1, ⟨0, Nat.zero_le _, fun i x hi => by omega⟩, ?_, ?_⟩
 · exact aC [0, 1] zw2 zw0 zw2 zw5 zw4 rfl rfl
 rintro ⟨k, hk, hinv⟩
 apply CaseB.mk <;> intro g
 · have hlt : k < s.sems.length := by simpa using g
   have hw := bD k _ hlt (by omega)
   have hat : s.pure.sems[k]? = some (s.sems[k]).m := by simp [StateH.pure, hlt]
   have hsm := (bM b2).2 _ (List.getElem_mem hlt)
   unfold Sem.small20 at hsm
   refine aG cZ aA rfl rfl rfl rfl rfl ⟨rfl, rfl⟩ (aL 1 rfl (.trans (.R_R (bU s)) (.ofR aX))) k rfl z43 (fun ad => ?_)
   refine aF aA z102 z102 z102 200 [((0, 0), .v (p.h0.val p.sems.length)), ((2, 0), .v (.int .i64 (s.sems[k]).m.free)), ((2, 1), .v (.int .i64 (s.sems[k]).m.limit)), ((2, 2), .v ((s.sems[k]).q.val (s.sems[k]).m.queue.length))] [0] [_] z122 z138 ⟨rfl, trivial⟩ rfl ?_
   refine bN _ iZ0 rfl rfl rfl rfl ⟨rfl, rfl⟩ (fun A w hW => sB _ _ w ⟨hW.get 1 rfl (.trans (.R_R (bU s)) (.ofR (iV _ _ k hlt))), trivial⟩ (by omega)) ?_
   rintro v L ⟨bb, rfl, hbb, rfl⟩
   apply CaseB.mk <;> intro g
   · exact aH ⟨_, rfl, tno fun e => (by rw [hbb.2 ((e.sems k _ hat).1)] at g; cases g), rfl⟩ (fun _ => rfl)
   have q1 := hbb.1 z98
   have hlp : k < p.sems.length := by omega
   have hpat : p.pure.sems[k]? = some p.sems[k] := by simp [ProgH.pure, hlp]
   refine bO (ti := aU tab) aE aA rfl rfl rfl rfl rfl ⟨rfl, rfl⟩ (aL 0 rfl (.ofR (eM p))) k rfl z43 (fun ad2 => ?_)
   apply CaseB.mk <;> intro g
   · have q : ¬ (s.sems[k]).m.limit = p.sems[k] := by simpa using g
     exact aH ⟨_, rfl, tno fun e => q z54, rfl⟩ (fun _ => rfl)
   have q2 : (s.sems[k]).m.limit = p.sems[k] := by simpa using g
   refine ⟨⟨k + 1, by omega, fun i x hi hx => ?_⟩, ?_, by simp only; omega⟩
   · by_cases e : i < k
     · exact hinv i x e hx
     · obtain rfl : i = k := by omega
       rw [hat] at hx
       injection hx with hx
       subst hx
       exact ⟨q1, by rw [hpat, q2]⟩
   · exact aC [0, 1] zw1 zw0 zw1 zw5 zw3 rfl rfl
 have hge : s.sems.length ≤ k := by simpa using g
 have vsems : ∀ (i : Nat) x, s.pure.sems[i]? = some x → SemOk x ∧ p.pure.sems[i]? = some x.limit := fun i x hx => hinv i x z80 hx
 refine LoopW.mk ⟨{ k : Nat // k ≤ s.groups.length ∧ ∀ (i : Nat) x, i < k → s.pure.groups[i]? = some x → fD x },
   fun k => .mk [(2, .p 0 0), (3, .p 1 0), (128, .v (s.h4.val s.groups.length)), (129, .v (.int .i64 (s.groups.length : Int))), (130, .v (.int .i64 (k.1 : Int)))] 2 0 [(0, 26, 5), (1, 35, 9)] [((0, 0), .v (p.h0.val p.sems.length)), ((0, 1), .v (p.h1.val p.groups.length)), ((0, 2), .v (p.h2.val p.barriers.length)), ((0, 3), .v (p.h3.val p.rooms.length)), ((0, 4), .v (p.h4.val p.threads.length)), ((1, 0), .v (s.h0.val s.places.length)), ((1, 1), .v (s.h1.val s.status.length)), ((1, 2), .v (s.h2.val s.sems.length)), ((1, 3), .v (s.h3.val s.onces.length)), ((1, 4), .v (s.h4.val s.groups.length)), ((1, 5), .v (s.h5.val s.barriers.length)), ((1, 6), .v (s.h6.val s.chans.length)), ((1, 7), .v (s.h7.val s.said.length)), ((1, 8), .v (.int .i64 s.fault))] [fR (aY p), fR (aK s)],
   fun k => s.groups.length - k.1, ⟨0, Nat.zero_le _, fun i x hi => by omega⟩, ?_, ?_⟩
 · exact aC [0, 1] zw2 zw0 zw2 zw5 zw4 rfl rfl
 rintro ⟨k, hk, hinv⟩
 apply CaseB.mk <;> intro g
 · have hlt : k < s.groups.length := by simpa using g
   have hw := bD k _ hlt (by omega)
   have hat : s.pure.groups[k]? = some (s.groups[k]).m := by simp [StateH.pure, hlt]
   have hsm := (bM b4).2 _ (List.getElem_mem hlt)
   unfold Group.small20 at hsm
   refine aG cI aA rfl rfl rfl rfl rfl ⟨rfl, rfl⟩ (aL 1 rfl (.trans (.R_R (bL s)) (.ofR aX))) k rfl z43 (fun ad => ?_)
   refine aB _ jA0 rfl rfl rfl rfl ⟨rfl, rfl⟩ (fun A w hW => oV _ _ w ⟨hW.get 1 rfl (.trans (.R_R (bL s)) (.ofR (eK _ _ k hlt))), trivial⟩ (by omega)) ?_
   rintro v L ⟨bb, rfl, hbb, rfl⟩
   apply CaseB.mk <;> intro g
   · exact aH ⟨_, rfl, tno fun e => (by rw [hbb.2 (e.groups _ (List.mem_of_getElem? hat))] at g; cases g), rfl⟩ (fun _ => rfl)
   have q1 := hbb.1 z98
   refine ⟨⟨k + 1, by omega, fun i x hi hx => ?_⟩, ?_, by simp only; omega⟩
   · by_cases e : i < k
     · exact hinv i x e hx
     · obtain rfl : i = k := by omega
       rw [hat] at hx
       injection hx with hx
       subst hx
       exact q1
   · exact aC [0, 1] zw1 zw0 zw1 zw5 zw3 rfl rfl
 have hge : s.groups.length ≤ k := by simpa using g
 have vgroups : ∀ (i : Nat) x, s.pure.groups[i]? = some x → fD x := fun i x hx => hinv i x z80 hx
 refine LoopW.mk ⟨{ k : Nat // k ≤ s.barriers.length ∧ ∀ (i : Nat) x, i < k → s.pure.barriers[i]? = some x → dP x ∧ p.pure.barriers[i]? = some x.parties },
   fun k => .mk [(2, .p 0 0), (3, .p 1 0), (139, .v (s.h5.val s.barriers.length)), (140, .v (.int .i64 (s.barriers.length : Int))), (141, .v (.int .i64 (k.1 : Int)))] 2 0 [(0, 26, 5), (1, 35, 9)] [((0, 0), .v (p.h0.val p.sems.length)), ((0, 1), .v (p.h1.val p.groups.length)), ((0, 2), .v (p.h2.val p.barriers.length)), ((0, 3), .v (p.h3.val p.rooms.length)), ((0, 4), .v (p.h4.val p.threads.length)), ((1, 0), .v (s.h0.val s.places.length)), ((1, 1), .v (s.h1.val s.status.length)), ((1, 2), .v (s.h2.val s.sems.length)), ((1, 3), .v (s.h3.val s.onces.length)), ((1, 4), .v (s.h4.val s.groups.length)), ((1, 5), .v (s.h5.val s.barriers.length)), ((1, 6), .v (s.h6.val s.chans.length)), ((1, 7), .v (s.h7.val s.said.length)), ((1, 8), .v (.int .i64 s.fault))] [fR (aY p), fR (aK s)],
   fun k => s.barriers.length - k.1, ⟨0, Nat.zero_le _, fun i x hi => by omega⟩, ?_, ?_⟩
 · exact aC [0, 1] zw2 zw0 zw2 zw5 zw4 rfl rfl
 rintro ⟨k, hk, hinv⟩
 apply CaseB.mk <;> intro g
 · have hlt : k < s.barriers.length := by simpa using g
   have hw := bD k _ hlt (by omega)
   have hat : s.pure.barriers[k]? = some (s.barriers[k]).m := by simp [StateH.pure, hlt]
   have hsm := (bM b5).2 _ (List.getElem_mem hlt)
   unfold Barrier.small20 at hsm
   refine aG cA aA rfl rfl rfl rfl rfl ⟨rfl, rfl⟩ (aL 1 rfl (.trans (.R_R (bJ s)) (.ofR aX))) k rfl z43 (fun ad => ?_)
   refine aF aA z102 z102 z102 200 [((0, 2), .v (p.h2.val p.barriers.length)), ((2, 0), .v (.int .i64 (s.barriers[k]).m.parties)), ((2, 1), .v (.int .i64 (s.barriers[k]).m.round)), ((2, 2), .v ((s.barriers[k]).q.val (s.barriers[k]).m.waits.length))] [0] [_] z122 z138 ⟨rfl, trivial⟩ rfl ?_
   refine bN _ nI0 rfl rfl rfl rfl ⟨rfl, rfl⟩ (fun A w hW => qB _ _ w ⟨hW.get 1 rfl (.trans (.R_R (bJ s)) (.ofR (dO _ _ k hlt))), trivial⟩ (by omega)) ?_
   rintro v L ⟨bb, rfl, hbb, rfl⟩
   apply CaseB.mk <;> intro g
   · exact aH ⟨_, rfl, tno fun e => (by rw [hbb.2 ((e.barriers k _ hat).1)] at g; cases g), rfl⟩ (fun _ => rfl)
   have q1 := hbb.1 z98
   have hlp : k < p.barriers.length := by omega
   have hpat : p.pure.barriers[k]? = some p.barriers[k] := by simp [ProgH.pure, hlp]
   refine bO (ti := aU tab) aE aA rfl rfl rfl rfl rfl ⟨rfl, rfl⟩ (aL 0 rfl (.ofR (eH p))) k rfl z43 (fun ad2 => ?_)
   apply CaseB.mk <;> intro g
   · have q : ¬ (s.barriers[k]).m.parties = p.barriers[k] := by simpa using g
     exact aH ⟨_, rfl, tno fun e => q z51, rfl⟩ (fun _ => rfl)
   have q2 : (s.barriers[k]).m.parties = p.barriers[k] := by simpa using g
   refine ⟨⟨k + 1, by omega, fun i x hi hx => ?_⟩, ?_, by simp only; omega⟩
   · by_cases e : i < k
     · exact hinv i x e hx
     · obtain rfl : i = k := by omega
       rw [hat] at hx
       injection hx with hx
       subst hx
       exact ⟨q1, by rw [hpat, q2]⟩
   · exact aC [0, 1] zw1 zw0 zw1 zw5 zw3 rfl rfl
 have hge : s.barriers.length ≤ k := by simpa using g
 have vbarriers : ∀ (i : Nat) x, s.pure.barriers[i]? = some x → dP x ∧ p.pure.barriers[i]? = some x.parties := fun i x hx => hinv i x z80 hx
 refine LoopW.mk ⟨{ k : Nat // k ≤ s.chans.length ∧ ∀ (i : Nat) x, i < k → s.pure.chans[i]? = some x → x.valid = true ∧ p.pure.rooms[i]? = some x.room },
   fun k => .mk [(2, .p 0 0), (3, .p 1 0), (161, .v (s.h6.val s.chans.length)), (162, .v (.int .i64 (s.chans.length : Int))), (163, .v (.int .i64 (k.1 : Int)))] 2 0 [(0, 26, 5), (1, 35, 9)] [((0, 0), .v (p.h0.val p.sems.length)), ((0, 1), .v (p.h1.val p.groups.length)), ((0, 2), .v (p.h2.val p.barriers.length)), ((0, 3), .v (p.h3.val p.rooms.length)), ((0, 4), .v (p.h4.val p.threads.length)), ((1, 0), .v (s.h0.val s.places.length)), ((1, 1), .v (s.h1.val s.status.length)), ((1, 2), .v (s.h2.val s.sems.length)), ((1, 3), .v (s.h3.val s.onces.length)), ((1, 4), .v (s.h4.val s.groups.length)), ((1, 5), .v (s.h5.val s.barriers.length)), ((1, 6), .v (s.h6.val s.chans.length)), ((1, 7), .v (s.h7.val s.said.length)), ((1, 8), .v (.int .i64 s.fault))] [fR (aY p), fR (aK s)],
   fun k => s.chans.length - k.1, ⟨0, Nat.zero_le _, fun i x hi => by omega⟩, ?_, ?_⟩
 · exact aC [0, 1] zw2 zw0 zw2 zw5 zw4 rfl rfl
 rintro ⟨k, hk, hinv⟩
 apply CaseB.mk <;> intro g
 · have hlt : k < s.chans.length := by simpa using g
   have hw := bD k _ hlt (by omega)
   have hat : s.pure.chans[k]? = some (s.chans[k]).m := by simp [StateH.pure, hlt]
   have hsm := (bM b6).2 _ (List.getElem_mem hlt)
   unfold Chan.small20 at hsm
   refine aG cN aA rfl rfl rfl rfl rfl ⟨rfl, rfl⟩ (aL 1 rfl (.trans (.R_R (aQ s)) (.ofR aX))) k rfl z43 (fun ad => ?_)
   refine aF aA z102 z102 z102 200 [((0, 3), .v (p.h3.val p.rooms.length)), ((2, 0), .v (.int .i64 (s.chans[k]).m.room)), ((2, 1), .v ((s.chans[k]).q0.val (s.chans[k]).m.items.length)), ((2, 2), .v ((s.chans[k]).q1.val (s.chans[k]).m.senders.length)), ((2, 3), .v ((s.chans[k]).q2.val (s.chans[k]).m.getters.length)), ((2, 4), .v (.bool (s.chans[k]).m.closed))] [0] [_] z114 z130 ⟨rfl, trivial⟩ rfl ?_
   refine bN _ fI0 rfl rfl rfl rfl ⟨rfl, rfl⟩ (fun A w hW => wC _ _ _ _ w ⟨hW.get 1 rfl (.trans (.R_R (aQ s)) (.ofR (kO _ _ k hlt))), hW.get 1 rfl (.trans (.R_R (aQ s)) (.ofR (gJ _ _ k hlt))), hW.get 1 rfl (.trans (.R_R (aQ s)) (.ofR (hH _ _ k hlt))), trivial⟩ ⟨by omega, by omega, by omega⟩) ?_
   rintro v L ⟨rfl, rfl⟩
   apply CaseB.mk <;> intro g
   · exact aH ⟨_, rfl, tno fun e => (by rw [(e.chans k _ hat).1] at g; cases g), rfl⟩ (fun _ => rfl)
   have q1 : (s.chans[k]).m.valid = true := by simpa using g
   have hlp : k < p.rooms.length := by omega
   have hpat : p.pure.rooms[k]? = some p.rooms[k] := by simp [ProgH.pure, hlp]
   refine bO (ti := aU tab) aE aA rfl rfl rfl rfl rfl ⟨rfl, rfl⟩ (aL 0 rfl (.ofR (gN p))) k rfl z43 (fun ad2 => ?_)
   apply CaseB.mk <;> intro g
   · have q : ¬ (s.chans[k]).m.room = p.rooms[k] := by simpa using g
     exact aH ⟨_, rfl, tno fun e => q z53, rfl⟩ (fun _ => rfl)
   have q2 : (s.chans[k]).m.room = p.rooms[k] := by simpa using g
   refine ⟨⟨k + 1, by omega, fun i x hi hx => ?_⟩, ?_, by simp only; omega⟩
   · by_cases e : i < k
     · exact hinv i x e hx
     · obtain rfl : i = k := by omega
       rw [hat] at hx
       injection hx with hx
       subst hx
       exact ⟨q1, by rw [hpat, q2]⟩
   · exact aC [0, 1] zw1 zw0 zw1 zw5 zw3 rfl rfl
 have hge : s.chans.length ≤ k := by simpa using g
 have vchans : ∀ (i : Nat) x, s.pure.chans[i]? = some x → x.valid = true ∧ p.pure.rooms[i]? = some x.room := fun i x hx => hinv i x z80 hx
 refine LoopW.mk ⟨{ k : Nat // k ≤ s.onces.length ∧ ∀ (i : Nat) x, i < k → s.pure.onces[i]? = some x → eI x },
   fun k => .mk [(2, .p 0 0), (3, .p 1 0), (183, .v (s.h3.val s.onces.length)), (184, .v (.int .i64 (s.onces.length : Int))), (185, .v (.int .i64 (k.1 : Int)))] 2 0 [(0, 26, 5), (1, 35, 9)] [((0, 0), .v (p.h0.val p.sems.length)), ((0, 1), .v (p.h1.val p.groups.length)), ((0, 2), .v (p.h2.val p.barriers.length)), ((0, 3), .v (p.h3.val p.rooms.length)), ((0, 4), .v (p.h4.val p.threads.length)), ((1, 0), .v (s.h0.val s.places.length)), ((1, 1), .v (s.h1.val s.status.length)), ((1, 2), .v (s.h2.val s.sems.length)), ((1, 3), .v (s.h3.val s.onces.length)), ((1, 4), .v (s.h4.val s.groups.length)), ((1, 5), .v (s.h5.val s.barriers.length)), ((1, 6), .v (s.h6.val s.chans.length)), ((1, 7), .v (s.h7.val s.said.length)), ((1, 8), .v (.int .i64 s.fault))] [fR (aY p), fR (aK s)],
   fun k => s.onces.length - k.1, ⟨0, Nat.zero_le _, fun i x hi => by omega⟩, ?_, ?_⟩
 · exact aC [0, 1] zw2 zw0 zw2 zw5 zw4 rfl rfl
 rintro ⟨k, hk, hinv⟩
 apply CaseB.mk <;> intro g
 · have hlt : k < s.onces.length := by simpa using g
   have hw := bD k _ hlt (by omega)
   have hat : s.pure.onces[k]? = some (s.onces[k]).m := by simp [StateH.pure, hlt]
   have hsm := (bM b3).2 _ (List.getElem_mem hlt)
   unfold Once.small20 at hsm
   refine aG cX aA rfl rfl rfl rfl rfl ⟨rfl, rfl⟩ (aL 1 rfl (.trans (.R_R (bW s)) (.ofR aX))) k rfl z43 (fun ad => ?_)
   refine aB _ jB0 rfl rfl rfl rfl ⟨rfl, rfl⟩ (fun A w hW => qA _ _ w ⟨hW.get 1 rfl (.trans (.R_R (bW s)) (.ofR (hC _ _ k hlt))), trivial⟩ (by omega)) ?_
   rintro v L ⟨bb, rfl, hbb, rfl⟩
   apply CaseB.mk <;> intro g
   · exact aH ⟨_, rfl, tno fun e => (by rw [hbb.2 (e.onces _ (List.mem_of_getElem? hat))] at g; cases g), rfl⟩ (fun _ => rfl)
   have q1 := hbb.1 z98
   refine ⟨⟨k + 1, by omega, fun i x hi hx => ?_⟩, ?_, by simp only; omega⟩
   · by_cases e : i < k
     · exact hinv i x e hx
     · obtain rfl : i = k := by omega
       rw [hat] at hx
       injection hx with hx
       subst hx
       exact q1
   · exact aC [0, 1] zw1 zw0 zw1 zw5 zw3 rfl rfl
 have hge : s.onces.length ≤ k := by simpa using g
 have vonces : ∀ (i : Nat) x, s.pure.onces[i]? = some x → eI x := fun i x hx => hinv i x z80 hx
 refine LoopW.mk ⟨{ k : Nat // k ≤ s.said.length ∧ ∀ x ∈ s.said.take k, aV x = true },
   fun k => .mk [(2, .p 0 0), (3, .p 1 0), (194, .v (s.h7.val s.said.length)), (195, .v (.int .i64 (s.said.length : Int))), (196, .v (.int .i64 (k.1 : Int)))] 2 0 [(0, 26, 5), (1, 35, 9)] [((0, 0), .v (p.h0.val p.sems.length)), ((0, 1), .v (p.h1.val p.groups.length)), ((0, 2), .v (p.h2.val p.barriers.length)), ((0, 3), .v (p.h3.val p.rooms.length)), ((0, 4), .v (p.h4.val p.threads.length)), ((1, 0), .v (s.h0.val s.places.length)), ((1, 1), .v (s.h1.val s.status.length)), ((1, 2), .v (s.h2.val s.sems.length)), ((1, 3), .v (s.h3.val s.onces.length)), ((1, 4), .v (s.h4.val s.groups.length)), ((1, 5), .v (s.h5.val s.barriers.length)), ((1, 6), .v (s.h6.val s.chans.length)), ((1, 7), .v (s.h7.val s.said.length)), ((1, 8), .v (.int .i64 s.fault))] [fR (aY p), fR (aK s)],
   fun k => s.said.length - k.1, ⟨0, Nat.zero_le _, by simp⟩, ?_, ?_⟩
 · exact aC [0, 1] zw2 zw0 zw2 zw5 zw4 rfl rfl
 rintro ⟨k, hk, hinv⟩
 apply CaseB.mk <;> intro g
 · have hlt : k < s.said.length := by simpa using g
   have hw := bD k _ hlt (by omega)
   refine aG aE aA rfl rfl rfl rfl rfl ⟨rfl, rfl⟩ (aL 1 rfl (.ofR (fM s))) k rfl z43 (fun ad => ?_)
   refine aB _ pT rfl rfl rfl rfl ⟨rfl, rfl⟩ (fun A w hW => gE _ w) ?_
   rintro v L ⟨rfl, rfl⟩
   apply CaseB.mk <;> intro g
   · exact aH ⟨_, rfl, tno fun e => (by rw [e.said _ (List.getElem_mem (l := s.said) hlt)] at g; cases g), rfl⟩ (fun _ => rfl)
   refine ⟨⟨k + 1, by omega, fun x hx => ?_⟩, ?_, by simp only; omega⟩
   · rw [List.take_succ_eq_append_getElem hlt] at hx
     rcases List.mem_append.1 hx with hx | hx
     · exact hinv x hx
     · simp at hx; subst hx; simpa using g
   · exact aC [0, 1] zw1 zw0 zw1 zw5 zw3 rfl rfl
 have hge : s.said.length ≤ k := by simpa using g
 have vsaid : ∀ x ∈ s.said, aV x = true := by rw [List.take_of_length_le hge] at hinv; exact hinv
 have hN : (bH s.pure).length ≤ 1048576 := by
   have ge : ∀ {α : Type} {xs : List α} {Q : α → Prop}, (∀ (i : Nat) x, xs[i]? = some x → Q x) → ∀ x ∈ xs, Q x := fun h x hx => by
     obtain ⟨i, hi⟩ := List.getElem?_of_mem hx
     exact h i x hi
   have e1 := oW (f := dH) (C := 6) (i := 0) (xs := s.pure.sems) fun i x hx => by
     have := (ge (Q := SemOk) (fun i x h => (vsems i x h).1) x hx).q6; simpa [dH] using this
   have e2 := oW (f := cR) (C := 6) (i := 0) (xs := s.pure.onces) fun i x hx => by
     have := eZ (ge vonces x hx); simpa [cR] using this
   have e3 := oW (f := cT) (C := 6) (i := 0) (xs := s.pure.groups) fun i x hx => by
     have := fQ (ge vgroups x hx); simpa [cT] using this
   have e4 := oW (f := cK) (C := 6) (i := 0) (xs := s.pure.barriers) fun i x hx => by
     have := gA (ge (Q := dP) (fun i x h => (vbarriers i x h).1) x hx); simpa [cK] using this
   have e5 := oW (f := dC) (C := 6) (i := 0) (xs := s.pure.chans) fun i x hx => by
     have := mX (ge (Q := fun x => x.valid = true) (fun i x h => (vchans i x h).1) x hx); simpa [dC] using this
   simp only [bH, List.length_append]
   omega
 refine aB _ cl125 rfl rfl rfl rfl ⟨rfl, rfl⟩ (fun A w hW => aP0 s w ⟨hW.get 1 rfl (.refl _), trivial⟩ hN ⟨by omega, by omega, by omega, by omega, by omega⟩) ?_
 rintro v L ⟨r, r2, ps, os, rfl, hps, hos, rfl⟩
 have kps : lN ps := cI0.1 (by rw [hps]; exact vL _)
 have kos : lN os := cI0.1 (by rw [hos]; exact vL _)
 refine LoopW.mk ⟨{ q : Nat × List (Int × LH Waiting) × List (Int × LH Int) // q.1 ≤ p.threads.length ∧ Left ps q.2.1 q.1 ∧ Left os q.2.2 q.1 ∧ ∀ (t : Nat) ops at_ st, t < q.1 → p.pure.threads[t]? = some ops → s.pure.places[t]? = some at_ → s.pure.status[t]? = some st → lO ops at_ st (aN (bH s.pure) t) (aN (cJ s.pure) t) },
   fun q => .mk [(2, .p 0 0), (3, .p 1 0), (18, .v (.map (some r))), (19, .v (.map (some r2))), (210, .v (p.h4.val p.threads.length)), (211, .v (.int .i64 (p.threads.length : Int))), (212, .v (.int .i64 (q.1.1 : Int)))] 2 0 [(0, 26, 5), (1, 35, 9)] [((0, 0), .v (p.h0.val p.sems.length)), ((0, 1), .v (p.h1.val p.groups.length)), ((0, 2), .v (p.h2.val p.barriers.length)), ((0, 3), .v (p.h3.val p.rooms.length)), ((0, 4), .v (p.h4.val p.threads.length)), ((1, 0), .v (s.h0.val s.places.length)), ((1, 1), .v (s.h1.val s.status.length)), ((1, 2), .v (s.h2.val s.sems.length)), ((1, 3), .v (s.h3.val s.onces.length)), ((1, 4), .v (s.h4.val s.groups.length)), ((1, 5), .v (s.h5.val s.barriers.length)), ((1, 6), .v (s.h6.val s.chans.length)), ((1, 7), .v (s.h7.val s.said.length)), ((1, 8), .v (.int .i64 s.fault))] [fMW r q.1.2.1, kD r2 rD q.1.2.2, fO (rW ps), fO (rI os), fR (aY p), fR (aK s)],
   fun q => p.threads.length - q.1.1, ⟨(0, ps, os), Nat.zero_le _, Left.start kps, Left.start kos, fun t _ _ _ ht => by simp only at ht; omega⟩, ?_, ?_⟩
 · exact aC [0, 2, 1, 3, 4, 5] zw2 zw0 zw2 zw5 zw4 rfl rfl
 rintro ⟨⟨k, qs, ts⟩, hk, lq, lo, hinv⟩
 simp only at hk lq lo hinv
 apply CaseB.mk <;> intro g
 rotate_left
 · have hge : k = p.threads.length := by have g' : ¬ (k : Int) < p.threads.length := by simpa using g
                                         omega
   subst hge
   have dq := lq.done hps
   have dn := lo.done hos
   have fin : (∀ e ∈ bH s.pure, 0 ≤ e.1 ∧ e.1 < p.threads.length) → (∀ e ∈ cJ s.pure, 0 ≤ e.1 ∧ e.1 < p.threads.length) → Fits p.pure s.pure := fun h1 h2 =>
     ⟨ok, by rw [lt]; exact c0, by rw [lt]; exact c1, by rw [l2]; exact c2, by rw [l4]; exact c4, by rw [l5]; exact c5, by rw [l6]; exact c6, by rw [l3]; exact c3, c7, c8, c9, vsems, fun x hx => by obtain ⟨i, hi⟩ := List.getElem?_of_mem hx; exact vgroups i x hi, vbarriers, vchans, fun x hx => by obtain ⟨i, hi⟩ := List.getElem?_of_mem hx; exact vonces i x hi, vsaid,
       fun t ops a st ht => hinv t ops a st (by have := (List.getElem?_eq_some_iff.1 ht).1; rw [lt] at this; exact this) ht, by rw [lt]; exact h1, by rw [lt]; exact h2⟩
   refine zA 0 (kt := 3) (et := 177) rfl rfl rfl rfl rfl rfl ⟨rfl, rfl⟩ z102 ?_
   apply CaseB.mk <;> intro g
   · have q0 : qs = [] := by simpa using g
     refine zA 1 (kt := 3) (et := 23) rfl rfl rfl rfl rfl rfl ⟨rfl, rfl⟩ z102 ?_
     refine aH ⟨_, rfl, ?_, rfl⟩ (fun _ => rfl)
     constructor
     · intro g2
       exact fin (dq.1 q0) (dn.1 z93)
     · intro e
       have := dn.2 (by rw [← lt]; exact e.ow)
       simp [this]
   · have q0 : ¬ qs = [] := by simpa using g
     exact aH ⟨_, rfl, tno fun e => q0 (dq.2 (by rw [← lt]; exact e.ev)), rfl⟩ (fun _ => rfl)
 have hlt : k < p.threads.length := by simpa using g
 have hw := bD k _ hlt (by omega)
 have hops : p.pure.threads[k]? = some (p.threads[k]).m := by simp [ProgH.pure, hlt]
 have hlp : k < s.places.length := by omega
 have hls : k < s.status.length := by omega
 have hpl : s.pure.places[k]? = some s.places[k] := List.getElem?_eq_getElem hlp
 have hst : s.pure.status[k]? = some s.status[k] := List.getElem?_eq_getElem hls
 have hth : Fits p.pure s.pure → lO (p.threads[k]).m s.places[k] s.status[k] (aN (bH s.pure) k) (aN (cJ s.pure) k) := fun e => e.threads k _ _ _ hops hpl hst
 obtain ⟨u, hu⟩ : ∃ u, u = (cL qs (k : Int)).getD LH.nil := ⟨_, rfl⟩
 obtain ⟨o, ho⟩ : ∃ o, o = (cL ts (k : Int)).getD LH.nil := ⟨_, rfl⟩
 have hux : u.xs = aN (bH s.pure) k := by rw [hu]; exact lq.at hps
 have hox : o.xs = aN (cJ s.pure) k := by rw [ho]; exact lo.at hos
 have hnext : lO (p.threads[k]).m s.places[k] s.status[k] u.xs o.xs → ∀ (t : Nat) ops at_ st, t < k + 1 → p.pure.threads[t]? = some ops → s.pure.places[t]? = some at_ → s.pure.status[t]? = some st → lO ops at_ st (aN (bH s.pure) t) (aN (cJ s.pure) t) := fun hok t ops a st ht h1 h2 h3 => by
   by_cases e : t < k
   · exact hinv t ops a st e h1 h2 h3
   · obtain rfl : t = k := by omega
     rw [hops] at h1; rw [hpl] at h2; rw [hst] at h3
     injection h1 with h1; injection h2 with h2; injection h3 with h3
     subst h1; subst h2; subst h3
     rw [← hux, ← hox]; exact hok
 rw [← hux, ← hox] at hth
 refine aG dT aA rfl rfl rfl rfl rfl ⟨rfl, rfl⟩ (aL 4 rfl (.trans (.R_R (bB p)) (.ofR aX))) k rfl z43 (fun ad => ?_)
 refine aG aE aA rfl rfl rfl rfl rfl ⟨rfl, rfl⟩ (aL 5 rfl (.ofR (eF s))) k rfl z43 (fun ad2 => ?_)
 apply CaseB.mk <;> intro g
 · have q : ¬ 0 ≤ s.places[k] := by have g' := of_decide_eq_true g; omega
   exact aH ⟨_, rfl, tno fun e => q (hth e).1, rfl⟩ (fun _ => rfl)
 have a0 : 0 ≤ s.places[k] := by have g' := of_decide_eq_false g; omega
 apply CaseB.mk <;> intro g
 · have q : ¬ s.places[k] ≤ (p.threads[k]).m.length := by have g' := of_decide_eq_true g; omega
   exact aH ⟨_, rfl, tno fun e => q (hth e).2.1, rfl⟩ (fun _ => rfl)
 have a1 : s.places[k] ≤ (p.threads[k]).m.length := by have g' := of_decide_eq_false g; omega
 refine aF aA z102 z102 z102 200 [] [2, 3, 5] [_, _, _] trivial trivial ⟨rfl, rfl, rfl, trivial⟩ rfl ?_
 refine BothW.mk ?_ ?_
 refine lM 0 (qk := .i64) (kt := 3) (et := 177) (z := .slice none 0 0) rfl rfl rfl rfl ⟨rfl, rfl⟩ z102 z102 z102 (u.q.val u.xs.length) (by rw [hu]; cases cL qs (k : Int) <;> rfl) ?_
 refine lM 1 (qk := .i64) (kt := 3) (et := 23) (z := .slice none 0 0) rfl rfl rfl rfl ⟨rfl, rfl⟩ z102 z102 z102 (o.q.val o.xs.length) (by rw [ho]; cases cL ts (k : Int) <;> rfl) ?_
 rotate_left
 refine lM 1 (qk := .i64) (kt := 3) (et := 23) (z := .slice none 0 0) rfl rfl rfl rfl ⟨rfl, rfl⟩ z102 z102 z102 (o.q.val o.xs.length) (by rw [ho]; cases cL ts (k : Int) <;> rfl) ?_
 refine lM 0 (qk := .i64) (kt := 3) (et := 177) (z := .slice none 0 0) rfl rfl rfl rfl ⟨rfl, rfl⟩ z102 z102 z102 (u.q.val u.xs.length) (by rw [hu]; cases cL qs (k : Int) <;> rfl) ?_
 all_goals
   refine vJ 0 (qk := .i64) (kt := 3) (et := 177) rfl rfl rfl rfl rfl rfl rfl rfl z102 z102 _ rfl ?_
   refine vJ 1 (qk := .i64) (kt := 3) (et := 23) rfl rfl rfl rfl rfl rfl rfl rfl z102 z102 _ rfl ?_
   have lq' := lq.next
   have lo' := lo.next
   apply CaseB.mk <;> intro g
   · have ae : s.places[k] = (p.threads[k]).m.length := by simpa using g
     have hne : ∀ {op : Op}, (p.threads[k]).m[(s.places[k]).toNat]? = some op → False := fun h => by
       have := (List.getElem?_eq_some_iff.1 h).1; omega
     have hfin : Fits p.pure s.pure → s.status[k] = 3 ∧ u.xs = [] ∧ o.xs = [] := fun e => by
       rcases (hth e).2.2 with h | ⟨op, h, _⟩
       · exact h.2
       · exact (hne h).elim
     refine aG aE aA rfl rfl rfl rfl rfl ⟨rfl, rfl⟩ (aL 5 rfl (.ofR (cS s))) k rfl z43 (fun ad3 => ?_)
     apply CaseB.mk <;> intro g
     · have q : ¬ s.status[k] = 3 := by simpa using g
       exact aH ⟨_, rfl, tno fun e => q (hfin e).1, rfl⟩ (fun _ => rfl)
     have s3 : s.status[k] = 3 := by simpa using g
     apply CaseB.mk <;> intro g
     · have q : ¬ u.xs = [] := eL.1 g
       exact aH ⟨_, rfl, tno fun e => q (hfin e).2.1, rfl⟩ (fun _ => rfl)
     have ux : u.xs = [] := Classical.byContradiction fun n => by rw [eL.2 n] at g; cases g
     apply CaseB.mk <;> intro g
     · have q : ¬ o.xs = [] := eL.1 g
       exact aH ⟨_, rfl, tno fun e => q (hfin e).2.2, rfl⟩ (fun _ => rfl)
     have ox : o.xs = [] := Classical.byContradiction fun n => by rw [eL.2 n] at g; cases g
     refine ⟨⟨(k + 1, fP qs (k : Int), fP ts (k : Int)), by omega, lq', lo', hnext ⟨a0, a1, .inl ⟨ae, s3, ux, ox⟩⟩⟩, ?_, by simp only; omega⟩
     exact aC [1, 0, 2, 3, 4, 5] zw1 zw0 zw1 zw5 zw3 rfl rfl
   have ane : ¬ s.places[k] = (p.threads[k]).m.length := by simpa using g
   have hlo : (s.places[k]).toNat < (p.threads[k]).m.length := by omega
   obtain ⟨op, hop⟩ : ∃ op, (p.threads[k]).m[(s.places[k]).toNat]? = some op := ⟨_, List.getElem?_eq_getElem hlo⟩
   have hopg : (p.threads[k]).m[(s.places[k]).toNat] = op := by rw [List.getElem?_eq_getElem hlo] at hop; injection hop
   have hfin : Fits p.pure s.pure → (s.status[k] = 0 ∧ u.xs = [] ∧ o.xs = []) ∨ (s.status[k] = 1 ∧ o.xs = [] ∧ u.xs = [kE op]) ∨ (s.status[k] = 2 ∧ u.xs = [] ∧ op.kind = 4 ∧ o.xs = [op.on]) := fun e => by
     rcases (hth e).2.2 with h | ⟨op', h, h2⟩
     · exact (ane h.1).elim
     · rw [hop] at h; injection h with h; subst h; exact h2
   have hgood : (s.status[k] = 0 ∧ u.xs = [] ∧ o.xs = []) ∨ (s.status[k] = 1 ∧ o.xs = [] ∧ u.xs = [kE op]) ∨ (s.status[k] = 2 ∧ u.xs = [] ∧ op.kind = 4 ∧ o.xs = [op.on]) → lO (p.threads[k]).m s.places[k] s.status[k] u.xs o.xs := fun h => ⟨a0, a1, .inr ⟨op, hop, h⟩⟩
   refine aG oE aA rfl rfl rfl rfl rfl ⟨rfl, rfl⟩ (aL 4 rfl (.trans (.R_R (bB p)) (.ofR (fZ _ _ k hlt)))) (s.places[k]).toNat (by omega) z43 (fun ad3 => ?_)
   rw [hopg]
   refine aG aE aA rfl rfl rfl rfl rfl ⟨rfl, rfl⟩ (aL 5 rfl (.ofR (cS s))) k rfl z43 (fun ad4 => ?_)
   refine CaseB.mk (fun g => ?_) (fun g0 => ?_)
   · have s0 : s.status[k] = 0 := by simpa using g
     have hf0 : Fits p.pure s.pure → u.xs = [] ∧ o.xs = [] := fun e => by
       rcases hfin e with h | h | h
       · exact h.2
       · rw [s0] at h; exact absurd h.1 (by decide)
       · rw [s0] at h; exact absurd h.1 (by decide)
     apply CaseB.mk <;> intro g
     · have q : ¬ u.xs = [] := eL.1 g
       exact aH ⟨_, rfl, tno fun e => q (hf0 e).1, rfl⟩ (fun _ => rfl)
     have ux : u.xs = [] := Classical.byContradiction fun n => by rw [eL.2 n] at g; cases g
     apply CaseB.mk <;> intro g
     · have q : ¬ o.xs = [] := eL.1 g
       exact aH ⟨_, rfl, tno fun e => q (hf0 e).2, rfl⟩ (fun _ => rfl)
     have ox : o.xs = [] := Classical.byContradiction fun n => by rw [eL.2 n] at g; cases g
     refine ⟨⟨(k + 1, fP qs (k : Int), fP ts (k : Int)), by omega, lq', lo', hnext (hgood (.inl ⟨s0, ux, ox⟩))⟩, ?_, by simp only; omega⟩
     exact aC [1, 0, 2, 3, 4, 5] zw1 zw0 zw1 zw5 zw3 rfl rfl
   have n0 : ¬ s.status[k] = 0 := by simpa using g0
   refine CaseB.mk (fun g => ?_) (fun g1 => ?_)
   · have s1 : s.status[k] = 1 := by simpa using g
     have hf1 : Fits p.pure s.pure → o.xs = [] ∧ u.xs = [kE op] := fun e => by
       rcases hfin e with h | h | h
       · rw [s1] at h; exact absurd h.1 (by decide)
       · exact h.2
       · rw [s1] at h; exact absurd h.1 (by decide)
     apply CaseB.mk <;> intro g
     · have hk2 : op.kind = 2 ∨ op.kind = 8 := .inl z98
       have hwant : kE op = ⟨op.kind, op.on, op.arg⟩ := by simp only [kE, if_pos hk2]
       refine aF aA z102 z102 z102 200 [((3, 0), .v (.int .i64 op.kind)), ((3, 1), .v (.int .i64 op.on)), ((3, 2), .v (.int .i64 op.arg))] [2] [_] z129 z141 ⟨rfl, trivial⟩ rfl ?_
       apply CaseB.mk <;> intro g
       · have q : ¬ o.xs = [] := eL.1 g
         exact aH ⟨_, rfl, tno fun e => q (hf1 e).1, rfl⟩ (fun _ => rfl)
       have ox : o.xs = [] := Classical.byContradiction fun n => by rw [eL.2 n] at g; cases g
       apply CaseB.mk <;> intro g
       · have q : ¬ u.xs.length = 1 := by simp at g; omega
         exact aH ⟨_, rfl, tno fun e => q (by rw [(hf1 e).2]; rfl), rfl⟩ (fun _ => rfl)
       have ul : u.xs.length = 1 := by simp at g; omega
       obtain ⟨u0, huu⟩ : ∃ u0, u.xs = [u0] := by
         match hx : u.xs, ul with
         | [x], _ => exact ⟨x, rfl⟩
       have hin : ((k : Int), u) ∈ ps := by
         refine lq.sub.subset (wD ?_)
         cases hq : cL qs (k : Int) with
         | none => rw [hq] at hu; rw [hu] at ul; simp [LH.nil] at ul
         | some z => rw [hq] at hu; rw [hu]; rfl
       refine bO (ti := aU tab) tA aA rfl rfl rfl rfl rfl ⟨rfl, rfl⟩ (aL 0 rfl (.ofO (wE hin))) 0 rfl z43 (fun ad5 => ?_)
       have hg0 : ∀ h0, u.xs[0]'h0 = u0 := fun h0 => by simp [huu]
       rw [hg0]
       refine kT rfl rfl rfl ⟨rfl, rfl⟩ (.bool (decide (u0 ≠ (⟨op.kind, op.on, op.arg⟩ : Waiting)))) (fun w => (run_eqGuard_agg w _ _ _ _ _ _ z102)) (fun w => (eE0 u0 ⟨op.kind, op.on, op.arg⟩ w)) ?_
       apply CaseB.mk <;> intro g
       · have q : ¬ u0 = (⟨op.kind, op.on, op.arg⟩ : Waiting) := by simpa using g
         exact aH ⟨_, rfl, tno fun e => q z73, rfl⟩ (fun _ => rfl)
       have ue : u0 = (⟨op.kind, op.on, op.arg⟩ : Waiting) := by simpa using g
       refine ⟨⟨(k + 1, fP qs (k : Int), fP ts (k : Int)), by omega, lq', lo', hnext (hgood (.inr (.inl ⟨s1, ox, by rw [huu, ue, hwant]⟩)))⟩, ?_, by simp only; omega⟩
       exact aC [1, 0, 2, 3, 4, 5] zw1 zw0 zw1 zw5 zw3 rfl rfl
     · have hn2 : ¬ op.kind = 2 := by simpa using g
       apply CaseB.mk <;> intro g
       · have hk2 : op.kind = 2 ∨ op.kind = 8 := .inr z98
         have hwant : kE op = ⟨op.kind, op.on, op.arg⟩ := by simp only [kE, if_pos hk2]
         refine aF aA z102 z102 z102 200 [((3, 0), .v (.int .i64 op.kind)), ((3, 1), .v (.int .i64 op.on)), ((3, 2), .v (.int .i64 op.arg))] [2] [_] z129 z141 ⟨rfl, trivial⟩ rfl ?_
         apply CaseB.mk <;> intro g
         · have q : ¬ o.xs = [] := eL.1 g
           exact aH ⟨_, rfl, tno fun e => q (hf1 e).1, rfl⟩ (fun _ => rfl)
         have ox : o.xs = [] := Classical.byContradiction fun n => by rw [eL.2 n] at g; cases g
         apply CaseB.mk <;> intro g
         · have q : ¬ u.xs.length = 1 := by simp at g; omega
           exact aH ⟨_, rfl, tno fun e => q (by rw [(hf1 e).2]; rfl), rfl⟩ (fun _ => rfl)
         have ul : u.xs.length = 1 := by simp at g; omega
         obtain ⟨u0, huu⟩ : ∃ u0, u.xs = [u0] := by
           match hx : u.xs, ul with
           | [x], _ => exact ⟨x, rfl⟩
         have hin : ((k : Int), u) ∈ ps := by
           refine lq.sub.subset (wD ?_)
           cases hq : cL qs (k : Int) with
           | none => rw [hq] at hu; rw [hu] at ul; simp [LH.nil] at ul
           | some z => rw [hq] at hu; rw [hu]; rfl
         refine bO (ti := aU tab) tA aA rfl rfl rfl rfl rfl ⟨rfl, rfl⟩ (aL 0 rfl (.ofO (wE hin))) 0 rfl z43 (fun ad5 => ?_)
         have hg0 : ∀ h0, u.xs[0]'h0 = u0 := fun h0 => by simp [huu]
         rw [hg0]
         refine kT rfl rfl rfl ⟨rfl, rfl⟩ (.bool (decide (u0 ≠ (⟨op.kind, op.on, op.arg⟩ : Waiting)))) (fun w => (run_eqGuard_agg w _ _ _ _ _ _ z102)) (fun w => (eE0 u0 ⟨op.kind, op.on, op.arg⟩ w)) ?_
         apply CaseB.mk <;> intro g
         · have q : ¬ u0 = (⟨op.kind, op.on, op.arg⟩ : Waiting) := by simpa using g
           exact aH ⟨_, rfl, tno fun e => q z73, rfl⟩ (fun _ => rfl)
         have ue : u0 = (⟨op.kind, op.on, op.arg⟩ : Waiting) := by simpa using g
         refine ⟨⟨(k + 1, fP qs (k : Int), fP ts (k : Int)), by omega, lq', lo', hnext (hgood (.inr (.inl ⟨s1, ox, by rw [huu, ue, hwant]⟩)))⟩, ?_, by simp only; omega⟩
         exact aC [1, 0, 2, 3, 4, 5] zw1 zw0 zw1 zw5 zw3 rfl rfl
       · have hn8 : ¬ op.kind = 8 := by simpa using g
         have hwant : kE op = ⟨op.kind, op.on, 0⟩ := by simp only [kE, if_neg (show ¬ (op.kind = 2 ∨ op.kind = 8) from fun h => h.elim hn2 hn8)]
         refine aF aA z102 z102 z102 200 [((3, 0), .v (.int .i64 op.kind)), ((3, 1), .v (.int .i64 op.on)), ((3, 2), .v (.int .i64 0))] [2] [_] z129 z141 ⟨rfl, trivial⟩ rfl ?_
         apply CaseB.mk <;> intro g
         · have q : ¬ o.xs = [] := eL.1 g
           exact aH ⟨_, rfl, tno fun e => q (hf1 e).1, rfl⟩ (fun _ => rfl)
         have ox : o.xs = [] := Classical.byContradiction fun n => by rw [eL.2 n] at g; cases g
         apply CaseB.mk <;> intro g
         · have q : ¬ u.xs.length = 1 := by simp at g; omega
           exact aH ⟨_, rfl, tno fun e => q (by rw [(hf1 e).2]; rfl), rfl⟩ (fun _ => rfl)
         have ul : u.xs.length = 1 := by simp at g; omega
         obtain ⟨u0, huu⟩ : ∃ u0, u.xs = [u0] := by
           match hx : u.xs, ul with
           | [x], _ => exact ⟨x, rfl⟩
         have hin : ((k : Int), u) ∈ ps := by
           refine lq.sub.subset (wD ?_)
           cases hq : cL qs (k : Int) with
           | none => rw [hq] at hu; rw [hu] at ul; simp [LH.nil] at ul
           | some z => rw [hq] at hu; rw [hu]; rfl
         refine bO (ti := aU tab) tA aA rfl rfl rfl rfl rfl ⟨rfl, rfl⟩ (aL 0 rfl (.ofO (wE hin))) 0 rfl z43 (fun ad5 => ?_)
         have hg0 : ∀ h0, u.xs[0]'h0 = u0 := fun h0 => by simp [huu]
         rw [hg0]
         refine kT rfl rfl rfl ⟨rfl, rfl⟩ (.bool (decide (u0 ≠ (⟨op.kind, op.on, 0⟩ : Waiting)))) (fun w => (run_eqGuard_agg w _ _ _ _ _ _ z102)) (fun w => (eE0 u0 ⟨op.kind, op.on, 0⟩ w)) ?_
         apply CaseB.mk <;> intro g
         · have q : ¬ u0 = (⟨op.kind, op.on, 0⟩ : Waiting) := by simpa using g
           exact aH ⟨_, rfl, tno fun e => q z73, rfl⟩ (fun _ => rfl)
         have ue : u0 = (⟨op.kind, op.on, 0⟩ : Waiting) := by simpa using g
         refine ⟨⟨(k + 1, fP qs (k : Int), fP ts (k : Int)), by omega, lq', lo', hnext (hgood (.inr (.inl ⟨s1, ox, by rw [huu, ue, hwant]⟩)))⟩, ?_, by simp only; omega⟩
         exact aC [1, 0, 2, 3, 4, 5] zw1 zw0 zw1 zw5 zw3 rfl rfl
   have n1 : ¬ s.status[k] = 1 := by simpa using g1
   refine CaseB.mk (fun g => ?_) (fun g2 => ?_)
   · have s2 : s.status[k] = 2 := by simpa using g
     have hf2 : Fits p.pure s.pure → u.xs = [] ∧ op.kind = 4 ∧ o.xs = [op.on] := fun e => by
       rcases hfin e with h | h | h
       · rw [s2] at h; exact absurd h.1 (by decide)
       · rw [s2] at h; exact absurd h.1 (by decide)
       · exact h.2
     refine aF aA z102 z102 z102 200 [((2, 0), .v (.int .i64 op.kind)), ((2, 1), .v (.int .i64 op.on))] [3] [_] z135 z145 ⟨rfl, trivial⟩ rfl ?_
     apply CaseB.mk <;> intro g
     · have q : ¬ u.xs = [] := eL.1 g
       exact aH ⟨_, rfl, tno fun e => q (hf2 e).1, rfl⟩ (fun _ => rfl)
     have ux : u.xs = [] := Classical.byContradiction fun n => by rw [eL.2 n] at g; cases g
     apply CaseB.mk <;> intro g
     · have q : ¬ op.kind = 4 := by simpa using g
       exact aH ⟨_, rfl, tno fun e => q (hf2 e).2.1, rfl⟩ (fun _ => rfl)
     have k4 : op.kind = 4 := by simpa using g
     apply CaseB.mk <;> intro g
     · have q : ¬ o.xs.length = 1 := by simp at g; omega
       exact aH ⟨_, rfl, tno fun e => q (by rw [(hf2 e).2.2]; rfl), rfl⟩ (fun _ => rfl)
     have ol : o.xs.length = 1 := by simp at g; omega
     obtain ⟨o0, hoo⟩ : ∃ o0, o.xs = [o0] := by
       match hx : o.xs, ol with
       | [x], _ => exact ⟨x, rfl⟩
     have hin : ((k : Int), o) ∈ os := by
       refine lo.sub.subset (wD ?_)
       cases hq : cL ts (k : Int) with
       | none => rw [hq] at ho; rw [ho] at ol; simp [LH.nil] at ol
       | some z => rw [hq] at ho; rw [ho]; rfl
     refine bO (ti := aU tab) aE aA rfl rfl rfl rfl rfl ⟨rfl, rfl⟩ (aL 0 rfl (.ofO (wE hin))) 0 rfl z43 (fun ad5 => ?_)
     have hg0 : ∀ h0, o.xs[0]'h0 = o0 := fun h0 => by simp [hoo]
     rw [hg0]
     apply CaseB.mk <;> intro g
     · have q : ¬ o0 = op.on := by simpa using g
       exact aH ⟨_, rfl, tno fun e => q (by have := (hf2 e).2.2; rw [hoo] at this; injection this), rfl⟩ (fun _ => rfl)
     have oe : o0 = op.on := by simpa using g
     refine ⟨⟨(k + 1, fP qs (k : Int), fP ts (k : Int)), by omega, lq', lo', hnext (hgood (.inr (.inr ⟨s2, ux, k4, by rw [hoo, oe]⟩)))⟩, ?_, by simp only; omega⟩
     exact aC [1, 0, 2, 3, 4, 5] zw1 zw0 zw1 zw5 zw3 rfl rfl
   have n2 : ¬ s.status[k] = 2 := by simpa using g2
   exact aH ⟨_, rfl, tno fun e => (by rcases hfin e with h | h | h; exact n0 h.1; exact n1 h.1; exact n2 h.1), rfl⟩ (fun _ => rfl)
def gC (i : Nat) (x : Int) : List Int := if x = 0 ∨ x = 2 then [(i : Int)] else []
def cG (s : State) : List Int := if s.fault = 0 then evL gC 0 s.status else []
theorem mY (xs : List Int) : (evL gC 0 xs).length ≤ xs.length := by
 have := oW (f := gC) (C := 1) (i := 0) (xs := xs) fun i x _ => by unfold gC; split <;> simp
 omega
theorem gF0 (s : StateH) (w : World) (h : At w [fR (aK s)]) (hb : s.status.length ≤ 1048576) :
   Calls Tryz.prog 58 #[aM s] w (Ret w fun v L => ∃ y : Sl, v = y.val (cG s.pure).length ∧ L = [own y 3 aJ 1 (cG s.pure)]) := by
 refine bZ Tryz.func58 rfl aA w _ rfl _ rfl _ h ⟨rfl, rfl, trivial⟩ _ (by decide) ?_
 apply CaseB.mk <;> intro g
 · have n : ¬ s.fault = 0 := by simpa using g
   have e : cG s.pure = [] := if_neg n
   rw [e]
   exact bG [90] ⟨⟨none, 0⟩, rfl, rfl⟩ z131 rfl ⟨rfl, trivial⟩ (fun _ => rfl)
 have f0 : s.fault = 0 := by simpa using g
 have e : cG s.pure = evL gC 0 s.status := if_pos f0
 rw [e]
 refine LoopW.mk ⟨{ q : Nat × Sl × List Int // q.1 ≤ s.status.length ∧ q.2.2 = evL gC 0 (s.status.take q.1) },
   fun q => .mk [(1, .p 0 0), (3, .v (q.1.2.1.val q.1.2.2.length)), (10, .v (s.h1.val s.status.length)), (11, .v (.int .i64 (s.status.length : Int))), (12, .v (.int .i64 (q.1.1 : Int)))] 1 0 [(0, 35, 9)] [((0, 0), .v (s.h0.val s.places.length))] [own q.1.2.1 3 aJ 1 q.1.2.2, fR (aK s)],
   fun q => s.status.length - q.1.1, ⟨(0, ⟨none, 0⟩, []), Nat.zero_le _, rfl⟩, ?_, ?_⟩
 · exact aC [90, 0] zw2 zw0 zw2 zw5 zw4 rfl rfl
 rintro ⟨⟨k, y, xs⟩, hk, hx⟩
 simp only at hk hx
 apply CaseB.mk <;> intro g
 · have hlt : k < s.status.length := by simpa using g
   have hw := bD k _ hlt (by omega)
   have hsucc := eY gC s.status hlt
   have hl : xs.length ≤ 1048576 := by have := mY (s.status.take k); rw [← hx] at this; simp at this; omega
   refine aG aE aA rfl rfl rfl rfl rfl ⟨rfl, rfl⟩ (aL 1 rfl (.ofR (cS s))) k rfl z43 (fun ad => ?_)
   refine CaseB.mk (fun g => ?_) (fun g0 => ?_)
   · have c : s.status[k] = 0 ∨ s.status[k] = 2 := .inl z98
     refine AllSl.mk fun b => ?_
     refine bQ aE 1 aA (ys := [(k : Int)]) rfl rfl rfl rfl rfl rfl rfl rfl rfl (by decide) ⟨rfl, rfl⟩ rfl z35 z43 z43 (fun z => ?_)
     refine ⟨⟨(k + 1, z, xs ++ [(k : Int)]), by omega, by simp only [hsucc, gC, if_pos c, hx]⟩, ?_, by simp only; omega⟩
     exact aC [0, 2] zw1 zw0 zw1 zw5 zw3 rfl rfl
   have n0 : ¬ s.status[k] = 0 := by simpa using g0
   apply CaseB.mk <;> intro g
   · have c : s.status[k] = 0 ∨ s.status[k] = 2 := .inr z98
     refine AllSl.mk fun b => ?_
     refine bQ aE 1 aA (ys := [(k : Int)]) rfl rfl rfl rfl rfl rfl rfl rfl rfl (by decide) ⟨rfl, rfl⟩ rfl z35 z43 z43 (fun z => ?_)
     refine ⟨⟨(k + 1, z, xs ++ [(k : Int)]), by omega, by simp only [hsucc, gC, if_pos c, hx]⟩, ?_, by simp only; omega⟩
     exact aC [0, 2] zw1 zw0 zw1 zw5 zw3 rfl rfl
   have n2 : ¬ s.status[k] = 2 := by simpa using g
   refine ⟨⟨(k + 1, y, xs), by omega, by simp only [hsucc, gC, if_neg (show ¬ (s.status[k] = 0 ∨ s.status[k] = 2) from fun h => h.elim n0 n2), hx, List.append_nil]⟩, ?_, by simp only; omega⟩
   exact aC [0, 1] zw1 zw0 zw1 zw5 zw3 rfl rfl
 have hge : s.status.length ≤ k := by simpa using g
 rw [List.take_of_length_le hge] at hx
 subst hx
 exact bG [0] ⟨y, rfl, rfl⟩ z144 rfl ⟨rfl, trivial⟩ (fun _ => rfl)
def Chan.zero : Chan := ⟨0, [], [], [], false⟩
def Chan.send (m : Chan) (t v : Int) : Chan × List Int × Bool × Bool :=
 if m.Valid ∧ m.closed = false ∧ aZ t = true ∧ aV v = true ∧ ¬ t ∈ m.threads then
   if h : 0 < m.getters.length then ({ m with getters := m.getters.drop 1 }, [m.getters[0]], true, true)
   else if (m.items.length : Int) < m.room then ({ m with items := m.items ++ [v] }, [], true, true)
   else ({ m with senders := m.senders ++ [⟨t, v⟩] }, [], false, true)
 else (.zero, [], false, false)
def cV : Sl := ⟨none, 0⟩
def nY0 (p : Chan × List Int × Bool × Bool) (v : Value) (L : List Fct) : Prop :=
 ∃ i s g r : Sl, v = .tuple #[iZ p.1 i s g, r.val p.2.1.length, .bool p.2.2.1, .bool p.2.2.2] ∧ L = [own i 3 aJ 1 p.1.items, own s 187 fX 2 p.1.senders, own g 3 aJ 1 p.1.getters, own r 3 aJ 1 p.2.1]
theorem lE {m : Chan} (h : (!m.valid) = false) : m.Valid := by simpa [Chan.valid] using h
theorem qW {m : Chan} (h : (!m.valid) = true) : ¬ m.Valid := by simpa [Chan.valid] using h
theorem oV0 (m : Chan) (i s g : Sl) (t u : Int) (w : World) (h : At w [slo i aJ 1 m.items, slo s fX 2 m.senders, slo g aJ 1 m.getters]) (hb : m.small) :
   Calls Tryz.prog 76 #[iZ m i s g, .int .i64 t, .int .i64 u] w (Ret w (nY0 (m.send t u))) := by
 obtain ⟨b1, b2, b3⟩ := hb
 have bT : m.threads.length ≤ 8589934592 := by simp [Chan.threads]; omega
 generalize hp : m.send t u = p
 have hno : ¬ (m.Valid ∧ m.closed = false ∧ aZ t = true ∧ aV u = true ∧ ¬ t ∈ m.threads) → p = (.zero, [], false, false) := fun h => by rw [← hp, Chan.send, if_neg h]
 refine gQ Tryz.func76 rfl aA w _ rfl _ rfl _ h z140 _ _ _ (by decide) ?_
 refine aB _ fI0 rfl rfl rfl rfl ⟨rfl, rfl⟩ (fun A w hW => wC m i s g w ⟨z34, z34, z34, trivial⟩ ⟨b1, b2, b3⟩) ?_
 rintro v L ⟨rfl, rfl⟩
 refine CaseB.mk (fun h1 => ?_) (fun h1 => ?_)
 · obtain rfl := hno (fun h => qW h1 h.1)
   exact bG [96, 97, 98, 99] ⟨cV, cV, cV, cV, rfl, rfl⟩ z107 rfl ⟨rfl, rfl, rfl, rfl, trivial⟩ (fun _ => rfl)
 refine aB _ sO rfl rfl rfl rfl ⟨rfl, rfl⟩ (fun A w hW => gS _ w) ?_
 rintro v L ⟨rfl, rfl⟩
 refine CaseB.mk (fun h2 => ?_) (fun h2 => ?_)
 · obtain rfl := hno (fun h => by rw [h.2.2.1] at h2; cases h2)
   exact bG [96, 97, 98, 99] ⟨cV, cV, cV, cV, rfl, rfl⟩ z107 rfl ⟨rfl, rfl, rfl, rfl, trivial⟩ (fun _ => rfl)
 refine aB _ jD0 rfl rfl rfl rfl ⟨rfl, rfl⟩ (fun A w hW => uJ m i s g w ⟨z34, z34, z34, trivial⟩ ⟨b1, b2, b3⟩) ?_
 rintro v L ⟨y, rfl, rfl⟩
 refine aB _ dU0 rfl rfl rfl rfl ⟨rfl, rfl⟩ (fun A w hW => jM y m.threads t w ⟨z34, trivial⟩ bT) ?_
 rintro v L ⟨rfl, rfl⟩
 refine CaseB.mk (fun h3 => ?_) (fun h3 => ?_)
 · obtain rfl := hno (fun h => h.2.2.2.2 (by simpa using h3))
   exact bG [96, 97, 98, 99] ⟨cV, cV, cV, cV, rfl, rfl⟩ z107 rfl ⟨rfl, rfl, rfl, rfl, trivial⟩ (fun _ => rfl)
 refine CaseB.mk (fun h4 => ?_) (fun h4 => ?_)
 · obtain rfl := hno (fun h => by rw [h.2.1] at h4; cases h4)
   exact bG [96, 97, 98, 99] ⟨cV, cV, cV, cV, rfl, rfl⟩ z107 rfl ⟨rfl, rfl, rfl, rfl, trivial⟩ (fun _ => rfl)
 refine aB _ pT rfl rfl rfl rfl ⟨rfl, rfl⟩ (fun A w hW => gE _ w) ?_
 rintro v L ⟨rfl, rfl⟩
 refine CaseB.mk (fun h5 => ?_) (fun h5 => ?_)
 · obtain rfl := hno (fun h => by rw [h.2.2.2.1] at h5; cases h5)
   exact bG [96, 97, 98, 99] ⟨cV, cV, cV, cV, rfl, rfl⟩ z107 rfl ⟨rfl, rfl, rfl, rfl, trivial⟩ (fun _ => rfl)
 have hok : m.Valid ∧ m.closed = false ∧ aZ t = true ∧ aV u = true ∧ ¬ t ∈ m.threads := ⟨lE h1, h4, by simpa using h2, by simpa using h5, by simpa using h3⟩
 rw [Chan.send, if_pos hok] at hp
 refine aB _ sN rfl rfl rfl rfl ⟨rfl, rfl⟩ (fun A w hW => mD m i s g w ⟨z34, z34, z34, trivial⟩ ⟨b1, b2, b3⟩) ?_
 rintro v L ⟨i1, s1, g1, rfl, rfl⟩
 refine CaseB.mk (fun h6 => ?_) (fun h6 => ?_)
 · have hg : 0 < m.getters.length := by simpa using h6
   rw [dif_pos hg] at hp
   subst hp
   refine aG aE aA rfl rfl rfl rfl rfl ⟨rfl, rfl⟩ z35 0 rfl z43 (fun ad => ?_)
   refine iG aA rfl rfl rfl rfl ⟨rfl, rfl⟩ rfl rfl z35 (1) (m.getters.length) ((m.getters.drop 1)).length rfl rfl z43 z43 z43 ?_
   refine aB _ iF rfl rfl rfl rfl ⟨rfl, rfl⟩ (fun A w hW => cE (g1.cut 1 1) (m.getters.drop 1) w ⟨aJ0 aE 1 (by omega) (hW.rdOwn 2 rfl), trivial⟩ (by first | omega | (simp; done) | (simp; omega))) ?_
   rintro v L ⟨g2, rfl, rfl⟩
   refine AllSl.mk fun r => ?_
   exact bG [2, 3, 1, 0] ⟨i1, s1, g2, r, rfl, rfl⟩ z121 rfl ⟨rfl, rfl, rfl, rfl, trivial⟩ (fun _ => rfl)
 have hg : ¬ 0 < m.getters.length := by simpa using h6
 rw [dif_neg hg] at hp
 refine CaseB.mk (fun h7 => ?_) (fun h7 => ?_)
 · have hi : (m.items.length : Int) < m.room := by simpa using h7
   rw [if_pos hi] at hp
   subst hp
   refine AllSl.mk fun r => ?_
   refine cD aE aA (ys := [u]) rfl rfl rfl rfl rfl rfl rfl rfl rfl (by decide) ⟨rfl, rfl⟩ z39 z35 z43 z43 (fun i2 => ?_)
   refine aB _ sN rfl rfl rfl rfl ⟨rfl, rfl⟩ (fun A w hW => mD { m with items := m.items ++ [u] } i2 s1 g1 w ⟨z34, z34, z34, trivial⟩ ⟨by have := hok.1.r1; simp; omega, b2, b3⟩) ?_
   rintro v L ⟨i3, s3, g3, rfl, rfl⟩
   exact bG [0, 1, 2, 99] ⟨i3, s3, g3, cV, rfl, rfl⟩ z115 rfl ⟨rfl, rfl, rfl, rfl, trivial⟩ (fun _ => rfl)
 · have hi : ¬ (m.items.length : Int) < m.room := by simpa using h7
   rw [if_neg hi] at hp
   subst hp
   refine AllSl.mk fun r => ?_
   refine cD gR aA (ys := [⟨t, u⟩]) rfl rfl rfl rfl rfl rfl rfl rfl rfl (by decide) ⟨rfl, rfl⟩ z39 z35 z43 z43 (fun s2 => ?_)
   have hs := cW hok.1.di
   refine aB _ sN rfl rfl rfl rfl ⟨rfl, rfl⟩ (fun A w hW => mD { m with senders := m.senders ++ [⟨t, u⟩] } i1 s2 g1 w ⟨z34, z34, z34, trivial⟩ ⟨b1, by simp [Chan.threads] at hs ⊢; omega, b3⟩) ?_
   rintro v L ⟨i3, s3, g3, rfl, rfl⟩
   exact bG [0, 1, 2, 99] ⟨i3, s3, g3, cV, rfl, rfl⟩ z115 rfl ⟨rfl, rfl, rfl, rfl, trivial⟩ (fun _ => rfl)
theorem mM0 (m : Chan) (i s g : Sl) (t u : Int) (w : World) (h : At w [slo i aJ 1 m.items, slo s fX 2 m.senders, slo g aJ 1 m.getters]) (hb : m.small) :
   Calls Tryz.prog 177 #[iZ m i s g, .int .i64 t, .int .i64 u] w (Ret w (nY0 (m.send t u))) := by
 obtain ⟨b1, b2, b3⟩ := hb
 generalize hp : m.send t u = p
 have hno : ¬ (m.Valid ∧ m.closed = false ∧ aZ t = true ∧ aV u = true ∧ ¬ t ∈ m.threads) → p = (.zero, [], false, false) := fun h => by rw [← hp, Chan.send, if_neg h]
 refine gQ Tryz.func177 rfl aA w _ rfl _ rfl _ h z140 _ _ _ (by decide) ?_
 refine aB _ fQ0 rfl rfl rfl rfl ⟨rfl, rfl⟩ (fun A w hW => tG m i s g w ⟨z34, z34, z34, trivial⟩ ⟨b1, b2, b3⟩) ?_
 rintro v L ⟨rfl, rfl⟩
 refine CaseB.mk (fun h1 => ?_) (fun h1 => ?_)
 · obtain rfl := hno (fun h => qW h1 h.1)
   refine AllSl.mk fun r => ?_
   exact bG [97, 98, 99, 0] ⟨cV, cV, cV, r, rfl, rfl⟩ z109 rfl ⟨rfl, rfl, rfl, rfl, trivial⟩ (fun _ => rfl)
 have h7 := cW (lE h1).di
 refine CaseB.mk (fun h4 => ?_) (fun h4 => ?_)
 · obtain rfl := hno (fun h => by rw [h.2.1] at h4; cases h4)
   refine AllSl.mk fun r => ?_
   exact bG [97, 98, 99, 0] ⟨cV, cV, cV, r, rfl, rfl⟩ z109 rfl ⟨rfl, rfl, rfl, rfl, trivial⟩ (fun _ => rfl)
 refine aB _ rK rfl rfl rfl rfl ⟨rfl, rfl⟩ (fun A w hW => fY _ w) ?_
 rintro v L ⟨rfl, rfl⟩
 refine CaseB.mk (fun h2 => ?_) (fun h2 => ?_)
 · obtain rfl := hno (fun h => by rw [h.2.2.1] at h2; cases h2)
   refine AllSl.mk fun r => ?_
   exact bG [97, 98, 99, 0] ⟨cV, cV, cV, r, rfl, rfl⟩ z109 rfl ⟨rfl, rfl, rfl, rfl, trivial⟩ (fun _ => rfl)
 refine aB _ pU rfl rfl rfl rfl ⟨rfl, rfl⟩ (fun A w hW => gF _ w) ?_
 rintro v L ⟨rfl, rfl⟩
 refine CaseB.mk (fun h5 => ?_) (fun h5 => ?_)
 · obtain rfl := hno (fun h => by rw [h.2.2.2.1] at h5; cases h5)
   refine AllSl.mk fun r => ?_
   exact bG [97, 98, 99, 0] ⟨cV, cV, cV, r, rfl, rfl⟩ z109 rfl ⟨rfl, rfl, rfl, rfl, trivial⟩ (fun _ => rfl)
 refine aB _ nS0 rfl rfl rfl rfl ⟨rfl, rfl⟩ (fun A w hW => zB m i s g t w ⟨z34, z34, z34, trivial⟩ ⟨b1, b2, b3⟩ (by simp [Chan.threads] at h7; omega)) ?_
 rintro v L ⟨rfl, rfl⟩
 refine CaseB.mk (fun h3 => ?_) (fun h3 => ?_)
 · obtain rfl := hno (fun h => h.2.2.2.2 (by simpa using h3))
   refine AllSl.mk fun r => ?_
   exact bG [97, 98, 99, 0] ⟨cV, cV, cV, r, rfl, rfl⟩ z109 rfl ⟨rfl, rfl, rfl, rfl, trivial⟩ (fun _ => rfl)
 have hok : m.Valid ∧ m.closed = false ∧ aZ t = true ∧ aV u = true ∧ ¬ t ∈ m.threads := ⟨lE h1, h4, by simpa using h2, by simpa using h5, by simpa using h3⟩
 rw [Chan.send, if_pos hok] at hp
 refine aB _ fL0 rfl rfl rfl rfl ⟨rfl, rfl⟩ (fun A w hW => aM0 m i s g w ⟨z34, z34, z34, trivial⟩ ⟨b1, b2, b3⟩) ?_
 rintro v L ⟨i1, s1, g1, rfl, rfl⟩
 refine CaseB.mk (fun h6 => ?_) (fun h6 => ?_)
 · have hg : 0 < m.getters.length := by simpa using h6
   rw [dif_pos hg] at hp
   subst hp
   refine AllSl.mk fun y0 => ?_
   refine iG aA rfl rfl rfl rfl ⟨rfl, rfl⟩ rfl rfl z35 (1) (m.getters.length) ((m.getters.drop 1)).length rfl rfl z43 z43 z43 ?_
   refine cD aE aA (xs := []) rfl rfl rfl rfl rfl rfl rfl rfl rfl (by decide) ⟨rfl, rfl⟩ z39 (uK aE 1 (by omega) (iE 6 rfl)) z43 z43 (fun g2 => ?_)
   refine aF aA z102 z102 z102 200 [((2, 0), .v (.int .i64 m.room)), ((2, 1), .v (i1.val m.items.length)), ((2, 2), .v (s1.val m.senders.length)), ((2, 3), .v (g2.val (m.getters.drop 1).length)), ((2, 4), .v (.bool m.closed)), ((0, 3), .v (g.val m.getters.length))] [0, 1, 2, 3, 4, 5, 6] [_, _, _, _, _, _, _] z114 z130 ⟨rfl, rfl, rfl, rfl, rfl, rfl, rfl, trivial⟩ rfl ?_
   refine bO (ti := aU tab) aE aA rfl rfl rfl rfl rfl ⟨rfl, rfl⟩ z35 0 rfl z43 (fun ad => ?_)
   repeat' ((conv => whnf); (first
     | refine BothW.mk ?_ ?_
     | refine AllSl.mk fun y => ?_
     | fail))
   all_goals
     exact bG [2, 3, 1, 0] ⟨i1, s1, g2, _, rfl, rfl⟩ z121 rfl ⟨rfl, rfl, rfl, rfl, trivial⟩ (fun _ => rfl)
 have hg : ¬ 0 < m.getters.length := by simpa using h6
 rw [dif_neg hg] at hp
 refine CaseB.mk (fun h7 => ?_) (fun h7 => ?_)
 · have hi : (m.items.length : Int) < m.room := by simpa using h7
   rw [if_pos hi] at hp
   subst hp
   refine AllSl.mk fun r => ?_
   refine cD aE aA (ys := [u]) rfl rfl rfl rfl rfl rfl rfl rfl rfl (by decide) ⟨rfl, rfl⟩ z39 z35 z43 z43 (fun i2 => ?_)
   refine AllSl.mk fun r => ?_
   exact bG [1, 3, 4, 0] ⟨i2, s1, g1, r, rfl, rfl⟩ z121 rfl ⟨rfl, rfl, rfl, rfl, trivial⟩ (fun _ => rfl)
 · have hi : ¬ (m.items.length : Int) < m.room := by simpa using h7
   rw [if_neg hi] at hp
   subst hp
   refine AllSl.mk fun r => ?_
   refine cD gR aA (ys := [⟨t, u⟩]) rfl rfl rfl rfl rfl rfl rfl rfl rfl (by decide) ⟨rfl, rfl⟩ z39 z35 z43 z43 (fun s2 => ?_)
   refine AllSl.mk fun r => ?_
   exact bG [3, 1, 4, 0] ⟨i1, s2, g1, r, rfl, rfl⟩ z121 rfl ⟨rfl, rfl, rfl, rfl, trivial⟩ (fun _ => rfl)
def Chan.gItems (m : Chan) : List Int := m.items ++ (m.senders.take 1).map Letter.v
def Chan.gWho (m : Chan) : List Int := (m.senders.take 1).map Letter.t
def Chan.get (m : Chan) (t : Int) : Chan × Int × Int × List Int × Bool :=
 if m.Valid ∧ aZ t = true ∧ ¬ t ∈ m.threads then
   if 0 < m.gItems.length then ({ m with items := m.gItems.drop 1, senders := m.senders.drop 1 }, m.gItems.headD 0, 1, m.gWho, true)
   else if m.closed = true then ({ m with items := [], senders := [] }, 0, 2, [], true)
   else ({ m with items := [], senders := [], getters := m.getters ++ [t] }, 0, 0, [], true)
 else (.zero, 0, 0, [], false)
def GetR (p : Chan × Int × Int × List Int × Bool) (v : Value) (L : List Fct) : Prop :=
 ∃ i s g r : Sl, v = .tuple #[iZ p.1 i s g, .int .i64 p.2.1, .int .i64 p.2.2.1, r.val p.2.2.2.1.length, .bool p.2.2.2.2] ∧ L = [own i 3 aJ 1 p.1.items, own s 187 fX 2 p.1.senders, own g 3 aJ 1 p.1.getters, own r 3 aJ 1 p.2.2.2.1]
theorem cN0 {xs : List Int} (h : 0 < xs.length) : xs.headD 0 = xs[0] := by
 cases xs with
 | nil => simp at h
 | cons x r => rfl
theorem kF0 {α : Type} {xs : List α} (h : 0 < xs.length) : xs.take 1 = [xs[0]] := by
 cases xs with
 | nil => simp at h
 | cons x r => rfl
theorem gG0 {m : Chan} (h : 0 < m.senders.length) : m.gItems = m.items ++ [m.senders[0].v] := by rw [Chan.gItems, kF0 h]; rfl
theorem nZ0 {m : Chan} (h : 0 < m.senders.length) : m.gWho = [m.senders[0].t] := by rw [Chan.gWho, kF0 h]; rfl
theorem gH0 {m : Chan} (h : m.senders = []) : m.gItems = m.items := by rw [Chan.gItems, h]; simp
theorem oA0 {m : Chan} (h : m.senders = []) : m.gWho = [] := by rw [Chan.gWho, h]; rfl
theorem get_c (m : Chan) (i s g : Sl) (t : Int) (w : World) (h : At w [slo i aJ 1 m.items, slo s fX 2 m.senders, slo g aJ 1 m.getters]) (hb : m.small) :
   Calls Tryz.prog 77 #[iZ m i s g, .int .i64 t] w (Ret w (GetR (m.get t))) := by
 obtain ⟨b1, b2, b3⟩ := hb
 have bT : m.threads.length ≤ 8589934592 := by simp [Chan.threads]; omega
 generalize hp : m.get t = p
 have hno : ¬ (m.Valid ∧ aZ t = true ∧ ¬ t ∈ m.threads) → p = (.zero, 0, 0, [], false) := fun h => by rw [← hp, Chan.get, if_neg h]
 refine cB Tryz.func77 rfl aA w _ rfl _ rfl _ h z140 _ _ (by decide) ?_
 refine aB _ fI0 rfl rfl rfl rfl ⟨rfl, rfl⟩ (fun A w hW => wC m i s g w ⟨z34, z34, z34, trivial⟩ ⟨b1, b2, b3⟩) ?_
 rintro v L ⟨rfl, rfl⟩
 refine CaseB.mk (fun h1 => ?_) (fun h1 => ?_)
 · obtain rfl := hno (fun h => qW h1 h.1)
   exact bG [96, 97, 98, 99] ⟨cV, cV, cV, cV, rfl, rfl⟩ z107 rfl ⟨rfl, rfl, rfl, rfl, trivial⟩ (fun _ => rfl)
 refine aB _ sO rfl rfl rfl rfl ⟨rfl, rfl⟩ (fun A w hW => gS _ w) ?_
 rintro v L ⟨rfl, rfl⟩
 refine CaseB.mk (fun h2 => ?_) (fun h2 => ?_)
 · obtain rfl := hno (fun h => by rw [h.2.1] at h2; cases h2)
   exact bG [96, 97, 98, 99] ⟨cV, cV, cV, cV, rfl, rfl⟩ z107 rfl ⟨rfl, rfl, rfl, rfl, trivial⟩ (fun _ => rfl)
 refine aB _ jD0 rfl rfl rfl rfl ⟨rfl, rfl⟩ (fun A w hW => uJ m i s g w ⟨z34, z34, z34, trivial⟩ ⟨b1, b2, b3⟩) ?_
 rintro v L ⟨y, rfl, rfl⟩
 refine aB _ dU0 rfl rfl rfl rfl ⟨rfl, rfl⟩ (fun A w hW => jM y m.threads t w ⟨z34, trivial⟩ bT) ?_
 rintro v L ⟨rfl, rfl⟩
 refine CaseB.mk (fun h3 => ?_) (fun h3 => ?_)
 · obtain rfl := hno (fun h => h.2.2 (by simpa using h3))
   exact bG [96, 97, 98, 99] ⟨cV, cV, cV, cV, rfl, rfl⟩ z107 rfl ⟨rfl, rfl, rfl, rfl, trivial⟩ (fun _ => rfl)
 have hok : m.Valid ∧ aZ t = true ∧ ¬ t ∈ m.threads := ⟨lE h1, by simpa using h2, by simpa using h3⟩
 have h6 := cW hok.1.di
 have hi4 : m.items.length ≤ 4 := by have := hok.1.it; have := hok.1.r1; omega
 simp only [Chan.threads, List.length_append, List.length_map] at h6
 rw [Chan.get, if_pos hok] at hp
 refine aB _ sN rfl rfl rfl rfl ⟨rfl, rfl⟩ (fun A w hW => mD m i s g w ⟨z34, z34, z34, trivial⟩ ⟨b1, b2, b3⟩) ?_
 rintro v L ⟨i1, s1, g1, rfl, rfl⟩
 refine CaseB.mk (fun h4 => ?_) (fun h4 => ?_)
 · have hs : 0 < m.senders.length := by simpa using h4
   have hI : 0 < (m.items ++ [(m.senders[0]'hs).v]).length := by simp
   rw [gG0 hs, nZ0 hs, if_pos hI, cN0 hI] at hp
   subst hp
   refine aF aA z102 z102 z102 200 [((0, 2), .v (s1.val m.senders.length))] [1, 2, 3, 4, 5, 6] [_, _, _, _, _, _] z146 z149 z140 rfl ?_
   refine bO (ti := aU tab) gR aA rfl rfl rfl rfl rfl ⟨rfl, rfl⟩ z35 0 rfl z43 (fun ad => ?_)
   repeat' ((conv => whnf); (first
     | refine BothW.mk ?_ ?_
     | refine AllSl.mk fun y => ?_
     | (refine oS rfl rfl ?_; refine mQ (ti := aU tab) aE aA (xs := m.items) (ys := [(m.senders[0]'hs).v]) rfl rfl rfl rfl rfl rfl rfl rfl rfl (by decide) ⟨rfl, rfl⟩ z39 z35 z43 z43 z100 (fun y => ?_))
     | fail))
   all_goals
     refine aG gR aA rfl rfl rfl rfl rfl ⟨rfl, rfl⟩ z35 0 rfl z43 (fun ad => ?_)
     refine AllSl.mk fun r => ?_
     refine iG aA rfl rfl rfl rfl ⟨rfl, rfl⟩ rfl rfl z35 (1) (m.senders.length) ((m.senders.drop 1)).length rfl rfl z43 z43 z43 ?_
     refine CaseB.mk (fun h5 => ?_) (fun h5 => by simp at h5)
     refine aG aE aA rfl rfl rfl rfl rfl ⟨rfl, rfl⟩ z35 0 rfl z43 (fun ad => ?_)
     refine iG aA rfl rfl rfl rfl ⟨rfl, rfl⟩ rfl rfl z35 (1) ((m.items ++ [(m.senders[0]'hs).v]).length) (((m.items ++ [(m.senders[0]'hs).v]).drop 1)).length rfl rfl z43 z43 z43 ?_
     refine aB _ sN rfl rfl rfl rfl ⟨rfl, rfl⟩ (fun A w hW => mD { m with items := (m.items ++ [(m.senders[0]'hs).v]).drop 1, senders := m.senders.drop 1 } (y.cut 1 1) (s1.cut 1 2) g1 w ⟨aJ0 aE 1 (by simp) (hW.rdOwn 1 rfl), aJ0 gR 1 (by omega) (hW.rdOwn 3 rfl), hW.rdOwn 4 rfl, trivial⟩ ⟨by simp; omega, by simp; omega, b3⟩) ?_
     rintro v L ⟨i3, s3, g3, rfl, rfl⟩
     exact bG [0, 1, 2, 3] ⟨i3, s3, g3, r, rfl, rfl⟩ z121 rfl ⟨rfl, rfl, rfl, rfl, trivial⟩ (fun _ => rfl)
 · have hs : m.senders = [] := by simpa using h4
   rw [gH0 hs, oA0 hs] at hp
   refine CaseB.mk (fun h5 => ?_) (fun h5 => ?_)
   · have hI : 0 < m.items.length := by simpa using h5
     rw [if_pos hI, cN0 hI] at hp
     subst hp
     refine aG aE aA rfl rfl rfl rfl rfl ⟨rfl, rfl⟩ z35 0 rfl z43 (fun ad => ?_)
     refine iG aA rfl rfl rfl rfl ⟨rfl, rfl⟩ rfl rfl z35 (1) (m.items.length) ((m.items.drop 1)).length rfl rfl z43 z43 z43 ?_
     refine aB _ sN rfl rfl rfl rfl ⟨rfl, rfl⟩ (fun A w hW => mD { m with items := m.items.drop 1 } (i1.cut 1 1) s1 g1 w ⟨aJ0 aE 1 (by omega) (hW.rdOwn 0 rfl), hW.rdOwn 1 rfl, hW.rdOwn 2 rfl, trivial⟩ ⟨by simp; omega, b2, b3⟩) ?_
     rintro v L ⟨i3, s3, g3, rfl, rfl⟩
     exact bG [0, 1, 2, 99] ⟨i3, s3, g3, cV, rfl, rfl⟩ ⟨.inl ⟨_, rfl, z70⟩, .inl ⟨_, rfl, z70⟩, .inl ⟨_, rfl, z70⟩, .inr z139, trivial⟩ rfl ⟨rfl, rfl, rfl, rfl, trivial⟩ (fun _ => z70)
   · have hI : ¬ 0 < m.items.length := by simpa using h5
     have hI' : m.items = [] := by simpa using h5
     rw [if_neg hI] at hp
     refine CaseB.mk (fun h6 => ?_) (fun h6 => ?_)
     · rw [if_pos h6] at hp
       subst hp
       exact bG [0, 1, 2, 99] ⟨i1, s1, g1, cV, rfl, rfl⟩ z116 rfl ⟨rfl, rfl, rfl, rfl, trivial⟩ (fun _ => z68)
     · rw [if_neg (by simp [h6])] at hp
       subst hp
       refine AllSl.mk fun r => ?_
       refine cD aE aA (ys := [t]) rfl rfl rfl rfl rfl rfl rfl rfl rfl (by decide) ⟨rfl, rfl⟩ z39 z35 z43 z43 (fun g2 => ?_)
       refine aB _ sN rfl rfl rfl rfl ⟨rfl, rfl⟩ (fun A w hW => mD { m with getters := m.getters ++ [t] } i1 s1 g2 w ⟨z34, z34, z34, trivial⟩ ⟨b1, b2, by simp; omega⟩) ?_
       rintro v L ⟨i3, s3, g3, rfl, rfl⟩
       exact bG [0, 1, 2, 99] ⟨i3, s3, g3, cV, rfl, rfl⟩ z116 rfl ⟨rfl, rfl, rfl, rfl, trivial⟩ (fun _ => z68)
end Go.Proofs.YtijmjecehppbfaaGreat
