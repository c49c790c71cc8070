/- FnCountTurns: texts that its proof stands on, part 6. -/
import Derived.Test.YtijmjecehppbfaaGreatQCountTurnse
namespace Go.Proofs.YtijmjecehppbfaaGreat
set_option maxRecDepth 100000
set_option maxHeartbeats 100000000
open Go Go.Sx Go.RowKit
def cnt (xs : List Int) (t : Int) : Nat := (xs.filter fun x => x == t).length
theorem eI0 (es : List (Int × Waiting)) (t : Int) : cnt (es.map (·.1)) t = (aN es t).length := by
 induction es with
 | nil => rfl
 | cons e r ih =>
   simp only [cnt, aN, List.map_cons, List.filter_cons] at ih ⊢
   by_cases h : e.1 == t <;> simp [h] <;> simpa using ih
theorem oZ {α β : Type} {f : Nat → α → List β} {e : β} : ∀ {i : Nat} {xs : List α}, e ∈ evL f i xs → ∃ j x, xs[j]? = some x ∧ e ∈ f (i + j) x
 | i, [], h => by simp [evL] at h
 | i, x :: r, h => by
   rcases List.mem_append.1 (show e ∈ f i x ++ evL f (i + 1) r from h) with h | h
   · exact ⟨0, x, rfl, h⟩
   · obtain ⟨j, y, hy, hm⟩ := oZ h
     exact ⟨j + 1, y, hy, by rw [show i + (j + 1) = i + 1 + j by omega]; exact hm⟩
theorem jQ {xs : List Int} (h : bD xs = true) {x : Int} (hx : x ∈ xs) : 0 ≤ x := by
 unfold bD at h
 have := (of_decide_eq_true h).2 x hx
 simp [bA] at this; omega
theorem hD0 {m : Once} (h : eG m) {x : Int} (hx : x ∈ m.waits) : 0 ≤ x := by
 rcases h with h | h | h
 · rw [h.2.2.2] at hx; cases hx
 · exact jQ h.2.2.2.1 hx
 · rw [h.2.2.2] at hx; cases hx
theorem zE {p : Prog} {s : State} (h : SharedOk p s) : ∀ e ∈ bH s, 0 ≤ e.1 := by
 intro e he
 simp only [bH, List.mem_append] at he
 rcases he with (((he | he) | he) | he) | he
 · obtain ⟨j, x, hx, hm⟩ := oZ he
   obtain ⟨y, hy, rfl⟩ := List.mem_map.1 hm
   exact jQ (h.sems _ _ hx).1.dis (List.mem_map_of_mem hy)
 · obtain ⟨j, x, hx, hm⟩ := oZ he
   obtain ⟨y, hy, rfl⟩ := List.mem_map.1 hm
   exact hD0 (h.onces _ (List.mem_of_getElem? hx)) hy
 · obtain ⟨j, x, hx, hm⟩ := oZ he
   obtain ⟨y, hy, rfl⟩ := List.mem_map.1 hm
   exact jQ (h.groups _ (List.mem_of_getElem? hx)).2.1 hy
 · obtain ⟨j, x, hx, hm⟩ := oZ he
   obtain ⟨y, hy, rfl⟩ := List.mem_map.1 hm
   exact jQ (h.barriers _ _ hx).1.2.2.2.2.2 hy
 · obtain ⟨j, x, hx, hm⟩ := oZ he
   have hv : x.Valid := by simpa [Chan.valid] using (h.chans _ _ hx).1
   have hd := hv.di
   rcases List.mem_append.1 hm with hm | hm
   · obtain ⟨y, hy, rfl⟩ := List.mem_map.1 hm
     exact jQ hd (by simp only [Chan.threads]; exact List.mem_append_left _ (List.mem_map_of_mem hy))
   · obtain ⟨y, hy, rfl⟩ := List.mem_map.1 hm
     exact jQ hd (by simp only [Chan.threads]; exact List.mem_append_right _ hy)
theorem jW0 (p : ProgH) (s : StateH) (w : World) (h : At w [fR (aV p), fR (aK s)]) (ok : ProgOk p.pure) (sh : SharedOk p.pure s.pure) :
   Calls Tryz.prog 147 #[dJ p, aM s] w (Ret w fun v L => ∃ (y : Sl) (cs : List Int) (b : Bool), v = .tuple #[y.val cs.length, .bool b] ∧ L = [own y 3 aJ 1 cs] ∧
     (b = true ↔ ∀ e ∈ bH s.pure, e.1 < (p.threads.length : Int)) ∧ (b = true → cs.length = p.threads.length ∧ ∀ (t : Nat) (ht : t < cs.length), cs[t] = ((aN (bH s.pure) t).length : Int))) := by
 obtain ⟨s1, s2, s3, s4, s5, s6, s7, s8, s9, s10⟩ := sh
 have mlen : ∀ {α β : Type} (f : α → β) (xs : List α), (xs.map f).length = xs.length := fun f xs => by simp
 have l2 : s.pure.sems.length = s.sems.length := mlen _ _
 have l3 : s.pure.onces.length = s.onces.length := mlen _ _
 have l4 : s.pure.groups.length = s.groups.length := mlen _ _
 have l5 : s.pure.barriers.length = s.barriers.length := mlen _ _
 have l6 : s.pure.chans.length = s.chans.length := mlen _ _
 have m0 : p.pure.sems.length ≤ 3 := ok.sems.1
 have m1 : p.pure.groups.length ≤ 3 := ok.groups.1
 have m2 : p.pure.barriers.length ≤ 3 := ok.barriers.1
 have m3 : p.pure.rooms.length ≤ 3 := ok.rooms.1
 have n4 : p.threads.length ≤ 4 := by have := ok.n4; simpa [ProgH.pure] using this
 refine cM Tryz.func147 rfl aA w _ rfl _ rfl _ h ⟨rfl, rfl, rfl, rfl, trivial⟩ _ _ (by decide) ?_
 refine AllSl.mk fun y0 => ?_
 refine LoopW.mk ⟨{ q : Nat × Sl × List Int // q.1 ≤ s.sems.length ∧ q.2.2 = ([] : List Int) ++ (evL dH 0 (s.pure.sems.take q.1)).map (·.1) ∧ q.2.2.length ≤ 0 + 6 * q.1 },
   fun q => .mk [(2, .p 0 0), (3, .p 1 0), (6, .v (q.1.2.1.val q.1.2.2.length)), (7, .v (.int .i64 (q.1.1 : Int)))] 2 0 [(0, 26, 5), (1, 35, 9)] [((0, 0), .v (p.h0.val p.sems.length)), ((0, 1), .v (p.h1.val p.groups.length)), ((0, 2), .v (p.h2.val p.barriers.length)), ((0, 3), .v (p.h3.val p.rooms.length)), ((0, 4), .v (p.h4.val p.threads.length)), ((1, 0), .v (s.h0.val s.places.length)), ((1, 1), .v (s.h1.val s.status.length)), ((1, 2), .v (s.h2.val s.sems.length)), ((1, 3), .v (s.h3.val s.onces.length)), ((1, 4), .v (s.h4.val s.groups.length)), ((1, 5), .v (s.h5.val s.barriers.length)), ((1, 6), .v (s.h6.val s.chans.length)), ((1, 7), .v (s.h7.val s.said.length)), ((1, 8), .v (.int .i64 s.fault))] [own q.1.2.1 3 aJ 1 q.1.2.2, fR (aV p), fR (aK s)],
   fun q => s.sems.length - q.1.1, ⟨(0, y0, []), Nat.zero_le _, by simp [evL], by simp; try omega⟩, ?_, ?_⟩
 · exact aC [0, 1, 2] zw2 zw0 zw2 zw5 zw4 rfl rfl
 rintro ⟨⟨k, y1, x1⟩, hk, hx, hl⟩
 simp only at hk hx hl
 apply CaseB.mk <;> intro g
 · have hlt : k < s.sems.length := by simpa using g
   have hw := bE k _ hlt (by omega)
   have hat : s.pure.sems[k]? = some (s.sems[k]).m := by simp [StateH.pure, hlt]
   have hltp : k < s.pure.sems.length := by omega
   have hget : s.pure.sems[k]'hltp = (s.sems[k]).m := by simp [StateH.pure]
   have hsucc := eU dH s.pure.sems hltp
   rw [hget] at hsucc
   have hq := (s6 _ _ hat).1.q6
   refine LoopW.mk ⟨{ q : Nat × Sl × List Int // q.1 ≤ (s.sems[k]).m.queue.length ∧ q.2.2 = x1 ++ ((s.sems[k]).m.queue.take q.1).map (·.t) ∧ q.2.2.length ≤ 6 * k + q.1 },
     fun q => .mk [(2, .p 0 0), (3, .p 1 0), (6, .v (q.1.2.1.val q.1.2.2.length)), (7, .v (.int .i64 (k : Int))), (8, .v (.int .i64 (q.1.1 : Int)))] 2 0 [(0, 26, 5), (1, 35, 9)] [((0, 0), .v (p.h0.val p.sems.length)), ((0, 1), .v (p.h1.val p.groups.length)), ((0, 2), .v (p.h2.val p.barriers.length)), ((0, 3), .v (p.h3.val p.rooms.length)), ((0, 4), .v (p.h4.val p.threads.length)), ((1, 0), .v (s.h0.val s.places.length)), ((1, 1), .v (s.h1.val s.status.length)), ((1, 2), .v (s.h2.val s.sems.length)), ((1, 3), .v (s.h3.val s.onces.length)), ((1, 4), .v (s.h4.val s.groups.length)), ((1, 5), .v (s.h5.val s.barriers.length)), ((1, 6), .v (s.h6.val s.chans.length)), ((1, 7), .v (s.h7.val s.said.length)), ((1, 8), .v (.int .i64 s.fault))] [own q.1.2.1 3 aJ 1 q.1.2.2, fR (aV p), fR (aK s)],
     fun q => (s.sems[k]).m.queue.length - q.1.1, ⟨(0, y1, x1), Nat.zero_le _, by simp, by simp only; omega⟩, ?_, ?_⟩
   · exact aC [0, 1, 2] zw2 zw0 zw2 zw5 zw4 rfl rfl
   rintro ⟨⟨j, y', xs2⟩, hj, hx2, hl2⟩
   simp only at hj hx2 hl2
   refine aG dC aA rfl rfl rfl rfl rfl ⟨rfl, rfl⟩ (aL 2 rfl (.trans (.R_R (bW s)) (.ofR bG))) k rfl z48 (fun ad => ?_)
   apply CaseB.mk <;> intro g
   · have hlt2 : j < (s.sems[k]).m.queue.length := by simpa using g
     have hw2 := bE j _ hlt2 (by omega)
     refine aG dC aA rfl rfl rfl rfl rfl ⟨rfl, rfl⟩ (aL 2 rfl (.trans (.R_R (bW s)) (.ofR bG))) k rfl z48 (fun ad2 => ?_)
     refine aG cI aA rfl rfl rfl rfl rfl ⟨rfl, rfl⟩ (aL 2 rfl (.trans (.R_R (bW s)) (.ofR (kH _ _ k hlt)))) j rfl z48 (fun ad3 => ?_)
     refine AllSl.mk fun b => ?_
     refine bR aD 1 aA (ys := [((s.sems[k]).m.queue[j]).t]) rfl rfl rfl rfl rfl rfl rfl rfl rfl (by decide) ⟨rfl, rfl⟩ rfl z40 z48 z48 (fun z => ?_)
     obtain ⟨xs', hx'⟩ : ∃ xs', xs' = xs2 ++ [((s.sems[k]).m.queue[j]).t] := ⟨_, rfl⟩
     rw [← hx']
     refine ⟨⟨(j + 1, z, xs'), by omega, ?_, by rw [hx', List.length_append]; simp only [List.length_cons, List.length_nil]; omega⟩, ?_, by simp only; omega⟩
     · show xs' = _
       rw [hx', hx2, List.take_succ_eq_append_getElem hlt2, List.map_append, List.append_assoc]; rfl
     · exact aC [0, 2, 3] zw8 zw0 zw8 zw5 zw24 rfl rfl
   have hge : (s.sems[k]).m.queue.length ≤ j := by simpa using g
   rw [List.take_of_length_le hge] at hx2
   refine ⟨⟨(k + 1, y', xs2), by omega, ?_, by simp only; omega⟩, ?_, by simp only; omega⟩
   · show xs2 = _
     rw [hx2, hx, hsucc]
     simp [dH, Function.comp_def]
   · exact aC [0, 1, 2] zw1 zw0 zw1 zw5 zw3 rfl rfl
 have hge : s.sems.length ≤ k := by simpa using g
 rw [List.take_of_length_le (show s.pure.sems.length ≤ k by omega)] at hx
 have e1 : x1 = (evL dH 0 s.pure.sems).map (·.1) := by simpa using hx
 have c1 : x1.length ≤ 18 := by omega
 refine LoopW.mk ⟨{ q : Nat × Sl × List Int // q.1 ≤ s.onces.length ∧ q.2.2 = x1 ++ (evL cR 0 (s.pure.onces.take q.1)).map (·.1) ∧ q.2.2.length ≤ 18 + 6 * q.1 },
   fun q => .mk [(2, .p 0 0), (3, .p 1 0), (6, .v (q.1.2.1.val q.1.2.2.length)), (9, .v (.int .i64 (q.1.1 : Int)))] 2 0 [(0, 26, 5), (1, 35, 9)] [((0, 0), .v (p.h0.val p.sems.length)), ((0, 1), .v (p.h1.val p.groups.length)), ((0, 2), .v (p.h2.val p.barriers.length)), ((0, 3), .v (p.h3.val p.rooms.length)), ((0, 4), .v (p.h4.val p.threads.length)), ((1, 0), .v (s.h0.val s.places.length)), ((1, 1), .v (s.h1.val s.status.length)), ((1, 2), .v (s.h2.val s.sems.length)), ((1, 3), .v (s.h3.val s.onces.length)), ((1, 4), .v (s.h4.val s.groups.length)), ((1, 5), .v (s.h5.val s.barriers.length)), ((1, 6), .v (s.h6.val s.chans.length)), ((1, 7), .v (s.h7.val s.said.length)), ((1, 8), .v (.int .i64 s.fault))] [own q.1.2.1 3 aJ 1 q.1.2.2, fR (aV p), fR (aK s)],
   fun q => s.onces.length - q.1.1, ⟨(0, y1, x1), Nat.zero_le _, by simp [evL], by simp; try omega⟩, ?_, ?_⟩
 · exact aC [0, 1, 2] zw2 zw0 zw2 zw5 zw4 rfl rfl
 rintro ⟨⟨k, y2, x2⟩, hk, hx, hl⟩
 simp only at hk hx hl
 apply CaseB.mk <;> intro g
 · have hlt : k < s.onces.length := by simpa using g
   have hw := bE k _ hlt (by omega)
   have hat : s.pure.onces[k]? = some (s.onces[k]).m := by simp [StateH.pure, hlt]
   have hltp : k < s.pure.onces.length := by omega
   have hget : s.pure.onces[k]'hltp = (s.onces[k]).m := by simp [StateH.pure]
   have hsucc := eU cR s.pure.onces hltp
   rw [hget] at hsucc
   have hq := eV (s10 _ (List.mem_of_getElem? hat))
   refine aG cX aA rfl rfl rfl rfl rfl ⟨rfl, rfl⟩ (aL 2 rfl (.trans (.R_R (bX s)) (.ofR bG))) k rfl z48 (fun ad => ?_)
   refine bR aD 0 aA (ys := (s.onces[k]).m.waits) rfl rfl rfl rfl rfl rfl rfl rfl rfl (by decide) ⟨rfl, rfl⟩ rfl (aL 2 rfl (.trans (.R_R (bX s)) (.ofR (iW _ _ k hlt)))) z48 z48 (fun z => ?_)
   obtain ⟨xs', hx'⟩ : ∃ xs', xs' = x2 ++ (s.onces[k]).m.waits := ⟨_, rfl⟩
   rw [← hx']
   refine ⟨⟨(k + 1, z, xs'), by omega, ?_, by rw [hx', List.length_append]; simp only; omega⟩, ?_, by simp only; omega⟩
   · show xs' = _
     rw [hx', hx, hsucc]
     simp [cR, Function.comp_def]
   · exact aC [0, 1, 2] zw1 zw0 zw1 zw5 zw3 rfl rfl
 have hge : s.onces.length ≤ k := by simpa using g
 rw [List.take_of_length_le (show s.pure.onces.length ≤ k by omega)] at hx
 have e2 : x2 = x1 ++ (evL cR 0 s.pure.onces).map (·.1) := hx
 have c2 : x2.length ≤ 36 := by omega
 refine LoopW.mk ⟨{ q : Nat × Sl × List Int // q.1 ≤ s.groups.length ∧ q.2.2 = x2 ++ (evL cS 0 (s.pure.groups.take q.1)).map (·.1) ∧ q.2.2.length ≤ 36 + 6 * q.1 },
   fun q => .mk [(2, .p 0 0), (3, .p 1 0), (6, .v (q.1.2.1.val q.1.2.2.length)), (10, .v (.int .i64 (q.1.1 : Int)))] 2 0 [(0, 26, 5), (1, 35, 9)] [((0, 0), .v (p.h0.val p.sems.length)), ((0, 1), .v (p.h1.val p.groups.length)), ((0, 2), .v (p.h2.val p.barriers.length)), ((0, 3), .v (p.h3.val p.rooms.length)), ((0, 4), .v (p.h4.val p.threads.length)), ((1, 0), .v (s.h0.val s.places.length)), ((1, 1), .v (s.h1.val s.status.length)), ((1, 2), .v (s.h2.val s.sems.length)), ((1, 3), .v (s.h3.val s.onces.length)), ((1, 4), .v (s.h4.val s.groups.length)), ((1, 5), .v (s.h5.val s.barriers.length)), ((1, 6), .v (s.h6.val s.chans.length)), ((1, 7), .v (s.h7.val s.said.length)), ((1, 8), .v (.int .i64 s.fault))] [own q.1.2.1 3 aJ 1 q.1.2.2, fR (aV p), fR (aK s)],
   fun q => s.groups.length - q.1.1, ⟨(0, y2, x2), Nat.zero_le _, by simp [evL], by simp; try omega⟩, ?_, ?_⟩
 · exact aC [0, 1, 2] zw2 zw0 zw2 zw5 zw4 rfl rfl
 rintro ⟨⟨k, y3, x3⟩, hk, hx, hl⟩
 simp only at hk hx hl
 apply CaseB.mk <;> intro g
 · have hlt : k < s.groups.length := by simpa using g
   have hw := bE k _ hlt (by omega)
   have hat : s.pure.groups[k]? = some (s.groups[k]).m := by simp [StateH.pure, hlt]
   have hltp : k < s.pure.groups.length := by omega
   have hget : s.pure.groups[k]'hltp = (s.groups[k]).m := by simp [StateH.pure]
   have hsucc := eU cS s.pure.groups hltp
   rw [hget] at hsucc
   have hq := fM (s7 _ (List.mem_of_getElem? hat))
   refine aG cJ aA rfl rfl rfl rfl rfl ⟨rfl, rfl⟩ (aL 2 rfl (.trans (.R_R (bO s)) (.ofR bG))) k rfl z48 (fun ad => ?_)
   refine bR aD 0 aA (ys := (s.groups[k]).m.waits) rfl rfl rfl rfl rfl rfl rfl rfl rfl (by decide) ⟨rfl, rfl⟩ rfl (aL 2 rfl (.trans (.R_R (bO s)) (.ofR (fG _ _ k hlt)))) z48 z48 (fun z => ?_)
   obtain ⟨xs', hx'⟩ : ∃ xs', xs' = x3 ++ (s.groups[k]).m.waits := ⟨_, rfl⟩
   rw [← hx']
   refine ⟨⟨(k + 1, z, xs'), by omega, ?_, by rw [hx', List.length_append]; simp only; omega⟩, ?_, by simp only; omega⟩
   · show xs' = _
     rw [hx', hx, hsucc]
     simp [cS, Function.comp_def]
   · exact aC [0, 1, 2] zw1 zw0 zw1 zw5 zw3 rfl rfl
 have hge : s.groups.length ≤ k := by simpa using g
 rw [List.take_of_length_le (show s.pure.groups.length ≤ k by omega)] at hx
 have e3 : x3 = x2 ++ (evL cS 0 s.pure.groups).map (·.1) := hx
 have c3 : x3.length ≤ 54 := by omega
 refine LoopW.mk ⟨{ q : Nat × Sl × List Int // q.1 ≤ s.barriers.length ∧ q.2.2 = x3 ++ (evL cF 0 (s.pure.barriers.take q.1)).map (·.1) ∧ q.2.2.length ≤ 54 + 6 * q.1 },
   fun q => .mk [(2, .p 0 0), (3, .p 1 0), (6, .v (q.1.2.1.val q.1.2.2.length)), (11, .v (.int .i64 (q.1.1 : Int)))] 2 0 [(0, 26, 5), (1, 35, 9)] [((0, 0), .v (p.h0.val p.sems.length)), ((0, 1), .v (p.h1.val p.groups.length)), ((0, 2), .v (p.h2.val p.barriers.length)), ((0, 3), .v (p.h3.val p.rooms.length)), ((0, 4), .v (p.h4.val p.threads.length)), ((1, 0), .v (s.h0.val s.places.length)), ((1, 1), .v (s.h1.val s.status.length)), ((1, 2), .v (s.h2.val s.sems.length)), ((1, 3), .v (s.h3.val s.onces.length)), ((1, 4), .v (s.h4.val s.groups.length)), ((1, 5), .v (s.h5.val s.barriers.length)), ((1, 6), .v (s.h6.val s.chans.length)), ((1, 7), .v (s.h7.val s.said.length)), ((1, 8), .v (.int .i64 s.fault))] [own q.1.2.1 3 aJ 1 q.1.2.2, fR (aV p), fR (aK s)],
   fun q => s.barriers.length - q.1.1, ⟨(0, y3, x3), Nat.zero_le _, by simp [evL], by simp; try omega⟩, ?_, ?_⟩
 · exact aC [0, 1, 2] zw2 zw0 zw2 zw5 zw4 rfl rfl
 rintro ⟨⟨k, y4, x4⟩, hk, hx, hl⟩
 simp only at hk hx hl
 apply CaseB.mk <;> intro g
 · have hlt : k < s.barriers.length := by simpa using g
   have hw := bE k _ hlt (by omega)
   have hat : s.pure.barriers[k]? = some (s.barriers[k]).m := by simp [StateH.pure, hlt]
   have hltp : k < s.pure.barriers.length := by omega
   have hget : s.pure.barriers[k]'hltp = (s.barriers[k]).m := by simp [StateH.pure]
   have hsucc := eU cF s.pure.barriers hltp
   rw [hget] at hsucc
   have hq := fY (s8 _ _ hat).1
   refine aG cC aA rfl rfl rfl rfl rfl ⟨rfl, rfl⟩ (aL 2 rfl (.trans (.R_R (bK s)) (.ofR bG))) k rfl z48 (fun ad => ?_)
   refine bR aD 0 aA (ys := (s.barriers[k]).m.waits) rfl rfl rfl rfl rfl rfl rfl rfl rfl (by decide) ⟨rfl, rfl⟩ rfl (aL 2 rfl (.trans (.R_R (bK s)) (.ofR (eE _ _ k hlt)))) z48 z48 (fun z => ?_)
   obtain ⟨xs', hx'⟩ : ∃ xs', xs' = x4 ++ (s.barriers[k]).m.waits := ⟨_, rfl⟩
   rw [← hx']
   refine ⟨⟨(k + 1, z, xs'), by omega, ?_, by rw [hx', List.length_append]; simp only; omega⟩, ?_, by simp only; omega⟩
   · show xs' = _
     rw [hx', hx, hsucc]
     simp [cF, Function.comp_def]
   · exact aC [0, 1, 2] zw1 zw0 zw1 zw5 zw3 rfl rfl
 have hge : s.barriers.length ≤ k := by simpa using g
 rw [List.take_of_length_le (show s.pure.barriers.length ≤ k by omega)] at hx
 have e4 : x4 = x3 ++ (evL cF 0 s.pure.barriers).map (·.1) := hx
 have c4 : x4.length ≤ 72 := by omega
 refine LoopW.mk ⟨{ q : Nat × Sl × List Int // q.1 ≤ s.chans.length ∧ q.2.2 = x4 ++ (evL dB 0 (s.pure.chans.take q.1)).map (·.1) ∧ q.2.2.length ≤ 72 + 6 * q.1 },
   fun q => .mk [(2, .p 0 0), (3, .p 1 0), (6, .v (q.1.2.1.val q.1.2.2.length)), (12, .v (.int .i64 (q.1.1 : Int)))] 2 0 [(0, 26, 5), (1, 35, 9)] [((0, 0), .v (p.h0.val p.sems.length)), ((0, 1), .v (p.h1.val p.groups.length)), ((0, 2), .v (p.h2.val p.barriers.length)), ((0, 3), .v (p.h3.val p.rooms.length)), ((0, 4), .v (p.h4.val p.threads.length)), ((1, 0), .v (s.h0.val s.places.length)), ((1, 1), .v (s.h1.val s.status.length)), ((1, 2), .v (s.h2.val s.sems.length)), ((1, 3), .v (s.h3.val s.onces.length)), ((1, 4), .v (s.h4.val s.groups.length)), ((1, 5), .v (s.h5.val s.barriers.length)), ((1, 6), .v (s.h6.val s.chans.length)), ((1, 7), .v (s.h7.val s.said.length)), ((1, 8), .v (.int .i64 s.fault))] [own q.1.2.1 3 aJ 1 q.1.2.2, fR (aV p), fR (aK s)],
   fun q => s.chans.length - q.1.1, ⟨(0, y4, x4), Nat.zero_le _, by simp [evL], by simp; try omega⟩, ?_, ?_⟩
 · exact aC [0, 1, 2] zw2 zw0 zw2 zw5 zw4 rfl rfl
 rintro ⟨⟨k, y5, x5⟩, hk, hx, hl⟩
 simp only at hk hx hl
 apply CaseB.mk <;> intro g
 · have hlt : k < s.chans.length := by simpa using g
   have hw := bE k _ hlt (by omega)
   have hat : s.pure.chans[k]? = some (s.chans[k]).m := by simp [StateH.pure, hlt]
   have hltp : k < s.pure.chans.length := by omega
   have hget : s.pure.chans[k]'hltp = (s.chans[k]).m := by simp [StateH.pure]
   have hsucc := eU dB s.pure.chans hltp
   rw [hget] at hsucc
   have hq := mV (s9 _ _ hat).1
   refine aE aA z107 z107 z107 200 [((1, 6), .v (s.h6.val s.chans.length))] [1, 2] [_, _] z153 z156 ⟨rfl, rfl, trivial⟩ rfl ?_
   refine bM (ti := aU tab) cN aA rfl rfl rfl rfl rfl ⟨rfl, rfl⟩ (aL 1 rfl (.trans (.R_R (aQ s)) (.ofR bG))) k rfl z48 (fun ad => ?_)
   refine bM (ti := aU tab) cN aA rfl rfl rfl rfl rfl ⟨rfl, rfl⟩ (aL 1 rfl (.trans (.R_R (aQ s)) (.ofR bG))) k rfl z48 (fun ad2 => ?_)
   refine bL _ fP0 rfl rfl rfl rfl ⟨rfl, rfl⟩ (fun A w hW => nK _ _ w ⟨hW.get 2 rfl (.trans (.R_R (aQ s)) (.ofR (iC _ _ k hlt))), trivial⟩ (by omega)) ?_
   rw [List.take_of_length_le (by omega)]
   rintro v L ⟨b, rfl, rfl⟩
   obtain ⟨st, hst⟩ : ∃ st, st = (s.chans[k]).m.senders.map Letter.t := ⟨_, rfl⟩
   have hstl : st.length ≤ 6 := by rw [hst, List.length_map]; omega
   rw [← hst]
   refine bS (ti := aU tab) aD 1 aA (ys := st) rfl rfl rfl rfl rfl rfl rfl rfl rfl (by decide) ⟨rfl, rfl⟩ rfl z40 z48 z48 z105 (fun z1 => ?_)
   obtain ⟨xs1, hx1⟩ : ∃ xs', xs' = x5 ++ st := ⟨_, rfl⟩
   have hl1 : xs1.length ≤ 6 * k + 78 := by rw [hx1, List.length_append]; omega
   rw [← hx1]
   refine bS (ti := aU tab) aD 0 aA (ys := (s.chans[k]).m.getters) rfl rfl rfl rfl rfl rfl rfl rfl rfl (by decide) ⟨rfl, rfl⟩ rfl (aL 3 rfl (.trans (.R_R (aQ s)) (.ofR (iX _ _ k hlt)))) z48 z48 z105 (fun z2 => ?_)
   obtain ⟨xs2, hx2⟩ : ∃ xs', xs' = xs1 ++ (s.chans[k]).m.getters := ⟨_, rfl⟩
   rw [← hx2]
   refine ⟨⟨(k + 1, z2, xs2), by omega, ?_, by rw [hx2, hx1, hst, List.length_append, List.length_append, List.length_map]; simp only; omega⟩, ?_, by simp only; omega⟩
   · show xs2 = _
     rw [hx2, hx1, hst, hx, hsucc]
     simp [dB, Function.comp_def]
   · exact aC [0, 2, 3] zw1 zw0 zw1 zw5 zw3 rfl rfl
 have hge : s.chans.length ≤ k := by simpa using g
 rw [List.take_of_length_le (show s.pure.chans.length ≤ k by omega)] at hx
 have e5 : x5 = (bH s.pure).map (·.1) := by rw [hx, e4, e3, e2, e1]; simp [bH]
 have c5 : x5.length ≤ 90 := by omega
 have h0 : ∀ x ∈ x5, 0 ≤ x := by
   rw [e5]
   intro x hm
   obtain ⟨e, he, rfl⟩ := List.mem_map.1 hm
   exact zE ⟨s1, s2, s3, s4, s5, s6, s7, s8, s9, s10⟩ e he
 have hev : ∀ n : Int, (∀ x ∈ x5, x < n) ↔ ∀ e ∈ bH s.pure, e.1 < n := fun n => by rw [e5]; simp
 refine qX aD 0 aA rfl rfl rfl rfl rfl (by decide) ⟨rfl, rfl⟩ p.threads.length rfl z48 z48 (fun z0 => ?_)
 refine LoopW.mk ⟨{ q : Nat × Sl × List Int // q.1 ≤ x5.length ∧ q.2.2.length = p.threads.length ∧ (∀ x ∈ x5.take q.1, x < (p.threads.length : Int)) ∧ ∀ (t : Nat) (ht : t < q.2.2.length), q.2.2[t] = (cnt (x5.take q.1) t : Int) },
   fun q => .mk [(2, .p 0 0), (3, .p 1 0), (6, .v (y5.val x5.length)), (13, .v (q.1.2.1.val q.1.2.2.length)), (14, .v (.int .i64 (q.1.1 : Int)))] 2 0 [(0, 26, 5), (1, 35, 9)] [((0, 0), .v (p.h0.val p.sems.length)), ((0, 1), .v (p.h1.val p.groups.length)), ((0, 2), .v (p.h2.val p.barriers.length)), ((0, 3), .v (p.h3.val p.rooms.length)), ((0, 4), .v (p.h4.val p.threads.length)), ((1, 0), .v (s.h0.val s.places.length)), ((1, 1), .v (s.h1.val s.status.length)), ((1, 2), .v (s.h2.val s.sems.length)), ((1, 3), .v (s.h3.val s.onces.length)), ((1, 4), .v (s.h4.val s.groups.length)), ((1, 5), .v (s.h5.val s.barriers.length)), ((1, 6), .v (s.h6.val s.chans.length)), ((1, 7), .v (s.h7.val s.said.length)), ((1, 8), .v (.int .i64 s.fault))] [own q.1.2.1 3 aJ 1 q.1.2.2, own y5 3 aJ 1 x5, fR (aV p), fR (aK s)],
   fun q => x5.length - q.1.1, ⟨(0, z0, List.replicate p.threads.length 0), Nat.zero_le _, by simp, by simp, by simp [cnt]⟩, ?_, ?_⟩
 · exact aC [0, 1, 2, 3] zw13 zw0 zw13 zw5 zw31 rfl rfl
 rintro ⟨⟨i, z, cs⟩, hi, hcl, hlt5, hcs⟩
 simp only at hi hcl hlt5 hcs
 apply CaseB.mk <;> intro g
 · have hlt : i < x5.length := by simpa using g
   have hw := bE i _ hlt (by omega)
   refine aG aD aA rfl rfl rfl rfl rfl ⟨rfl, rfl⟩ (aL 1 rfl (Rd.own (o := false) (o' := false))) i rfl z48 (fun ad => ?_)
   apply CaseB.mk <;> intro g
   · have n : ¬ x5[i] < (p.threads.length : Int) := by have g' : (cs.length : Int) ≤ x5[i] := of_decide_eq_true g; omega
     exact bC [0] ⟨z, cs, false, rfl, rfl, tno fun e => n ((hev _).2 e _ (List.getElem_mem hlt)), fun e => z110⟩ z151 rfl ⟨rfl, trivial⟩ (fun _ => rfl)
   have hx : x5[i] < (p.threads.length : Int) := by have g' : ¬ (cs.length : Int) ≤ x5[i] := of_decide_eq_false g; omega
   have hx0 := h0 _ (List.getElem_mem hlt)
   obtain ⟨j, hj⟩ : ∃ j : Nat, x5[i] = (j : Int) := ⟨_, (Int.toNat_of_nonneg hx0).symm⟩
   have hjl : j < cs.length := by omega
   have hcj := hcs j hjl
   have hcn : cnt (x5.take i) j ≤ 90 := by
     have h1 : cnt (x5.take i) j ≤ (x5.take i).length := List.length_filter_le _ _
     have h2 : (x5.take i).length ≤ x5.length := by simp; omega
     omega
   have hwr : IntKind.i64.wrap (cs[j] + 1) = cs[j] + 1 := by rw [IntKind.wrap_i64]; omega
   refine fJ 0 rfl (show 0 < cs.length by omega) fun gg hgg _ _ => ?_
   refine aE aA z107 z107 z107 200 [] [1] [_] trivial trivial ⟨rfl, trivial⟩ rfl ?_
   refine bM (ti := aU tab) aD aA rfl rfl rfl rfl rfl ⟨rfl, rfl⟩ (aL 0 rfl (Rd.own (o := false) (o' := false))) i rfl z48 (fun ad1 => ?_)
   refine bM (ti := aU tab) aD aA rfl rfl rfl rfl rfl ⟨rfl, rfl⟩ (aL 0 rfl (Rd.own (o := false) (o' := false))) i rfl z48 (fun ad2 => ?_)
   refine iA (ti := aU tab) aA rfl rfl rfl rfl rfl ⟨rfl, rfl⟩ hgg j hj hjl ?_
   refine aU0 (ti := aU tab) aD 0 aA rfl rfl rfl ⟨rfl, rfl⟩ rfl hgg j 0 rfl hjl rfl ?_
   refine iA (ti := aU tab) aA rfl rfl rfl rfl rfl ⟨rfl, rfl⟩ hgg j hj hjl ?_
   refine fK (ti := aU tab) aD 0 aA rfl rfl rfl rfl rfl rfl rfl rfl hgg j 0 (cs[j] + 1) rfl hjl rfl [.int .i64 (cs[j] + 1)] (fun _ => by simp [SV.den, hwr]) rfl z105 ?_
   obtain ⟨cs', hcs'⟩ : ∃ cs', cs' = cs.set j (cs[j] + 1) := ⟨_, rfl⟩
   rw [← hcs']
   refine ⟨⟨(i + 1, z, cs'), by omega, by rw [hcs', List.length_set]; exact hcl, ?_, ?_⟩, ?_, by simp only; omega⟩
   · intro x hm
     rw [List.take_succ_eq_append_getElem hlt] at hm
     rcases List.mem_append.1 hm with hm | hm
     · exact hlt5 x hm
     · rw [List.mem_singleton.1 hm]; exact hx
   · intro t ht
     have ht2 : t < cs.length := by have e : cs'.length = cs.length := by rw [hcs', List.length_set]
                                    have ht3 : t < cs'.length := ht
                                    omega
     have e : cnt (x5.take (i + 1)) t = cnt (x5.take i) t + if x5[i] = (t : Int) then 1 else 0 := by
       rw [List.take_succ_eq_append_getElem hlt]
       simp only [cnt, List.filter_append, List.length_append, List.filter_cons, List.filter_nil]
       by_cases h : x5[i] = (t : Int) <;> simp [h]
     show cs'[t] = _
     rw [e]
     simp only [hcs', List.getElem_set, hcs t ht2]
     by_cases h : j = t
     · subst h; rw [if_pos rfl, if_pos hj, hcj]; rfl
     · rw [if_neg h, if_neg (by omega)]; rfl
   · refine aC [0, 1, 2, 3] ?_ ?_ ?_ ?_ ?_ rfl rfl
     · exact zw20
     · exact zw0
     · exact zw20
     · exact zw5
     · repeat (first | exact trivial | refine ⟨.inl ⟨_, rfl, (by first | rfl | ((first | exact congrArg (fun z => SV.v (Value.int .i64 z)) hw | (simp only [hcs', List.length_set]; done) | (subst hcs'; simp; done))))⟩, ?_⟩ | refine ⟨.inr z146, ?_⟩)
 have hge : x5.length ≤ i := by simpa using g
 rw [List.take_of_length_le hge] at hlt5 hcs
 exact bC [0] ⟨z, cs, true, rfl, rfl, iZ ((hev _).1 hlt5), fun _ => ⟨hcl, fun t ht => by rw [← eI0, ← e5]; exact hcs t ht⟩⟩ z151 rfl ⟨rfl, trivial⟩ (fun _ => rfl)
theorem xI {α β : Type} {f : Nat → α → List β} {e : β} {xs : List α} : e ∈ evL f 0 xs ↔ ∃ j x, xs[j]? = some x ∧ e ∈ f j x := by
 have : ∀ (xs : List α) (i j : Nat) (x : α), xs[j]? = some x → e ∈ f (i + j) x → e ∈ evL f i xs := by
   intro xs
   induction xs with
   | nil => intro i j x h; simp at h
   | cons y r ih =>
     intro i j x h hm
     simp only [evL, List.mem_append]
     cases j with
     | zero => simp at h; subst h; exact .inl hm
     | succ j => exact .inr (ih (i + 1) j x z100 (by rw [show i + 1 + j = i + (j + 1) by omega]; exact hm))
 constructor
 · intro h
   obtain ⟨j, x, hx, hm⟩ := oZ h
   exact ⟨j, x, hx, by rwa [Nat.zero_add] at hm⟩
 · rintro ⟨j, x, hx, hm⟩
   exact this xs 0 j x hx (by rwa [Nat.zero_add])
theorem jR {β : Type} {es : List (Int × β)} {t : Int} {x : β} : x ∈ aN es t ↔ (t, x) ∈ es := by
 simp only [aN, List.mem_map, List.mem_filter, beq_iff_eq]
 constructor
 · rintro ⟨⟨a, b⟩, ⟨h, rfl⟩, rfl⟩; exact h
 · intro h; exact ⟨_, ⟨h, rfl⟩, rfl⟩
theorem zF {p : Prog} {s : State} {op : Op} {t : Int} (ho : OpOk p op) : eZ s op t ↔ jW op ∈ aN (bH s) t := by
 have o0 : 0 ≤ op.on := ho.2.2.1
 have hz : ∀ j : Nat, ((j : Int) = op.on ↔ j = op.on.toNat) := fun j => by omega
 rw [jR]
 simp only [bH, List.mem_append, xI, eZ, jW, dH, cR, cS, cF, dB, List.mem_map, Prod.mk.injEq, Waiting.mk.injEq]
 by_cases k2 : op.kind = 2
 · simp only [k2, if_true, true_or]
   constructor
   · rintro ⟨x, hx, hm⟩
     exact .inl (.inl (.inl (.inl ⟨_, x, hx, _, hm, by simp, by simp, by omega, by simp⟩)))
   · rintro ((((⟨j, x, hx, y, hm, h1, h2, h3, h4⟩ | ⟨j, x, hx, y, hm, h1, h2, h3, h4⟩) | ⟨j, x, hx, y, hm, h1, h2, h3, h4⟩) | ⟨j, x, hx, y, hm, h1, h2, h3, h4⟩) | ⟨j, x, hx, ⟨y, hm, h1, h2, h3, h4⟩ | ⟨y, hm, h1, h2, h3, h4⟩⟩)
     · obtain rfl := (hz j).1 h3
       refine ⟨x, hx, ?_⟩
       obtain ⟨a, b⟩ := y
       simp only at h1 h4; subst h1; subst h4; exact hm
     all_goals omega
 by_cases k4 : op.kind = 4
 · simp only [k4, if_true, if_neg (show ¬ (4 : Int) = 2 by decide), if_neg (show ¬ ((4 : Int) = 2 ∨ (4 : Int) = 8) by decide)]
   constructor
   · rintro ⟨x, hx, hm⟩
     exact .inl (.inl (.inl (.inr ⟨_, x, hx, _, hm, by simp, by simp, by omega, by simp⟩)))
   · rintro ((((⟨j, x, hx, y, hm, h1, h2, h3, h4⟩ | ⟨j, x, hx, y, hm, h1, h2, h3, h4⟩) | ⟨j, x, hx, y, hm, h1, h2, h3, h4⟩) | ⟨j, x, hx, y, hm, h1, h2, h3, h4⟩) | ⟨j, x, hx, ⟨y, hm, h1, h2, h3, h4⟩ | ⟨y, hm, h1, h2, h3, h4⟩⟩)
     · omega
     · obtain rfl := (hz j).1 h3
       subst h1; exact ⟨x, hx, hm⟩
     all_goals omega
 by_cases k6 : op.kind = 6
 · simp only [k6, if_true, if_neg (show ¬ (6 : Int) = 2 by decide), if_neg (show ¬ (6 : Int) = 4 by decide), if_neg (show ¬ ((6 : Int) = 2 ∨ (6 : Int) = 8) by decide)]
   constructor
   · rintro ⟨x, hx, hm⟩
     exact .inl (.inl (.inr ⟨_, x, hx, _, hm, by simp, by simp, by omega, by simp⟩))
   · rintro ((((⟨j, x, hx, y, hm, h1, h2, h3, h4⟩ | ⟨j, x, hx, y, hm, h1, h2, h3, h4⟩) | ⟨j, x, hx, y, hm, h1, h2, h3, h4⟩) | ⟨j, x, hx, y, hm, h1, h2, h3, h4⟩) | ⟨j, x, hx, ⟨y, hm, h1, h2, h3, h4⟩ | ⟨y, hm, h1, h2, h3, h4⟩⟩)
     · omega
     · omega
     · obtain rfl := (hz j).1 h3
       subst h1; exact ⟨x, hx, hm⟩
     all_goals omega
 by_cases k7 : op.kind = 7
 · simp only [k7, if_true, if_neg (show ¬ (7 : Int) = 2 by decide), if_neg (show ¬ (7 : Int) = 4 by decide), if_neg (show ¬ (7 : Int) = 6 by decide), if_neg (show ¬ ((7 : Int) = 2 ∨ (7 : Int) = 8) by decide)]
   constructor
   · rintro ⟨x, hx, hm⟩
     exact .inl (.inr ⟨_, x, hx, _, hm, by simp, by simp, by omega, by simp⟩)
   · rintro ((((⟨j, x, hx, y, hm, h1, h2, h3, h4⟩ | ⟨j, x, hx, y, hm, h1, h2, h3, h4⟩) | ⟨j, x, hx, y, hm, h1, h2, h3, h4⟩) | ⟨j, x, hx, y, hm, h1, h2, h3, h4⟩) | ⟨j, x, hx, ⟨y, hm, h1, h2, h3, h4⟩ | ⟨y, hm, h1, h2, h3, h4⟩⟩)
     · omega
     · omega
     · omega
     · obtain rfl := (hz j).1 h3
       subst h1; exact ⟨x, hx, hm⟩
     all_goals omega
 by_cases k8 : op.kind = 8
 · simp only [k8, if_true, if_neg (show ¬ (8 : Int) = 2 by decide), if_neg (show ¬ (8 : Int) = 4 by decide), if_neg (show ¬ (8 : Int) = 6 by decide), if_neg (show ¬ (8 : Int) = 7 by decide), or_true]
   constructor
   · rintro ⟨x, hx, hm⟩
     exact .inr ⟨_, x, hx, .inl ⟨_, hm, by simp, by simp, by omega, by simp⟩⟩
   · rintro ((((⟨j, x, hx, y, hm, h1, h2, h3, h4⟩ | ⟨j, x, hx, y, hm, h1, h2, h3, h4⟩) | ⟨j, x, hx, y, hm, h1, h2, h3, h4⟩) | ⟨j, x, hx, y, hm, h1, h2, h3, h4⟩) | ⟨j, x, hx, ⟨y, hm, h1, h2, h3, h4⟩ | ⟨y, hm, h1, h2, h3, h4⟩⟩)
     · omega
     · omega
     · omega
     · omega
     · obtain rfl := (hz j).1 h3
       refine ⟨x, hx, ?_⟩
       obtain ⟨a, b⟩ := y
       simp only at h1 h4; subst h1; subst h4; exact hm
     · omega
 by_cases k9 : op.kind = 9
 · simp only [k9, if_true, if_neg (show ¬ (9 : Int) = 2 by decide), if_neg (show ¬ (9 : Int) = 4 by decide), if_neg (show ¬ (9 : Int) = 6 by decide), if_neg (show ¬ (9 : Int) = 7 by decide), if_neg (show ¬ (9 : Int) = 8 by decide), if_neg (show ¬ ((9 : Int) = 2 ∨ (9 : Int) = 8) by decide)]
   constructor
   · rintro ⟨x, hx, hm⟩
     exact .inr ⟨_, x, hx, .inr ⟨_, hm, by simp, by simp, by omega, by simp⟩⟩
   · rintro ((((⟨j, x, hx, y, hm, h1, h2, h3, h4⟩ | ⟨j, x, hx, y, hm, h1, h2, h3, h4⟩) | ⟨j, x, hx, y, hm, h1, h2, h3, h4⟩) | ⟨j, x, hx, y, hm, h1, h2, h3, h4⟩) | ⟨j, x, hx, ⟨y, hm, h1, h2, h3, h4⟩ | ⟨y, hm, h1, h2, h3, h4⟩⟩)
     · omega
     · omega
     · omega
     · omega
     · omega
     · obtain rfl := (hz j).1 h3
       subst h1; exact ⟨x, hx, hm⟩
 simp only [k2, k4, k6, k7, k8, k9, if_false]
 constructor
 · exact False.elim
 · rintro ((((⟨j, x, hx, y, hm, h1, h2, h3, h4⟩ | ⟨j, x, hx, y, hm, h1, h2, h3, h4⟩) | ⟨j, x, hx, y, hm, h1, h2, h3, h4⟩) | ⟨j, x, hx, y, hm, h1, h2, h3, h4⟩) | ⟨j, x, hx, ⟨y, hm, h1, h2, h3, h4⟩ | ⟨y, hm, h1, h2, h3, h4⟩⟩) <;> omega
theorem zG : ∀ (i : Nat) (xs : List Once), ((evL gY i xs).map (·.2)).Nodup ∧ ∀ z ∈ (evL gY i xs).map (·.2), (i : Int) ≤ z
 | i, [] => by simp [evL]
 | i, x :: r => by
   obtain ⟨h1, h2⟩ := zG (i + 1) r
   simp only [evL, gY]
   split
   · simp only [List.singleton_append, List.map_cons, List.nodup_cons]
     refine ⟨⟨fun hm => ?_, h1⟩, fun z hz => ?_⟩
     · have := h2 _ hm; omega
     · rcases List.mem_cons.1 hz with rfl | hz
       · exact Int.le_refl _
       · have := h2 _ hz; omega
   · refine ⟨h1, fun z hz => ?_⟩
     have := h2 z hz; omega
theorem aZ0 (s : State) (t : Int) : (aN (cD s) t).Nodup := by
 refine (zG 0 s.onces).1.sublist ?_
 exact (List.filter_sublist ..).map _
theorem iF {s : State} {t i : Int} : i ∈ aN (cD s) t ↔ ∃ (j : Nat) (x : Once), s.onces[j]? = some x ∧ x.state = 1 ∧ x.owner = t ∧ i = j := by
 rw [jR, cD, xI]
 constructor
 · rintro ⟨j, x, hx, hm⟩
   simp only [gY] at hm
   split at hm
   · rename_i h1
     simp only [List.mem_singleton, Prod.mk.injEq] at hm
     exact ⟨j, x, hx, h1, hm.1.symm, hm.2⟩
   · cases hm
 · rintro ⟨j, x, hx, h1, rfl, rfl⟩
   exact ⟨j, x, hx, by simp [gY, h1]⟩
theorem oJ0 {l : List Int} {a : Int} (hd : l.Nodup) (hm : a ∈ l) (ha : ∀ x ∈ l, x = a) : l = [a] := by
 match l, hd, hm, ha with
 | [x], _, _, ha => rw [ha x (by simp)]
 | x :: y :: r, hd, _, ha =>
   have h1 := ha x (by simp)
   have h2 := ha y (by simp)
   simp [h1, h2] at hd
theorem jX0 {p : Prog} {s : State} (ok : ProgOk p) (sh : SharedOk p s) (np : s.places.length = p.threads.length) (ns : s.status.length = p.threads.length) (lsaid : s.said.length ≤ 64) (f0 : 0 ≤ s.fault) (f4 : s.fault ≤ 4) (said : ∀ v ∈ s.said, aW v = true) :
   Fits p s ↔ ((∀ e ∈ bH s, e.1 < (p.threads.length : Int)) ∧ (∀ (t : Nat) ops at_ st, p.threads[t]? = some ops → s.places[t]? = some at_ → s.status[t]? = some st → nQ s ops t at_ st (aN (bH s) t).length) ∧ gB0 p s) := by
 have hop : ∀ (t : Nat) ops (at_ : Int) op, p.threads[t]? = some ops → ops[at_.toNat]? = some op → OpOk p op := fun t ops at_ op h1 h2 => (ok.ops _ (List.mem_of_getElem? h1)).2 _ (List.mem_of_getElem? h2)
 constructor
 · intro h
   refine ⟨fun e he => (h.ev e he).2, fun t ops at_ st h1 h2 h3 => ?_, fun i x hx h1 => ?_⟩
   · obtain ⟨a0, a1, h4⟩ := h.threads t ops at_ st h1 h2 h3
     refine ⟨a0, a1, ?_⟩
     rcases h4 with ⟨e1, e2, e3, e4⟩ | ⟨op, e1, e2⟩
     · exact .inl ⟨e1, e2, by rw [e3]; rfl⟩
     · refine .inr ⟨op, e1, ?_⟩
       rcases e2 with ⟨e2, e3, e4⟩ | ⟨e2, e3, e4⟩ | ⟨e2, e3, e4, e5⟩
       · exact .inl ⟨e2, by rw [e3]; rfl⟩
       · exact .inr (.inl ⟨e2, by rw [e4]; rfl, (zF (hop t ops at_ op h1 e1)).2 (by rw [e4]; simp)⟩)
       · refine .inr (.inr ⟨e2, by rw [e3]; rfl, e4, ?_⟩)
         have hm : op.on ∈ aN (cD s) t := by rw [e5]; simp
         obtain ⟨j, x, hx, h5, h6, h7⟩ := iF.1 hm
         exact ⟨x, by rw [h7]; simpa using hx, h5, h6⟩
   · have hm : (x.owner, (i : Int)) ∈ cD s := jR.1 (iF.2 ⟨i, x, hx, h1, rfl, rfl⟩)
     obtain ⟨o0, o1⟩ := h.ow _ hm
     simp only at o0 o1
     obtain ⟨t, ht⟩ : ∃ t : Nat, x.owner = t := ⟨_, (Int.toNat_of_nonneg o0).symm⟩
     have hlt : t < p.threads.length := by omega
     have hpl : t < s.places.length := by omega
     have hsl : t < s.status.length := by omega
     have hmem : (i : Int) ∈ aN (cD s) t := jR.2 (ht ▸ hm)
     obtain ⟨a0, a1, h4⟩ := h.threads t _ _ _ (List.getElem?_eq_getElem hlt) (List.getElem?_eq_getElem hpl) (List.getElem?_eq_getElem hsl)
     rcases h4 with ⟨e1, e2, e3, e4⟩ | ⟨op, e1, e2⟩
     · rw [e4] at hmem; cases hmem
     · rcases e2 with ⟨e2, e3, e4⟩ | ⟨e2, e3, e4⟩ | ⟨e2, e3, e4, e5⟩
       · rw [e4] at hmem; cases hmem
       · rw [e3] at hmem; cases hmem
       · rw [e5] at hmem
         exact ⟨t, ht, _, _, op, List.getElem?_eq_getElem hlt, by rw [List.getElem?_eq_getElem hsl, e2], List.getElem?_eq_getElem hpl, e1, (List.mem_singleton.1 hmem).symm⟩
 · rintro ⟨hev, hth, how⟩
   have own2 : ∀ (t : Nat) (i : Int), i ∈ aN (cD s) t → ∃ ops at_ op, p.threads[t]? = some ops ∧ s.status[t]? = some 2 ∧ s.places[t]? = some at_ ∧ ops[at_.toNat]? = some op ∧ op.on = i := by
     intro t i hm
     obtain ⟨j, x, hx, h1, h2, rfl⟩ := iF.1 hm
     obtain ⟨t', e1, ops, at_, op, e2, e3, e4, e5, e6⟩ := how j x hx h1
     obtain rfl : t' = t := by omega
     exact ⟨ops, at_, op, e2, e3, e4, e5, e6⟩
   have none : ∀ (t : Nat) st, s.status[t]? = some st → st ≠ 2 → aN (cD s) t = [] := fun t st h1 h2 => by
     refine List.eq_nil_iff_forall_not_mem.2 fun i hm => ?_
     obtain ⟨_, _, _, _, e, _⟩ := own2 t i hm
     rw [h1] at e; injection e with e; exact h2 e
   refine ⟨ok, np, ns, sh.lsems, sh.lgroups, sh.lbarriers, sh.lchans, sh.lonces, lsaid, f0, f4, sh.sems, sh.groups, sh.barriers, sh.chans, sh.onces, said, fun t ops at_ st h1 h2 h3 => ?_, fun e he => ⟨zE sh e he, hev e he⟩, fun e he => ?_⟩
   · obtain ⟨a0, a1, h4⟩ := hth t ops at_ st h1 h2 h3
     have l0 : ∀ {l : List Waiting}, ((l.length : Nat) : Int) = 0 → l = [] := fun h => List.eq_nil_of_length_eq_zero (by omega)
     refine ⟨a0, a1, ?_⟩
     rcases h4 with ⟨e1, e2, e3⟩ | ⟨op, e1, e2⟩
     · exact .inl ⟨e1, e2, l0 e3, none t st h3 (by omega)⟩
     · refine .inr ⟨op, e1, ?_⟩
       rcases e2 with ⟨e2, e3⟩ | ⟨e2, e3, e4⟩ | ⟨e2, e3, e4, x, e5, e6, e7⟩
       · exact .inl ⟨e2, l0 e3, none t st h3 (by omega)⟩
       · refine .inr (.inl ⟨e2, none t st h3 (by omega), ?_⟩)
         have hm := (zF (hop t ops at_ op h1 e1)).1 e4
         obtain ⟨a, ha⟩ : ∃ a, aN (bH s) t = [a] := List.length_eq_one_iff.1 (by omega)
         rw [ha] at hm ⊢
         rw [List.mem_singleton.1 hm]
       · have o0 := (hop t ops at_ op h1 e1).2.2.1
         refine .inr (.inr ⟨e2, l0 e3, e4, oJ0 (aZ0 s t) (iF.2 ⟨_, x, e5, e6, e7, by omega⟩) fun i hi => ?_⟩)
         obtain ⟨ops', at', op', g1, _, g3, g4, g5⟩ := own2 t i hi
         rw [h1] at g1; injection g1 with g1; subst g1
         rw [h2] at g3; injection g3 with g3; subst g3
         rw [e1] at g4; injection g4 with g4; subst g4
         exact g5.symm
   · obtain ⟨a, b⟩ := e
     obtain ⟨j, x, hx, h1, h2, h3⟩ := iF.1 (jR.2 he)
     obtain ⟨t, e1, ops, _, _, e2, _⟩ := how j x hx h1
     have := (List.getElem?_eq_some_iff.1 e2).1
     exact ⟨by simp only; omega, by simp only; omega⟩
theorem tP (p : ProgH) (s : StateH) (w : World) (h : At w [fR (aV p), fR (aK s)]) (hp : p.pure.small20) (hs : s.pure.small20) :
   Calls Tryz.prog 82 #[dJ p, aM s] w (gZ w (Fits p.pure s.pure)) := by
 have mlen : ∀ {α β : Type} (f : α → β) (xs : List α), (xs.map f).length = xs.length := fun f xs => by simp
 have lt : p.pure.threads.length = p.threads.length := mlen _ _
 refine cM Tryz.func82 rfl aA w _ rfl _ rfl _ h ⟨rfl, rfl, rfl, rfl, trivial⟩ _ _ (by decide) ?_
 refine aB _ fF0 rfl rfl rfl rfl ⟨rfl, rfl⟩ (fun A w hW => mB p w ⟨hW.get 0 rfl (.refl _), trivial⟩ ⟨hp.1, hp.2.1, hp.2.2.1, hp.2.2.2.1⟩) ?_
 rintro v L ⟨b, rfl, hb, rfl⟩
 apply CaseB.mk <;> intro g
 · exact aI ⟨_, rfl, tno fun e => (by rw [hb.2 e.prog] at g; cases g), rfl⟩ (fun _ => rfl)
 have ok : ProgOk p.pure := hb.1 z103
 apply CaseB.mk <;> intro g
 · have q : ¬ s.places.length = p.threads.length := by simp at g; omega
   exact aI ⟨_, rfl, tno fun e => q (by have := e.np; simpa [StateH.pure, ProgH.pure] using this), rfl⟩ (fun _ => rfl)
 have c0 : s.places.length = p.threads.length := by simp at g; omega
 apply CaseB.mk <;> intro g
 · have q : ¬ s.status.length = p.threads.length := by simp at g; omega
   exact aI ⟨_, rfl, tno fun e => q (by have := e.ns; simpa [StateH.pure, ProgH.pure] using this), rfl⟩ (fun _ => rfl)
 have c1 : s.status.length = p.threads.length := by simp at g; omega
 refine aB _ cl145 rfl rfl rfl rfl ⟨rfl, rfl⟩ (fun A w hW => jS0 p s w ⟨hW.get 0 rfl (.refl _), hW.get 1 rfl (.refl _), trivial⟩ ok hs) ?_
 rintro v L ⟨bb, rfl, hbb, rfl⟩
 apply CaseB.mk <;> intro g
 · exact aI ⟨_, rfl, tno fun e => (by rw [hbb.2 e.shared] at g; cases g), rfl⟩ (fun _ => rfl)
 have sh := hbb.1 z103
 apply CaseB.mk <;> intro g
 · have q : ¬ s.said.length ≤ 64 := by have g' := of_decide_eq_true g; omega
   exact aI ⟨_, rfl, tno fun e => q e.lsaid, rfl⟩ (fun _ => rfl)
 have c7 : s.said.length ≤ 64 := by have g' := of_decide_eq_false g; omega
 apply CaseB.mk <;> intro g
 · have q : ¬ 0 ≤ s.fault := by have g' := of_decide_eq_true g; omega
   exact aI ⟨_, rfl, tno fun e => q e.f0, rfl⟩ (fun _ => rfl)
 have c8 : 0 ≤ s.fault := by have g' := of_decide_eq_false g; omega
 apply CaseB.mk <;> intro g
 · have q : ¬ s.fault ≤ 4 := by have g' := of_decide_eq_true g; omega
   exact aI ⟨_, rfl, tno fun e => q e.f4, rfl⟩ (fun _ => rfl)
 have c9 : s.fault ≤ 4 := by have g' := of_decide_eq_false g; omega
 have n4 : p.threads.length ≤ 4 := by have := ok.n4; rwa [lt] at this
 refine LoopW.mk ⟨{ k : Nat // k ≤ s.said.length ∧ ∀ x ∈ s.said.take k, aW x = true },
   fun k => .mk [(2, .p 0 0), (3, .p 1 0), (5, .v (.int .i64 (p.threads.length : Int))), (6, .v (.int .i64 (k.1 : Int)))] 2 0 [(0, 26, 5), (1, 35, 9)] [((0, 0), .v (p.h0.val p.sems.length)), ((0, 1), .v (p.h1.val p.groups.length)), ((0, 2), .v (p.h2.val p.barriers.length)), ((0, 3), .v (p.h3.val p.rooms.length)), ((0, 4), .v (p.h4.val p.threads.length)), ((1, 0), .v (s.h0.val s.places.length)), ((1, 1), .v (s.h1.val s.status.length)), ((1, 2), .v (s.h2.val s.sems.length)), ((1, 3), .v (s.h3.val s.onces.length)), ((1, 4), .v (s.h4.val s.groups.length)), ((1, 5), .v (s.h5.val s.barriers.length)), ((1, 6), .v (s.h6.val s.chans.length)), ((1, 7), .v (s.h7.val s.said.length)), ((1, 8), .v (.int .i64 s.fault))] [fR (aV p), fR (aK s)],
   fun k => s.said.length - k.1, ⟨0, Nat.zero_le _, by simp⟩, ?_, ?_⟩
 · exact aC [0, 1] zw2 zw0 zw2 zw5 zw4 rfl rfl
 rintro ⟨k, hk, hinv⟩
 apply CaseB.mk <;> intro g
 · have hlt : k < s.said.length := by simpa using g
   have hw := bE k _ hlt (by omega)
   refine aG aD aA rfl rfl rfl rfl rfl ⟨rfl, rfl⟩ (aL 1 rfl (.ofR (iD s))) k rfl z48 (fun ad => ?_)
   refine aB _ pX rfl rfl rfl rfl ⟨rfl, rfl⟩ (fun A w hW => gE _ w) ?_
   rintro v L ⟨rfl, rfl⟩
   apply CaseB.mk <;> intro g
   · exact aI ⟨_, rfl, tno fun e => (by have := e.said _ (List.getElem_mem hlt); rw [this] at g; cases g), rfl⟩ (fun _ => rfl)
   have q1 : aW s.said[k] = true := by simpa using g
   refine ⟨⟨k + 1, by omega, fun x hm => ?_⟩, ?_, by simp only; omega⟩
   · rw [List.take_succ_eq_append_getElem hlt] at hm
     rcases List.mem_append.1 hm with hm | hm
     · exact hinv x hm
     · rw [List.mem_singleton.1 hm]; exact q1
   · exact aC [0, 1] zw1 zw0 zw1 zw5 zw3 rfl rfl
 have hge : s.said.length ≤ k := by simpa using g
 rw [List.take_of_length_le hge] at hinv
 have hF := jX0 ok sh (by rw [lt]; exact c0) (by rw [lt]; exact c1) c7 c8 c9 hinv
 rw [lt] at hF
 refine aB _ cl147 rfl rfl rfl rfl ⟨rfl, rfl⟩ (fun A w hW => jW0 p s w ⟨hW.get 0 rfl (.refl _), hW.get 1 rfl (.refl _), trivial⟩ ok sh) ?_
 rintro v L ⟨y, cs, bq, rfl, rfl, hb1, hb2⟩
 apply CaseB.mk <;> intro g
 · exact aI ⟨_, rfl, tno fun e => (by rw [hb1.2 (hF.1 e).1] at g; cases g), rfl⟩ (fun _ => rfl)
 have bt : bq = true := by simpa using g
 obtain ⟨hcl, hcs⟩ := hb2 bt
 have hev := hb1.1 bt
 refine LoopW.mk ⟨{ k : Nat // k ≤ p.threads.length ∧ ∀ (t : Nat) (ht : t < p.threads.length), t < k → nQ s.pure (p.threads[t]).m t s.places[t] s.status[t] (aN (bH s.pure) t).length },
   fun k => .mk [(2, .p 0 0), (3, .p 1 0), (5, .v (.int .i64 (p.threads.length : Int))), (7, .v (y.val cs.length)), (9, .v (.int .i64 (k.1 : Int)))] 2 0 [(0, 26, 5), (1, 35, 9)] [((0, 0), .v (p.h0.val p.sems.length)), ((0, 1), .v (p.h1.val p.groups.length)), ((0, 2), .v (p.h2.val p.barriers.length)), ((0, 3), .v (p.h3.val p.rooms.length)), ((0, 4), .v (p.h4.val p.threads.length)), ((1, 0), .v (s.h0.val s.places.length)), ((1, 1), .v (s.h1.val s.status.length)), ((1, 2), .v (s.h2.val s.sems.length)), ((1, 3), .v (s.h3.val s.onces.length)), ((1, 4), .v (s.h4.val s.groups.length)), ((1, 5), .v (s.h5.val s.barriers.length)), ((1, 6), .v (s.h6.val s.chans.length)), ((1, 7), .v (s.h7.val s.said.length)), ((1, 8), .v (.int .i64 s.fault))] [own y 3 aJ 1 cs, fR (aV p), fR (aK s)],
   fun k => p.threads.length - k.1, ⟨0, Nat.zero_le _, fun t ht h => by omega⟩, ?_, ?_⟩
 · exact aC [0, 1, 2] zw2 zw0 zw2 zw5 zw4 rfl rfl
 rintro ⟨k, hk, hth⟩
 have hfull : ∀ (t : Nat) (ht : t < p.threads.length) ops at_ st, p.pure.threads[t]? = some ops → s.pure.places[t]? = some at_ → s.pure.status[t]? = some st → ops = (p.threads[t]).m ∧ at_ = s.places[t] ∧ st = s.status[t] := fun t ht ops at_ st h1 h2 h3 => by
   have e1 : p.pure.threads[t]? = some (p.threads[t]).m := by simp [ProgH.pure, ht]
   have e2 : s.pure.places[t]? = some s.places[t] := List.getElem?_eq_getElem (show t < s.places.length by omega)
   have e3 : s.pure.status[t]? = some s.status[t] := List.getElem?_eq_getElem (show t < s.status.length by omega)
   rw [e1] at h1; rw [e2] at h2; rw [e3] at h3
   injection h1 with h1; injection h2 with h2; injection h3 with h3
   exact ⟨h1.symm, h2.symm, h3.symm⟩
 have hone : Fits p.pure s.pure → ∀ (t : Nat) (ht : t < p.threads.length), nQ s.pure (p.threads[t]).m t s.places[t] s.status[t] (aN (bH s.pure) t).length := fun e t ht =>
   (hF.1 e).2.1 t _ _ _ (by simp [ProgH.pure, ht]) (List.getElem?_eq_getElem (show t < s.places.length by omega)) (List.getElem?_eq_getElem (show t < s.status.length by omega))
 apply CaseB.mk <;> intro g
 · have hlt : k < p.threads.length := by simpa using g
   have hw := bE k _ hlt (by omega)
   have hkc : k < cs.length := by omega
   refine aE aA z107 z107 z107 200 [((0, 0), .v (p.h0.val p.sems.length)), ((0, 1), .v (p.h1.val p.groups.length)), ((0, 2), .v (p.h2.val p.barriers.length)), ((0, 3), .v (p.h3.val p.rooms.length)), ((0, 4), .v (p.h4.val p.threads.length)), ((1, 0), .v (s.h0.val s.places.length)), ((1, 1), .v (s.h1.val s.status.length)), ((1, 2), .v (s.h2.val s.sems.length)), ((1, 3), .v (s.h3.val s.onces.length)), ((1, 4), .v (s.h4.val s.groups.length)), ((1, 5), .v (s.h5.val s.barriers.length)), ((1, 6), .v (s.h6.val s.chans.length)), ((1, 7), .v (s.h7.val s.said.length)), ((1, 8), .v (.int .i64 s.fault))] [0] [_] z111 z117 ⟨rfl, trivial⟩ rfl ?_
   refine bM (ti := aU tab) aD aA rfl rfl rfl rfl rfl ⟨rfl, rfl⟩ (aL 0 rfl (Rd.own (o := false) (o' := false))) k rfl z48 (fun ad => ?_)
   rw [hcs k hkc]
   refine bL _ cl148 rfl rfl rfl rfl ⟨rfl, rfl⟩ (fun A w hW => jU0 p s k _ w ⟨hW.get 1 rfl (.refl _), hW.get 2 rfl (.refl _), trivial⟩ ok sh c0 c1 hlt) ?_
   rintro v L ⟨bt2, rfl, hbt, rfl⟩
   apply CaseB.mk <;> intro g
   · exact aI ⟨_, rfl, tno fun e => (by rw [hbt.2 (hone e k hlt)] at g; cases g), rfl⟩ (fun _ => rfl)
   have q1 := hbt.1 z103
   refine ⟨⟨k + 1, by omega, fun t ht h => ?_⟩, ?_, by simp only; omega⟩
   · by_cases e : t < k
     · exact hth t ht e
     · obtain rfl : t = k := by omega
       exact q1
   · exact aC [0, 1, 2] zw1 zw0 zw1 zw5 zw3 rfl rfl
 have hge : p.threads.length ≤ k := by simpa using g
 have hall : ∀ (t : Nat) (ht : t < p.threads.length), nQ s.pure (p.threads[t]).m t s.places[t] s.status[t] (aN (bH s.pure) t).length := fun t ht => hth t ht (by omega)
 have hst : ∀ (t : Nat) (ht : t < p.threads.length), s.status[t] = 2 → 0 ≤ s.places[t] ∧ s.places[t] < (p.threads[t]).m.length := fun t ht h2 => by
   obtain ⟨a0, a1, h4⟩ := hall t ht
   rcases h4 with ⟨_, e2, _⟩ | ⟨op, e1, _⟩
   · omega
   · have := (List.getElem?_eq_some_iff.1 e1).1; omega
 refine aB _ cl149 rfl rfl rfl rfl ⟨rfl, rfl⟩ (fun A w hW => jV0 p s w ⟨hW.get 1 rfl (.refl _), hW.get 2 rfl (.refl _), trivial⟩ ok sh c0 c1 hst) ?_
 rintro v L ⟨bo, rfl, hbo, rfl⟩
 refine aI ⟨_, rfl, ?_, rfl⟩ (fun _ => rfl)
 rw [hbo, hF]
 constructor
 · intro e
   refine ⟨hev, fun t ops at_ st h1 h2 h3 => ?_, e⟩
   have ht : t < p.threads.length := by rw [← lt]; exact (List.getElem?_eq_some_iff.1 h1).1
   obtain ⟨rfl, rfl, rfl⟩ := hfull t ht _ _ _ h1 h2 h3
   exact hall t ht
 · intro e; exact e.2.2
theorem cQ0 (p : ProgH) (s : StateH) (w : World) (h : At w [fR (aV p), fR (aK s)]) (hp : p.pure.small20) (hs : s.pure.small20) :
   Calls Tryz.prog 62 #[dJ p, aM s] w (gZ w (Fits p.pure s.pure)) := by
 obtain ⟨b0, b1, b2, b3, b4, b5, b6, b7⟩ := hs
 have mlen : ∀ {α β : Type} (f : α → β) (xs : List α), (xs.map f).length = xs.length := fun f xs => by simp
 have lt : p.pure.threads.length = p.threads.length := mlen _ _
 have l2 : s.pure.sems.length = s.sems.length := mlen _ _
 have l3 : s.pure.onces.length = s.onces.length := mlen _ _
 have l4 : s.pure.groups.length = s.groups.length := mlen _ _
 have l5 : s.pure.barriers.length = s.barriers.length := mlen _ _
 have l6 : s.pure.chans.length = s.chans.length := mlen _ _
 refine cM Tryz.func62 rfl aA w _ rfl _ rfl _ h ⟨rfl, rfl, rfl, rfl, trivial⟩ _ _ (by decide) ?_
 refine aB _ mV0 rfl rfl rfl rfl ⟨rfl, rfl⟩ (fun A w hW => vQ p w ⟨hW.get 0 rfl (.refl _), trivial⟩ ⟨hp.1, hp.2.1, hp.2.2.1, hp.2.2.2.1⟩) ?_
 rintro v L ⟨b, rfl, hb, rfl⟩
 apply CaseB.mk <;> intro g
 · exact aI ⟨_, rfl, tno fun e => (by rw [hb.2 e.prog] at g; cases g), rfl⟩ (fun _ => rfl)
 have ok : ProgOk p.pure := hb.1 z103
 apply CaseB.mk <;> intro g
 · have q : ¬ s.places.length = p.threads.length := by simp at g; omega
   exact aI ⟨_, rfl, tno fun e => q (by have := e.np; simpa [StateH.pure, ProgH.pure] using this), rfl⟩ (fun _ => rfl)
 have c0 : s.places.length = p.threads.length := by simp at g; omega
 apply CaseB.mk <;> intro g
 · have q : ¬ s.status.length = p.threads.length := by simp at g; omega
   exact aI ⟨_, rfl, tno fun e => q (by have := e.ns; simpa [StateH.pure, ProgH.pure] using this), rfl⟩ (fun _ => rfl)
 have c1 : s.status.length = p.threads.length := by simp at g; omega
 apply CaseB.mk <;> intro g
 · have q : ¬ s.sems.length = p.sems.length := by simp at g; omega
   exact aI ⟨_, rfl, tno fun e => q (by have := e.lsems; simpa [StateH.pure, ProgH.pure] using this), rfl⟩ (fun _ => rfl)
 have c2 : s.sems.length = p.sems.length := by simp at g; omega
 apply CaseB.mk <;> intro g
 · have q : ¬ s.groups.length = p.groups.length := by simp at g; omega
   exact aI ⟨_, rfl, tno fun e => q (by have := e.lgroups; simpa [StateH.pure, ProgH.pure] using this), rfl⟩ (fun _ => rfl)
 have c4 : s.groups.length = p.groups.length := by simp at g; omega
 apply CaseB.mk <;> intro g
 · have q : ¬ s.barriers.length = p.barriers.length := by simp at g; omega
   exact aI ⟨_, rfl, tno fun e => q (by have := e.lbarriers; simpa [StateH.pure, ProgH.pure] using this), rfl⟩ (fun _ => rfl)
 have c5 : s.barriers.length = p.barriers.length := by simp at g; omega
 apply CaseB.mk <;> intro g
 · have q : ¬ s.chans.length = p.rooms.length := by simp at g; omega
   exact aI ⟨_, rfl, tno fun e => q (by have := e.lchans; simpa [StateH.pure, ProgH.pure] using this), rfl⟩ (fun _ => rfl)
 have c6 : s.chans.length = p.rooms.length := by simp at g; omega
 apply CaseB.mk <;> intro g
 · have q : ¬ s.onces.length = 3 := by simp at g; omega
   exact aI ⟨_, rfl, tno fun e => q (by have := e.lonces; simpa [StateH.pure, ProgH.pure] using this), rfl⟩ (fun _ => rfl)
 have c3 : s.onces.length = 3 := by simp at g; omega
 apply CaseB.mk <;> intro g
 · have q : ¬ s.said.length ≤ 64 := by have g' := of_decide_eq_true g; omega
   exact aI ⟨_, rfl, tno fun e => q e.lsaid, rfl⟩ (fun _ => rfl)
 have c7 : s.said.length ≤ 64 := by have g' := of_decide_eq_false g; omega
 apply CaseB.mk <;> intro g
 · have q : ¬ 0 ≤ s.fault := by have g' := of_decide_eq_true g; omega
   exact aI ⟨_, rfl, tno fun e => q e.f0, rfl⟩ (fun _ => rfl)
 have c8 : 0 ≤ s.fault := by have g' := of_decide_eq_false g; omega
 apply CaseB.mk <;> intro g
 · have q : ¬ s.fault ≤ 4 := by have g' := of_decide_eq_true g; omega
   exact aI ⟨_, rfl, tno fun e => q e.f4, rfl⟩ (fun _ => rfl)
 have c9 : s.fault ≤ 4 := by have g' := of_decide_eq_false g; omega
 have n4 : p.threads.length ≤ 4 := by have := ok.n4; rwa [lt] at this
 have m0 : p.sems.length ≤ 3 := ok.sems.1
 have m1 : p.groups.length ≤ 3 := ok.groups.1
 have m2 : p.barriers.length ≤ 3 := ok.barriers.1
 have m3 : p.rooms.length ≤ 3 := ok.rooms.1
 refine LoopW.mk ⟨{ k : Nat // k ≤ s.sems.length ∧ ∀ (i : Nat) x, i < k → s.pure.sems[i]? = some x → SemOk x ∧ p.pure.sems[i]? = some x.limit },
   fun k => .mk [(2, .p 0 0), (3, .p 1 0), (106, .v (s.h2.val s.sems.length)), (107, .v (.int .i64 (s.sems.length : Int))), (108, .v (.int .i64 (k.1 : Int)))] 2 0 [(0, 26, 5), (1, 35, 9)] [((0, 0), .v (p.h0.val p.sems.length)), ((0, 1), .v (p.h1.val p.groups.length)), ((0, 2), .v (p.h2.val p.barriers.length)), ((0, 3), .v (p.h3.val p.rooms.length)), ((0, 4), .v (p.h4.val p.threads.length)), ((1, 0), .v (s.h0.val s.places.length)), ((1, 1), .v (s.h1.val s.status.length)), ((1, 2), .v (s.h2.val s.sems.length)), ((1, 3), .v (s.h3.val s.onces.length)), ((1, 4), .v (s.h4.val s.groups.length)), ((1, 5), .v (s.h5.val s.barriers.length)), ((1, 6), .v (s.h6.val s.chans.length)), ((1, 7), .v (s.h7.val s.said.length)), ((1, 8), .v (.int .i64 s.fault))] [fR (aV p), fR (aK s)],
   fun k => s.sems.length - k.1, ⟨0, Nat.zero_le _, fun i x hi => by omega⟩, ?_, ?_⟩
 · exact aC [0, 1] zw2 zw0 zw2 zw5 zw4 rfl rfl
 rintro ⟨k, hk, hinv⟩
 apply CaseB.mk <;> intro g
 · have hlt : k < s.sems.length := by simpa using g
   have hw := bE k _ hlt (by omega)
   have hat : s.pure.sems[k]? = some (s.sems[k]).m := by simp [StateH.pure, hlt]
   have hsm := (cO b2).2 _ (List.getElem_mem hlt)
   unfold Sem.small20 at hsm
   refine aG dC aA rfl rfl rfl rfl rfl ⟨rfl, rfl⟩ (aL 1 rfl (.trans (.R_R (bW s)) (.ofR bG))) k rfl z48 (fun ad => ?_)
   refine aE aA z107 z107 z107 200 [((0, 0), .v (p.h0.val p.sems.length)), ((2, 0), .v (.int .i64 (s.sems[k]).m.free)), ((2, 1), .v (.int .i64 (s.sems[k]).m.limit)), ((2, 2), .v ((s.sems[k]).q.val (s.sems[k]).m.queue.length))] [0] [_] z129 z145 ⟨rfl, trivial⟩ rfl ?_
   refine bL _ iS0 rfl rfl rfl rfl ⟨rfl, rfl⟩ (fun A w hW => sK _ _ w ⟨hW.get 1 rfl (.trans (.R_R (bW s)) (.ofR (kH _ _ k hlt))), trivial⟩ (by omega)) ?_
   rintro v L ⟨bb, rfl, hbb, rfl⟩
   apply CaseB.mk <;> intro g
   · exact aI ⟨_, rfl, tno fun e => (by rw [hbb.2 ((e.sems k _ hat).1)] at g; cases g), rfl⟩ (fun _ => rfl)
   have q1 := hbb.1 z103
   have hlp : k < p.sems.length := by omega
   have hpat : p.pure.sems[k]? = some p.sems[k] := by simp [ProgH.pure, hlp]
   refine bM (ti := aU tab) aD aA rfl rfl rfl rfl rfl ⟨rfl, rfl⟩ (aL 0 rfl (.ofR (eJ p))) k rfl z48 (fun ad2 => ?_)
   apply CaseB.mk <;> intro g
   · have q : ¬ (s.sems[k]).m.limit = p.sems[k] := by simpa using g
     exact aI ⟨_, rfl, tno fun e => q z59, rfl⟩ (fun _ => rfl)
   have q2 : (s.sems[k]).m.limit = p.sems[k] := by simpa using g
   refine ⟨⟨k + 1, by omega, fun i x hi hx => ?_⟩, ?_, by simp only; omega⟩
   · by_cases e : i < k
     · exact hinv i x e hx
     · obtain rfl : i = k := by omega
       rw [hat] at hx
       injection hx with hx
       subst hx
       exact ⟨q1, by rw [hpat, q2]⟩
   · exact aC [0, 1] zw1 zw0 zw1 zw5 zw3 rfl rfl
 have hge : s.sems.length ≤ k := by simpa using g
 have vsems : ∀ (i : Nat) x, s.pure.sems[i]? = some x → SemOk x ∧ p.pure.sems[i]? = some x.limit := fun i x hx => hinv i x z85 hx
 refine LoopW.mk ⟨{ k : Nat // k ≤ s.groups.length ∧ ∀ (i : Nat) x, i < k → s.pure.groups[i]? = some x → eY x },
   fun k => .mk [(2, .p 0 0), (3, .p 1 0), (128, .v (s.h4.val s.groups.length)), (129, .v (.int .i64 (s.groups.length : Int))), (130, .v (.int .i64 (k.1 : Int)))] 2 0 [(0, 26, 5), (1, 35, 9)] [((0, 0), .v (p.h0.val p.sems.length)), ((0, 1), .v (p.h1.val p.groups.length)), ((0, 2), .v (p.h2.val p.barriers.length)), ((0, 3), .v (p.h3.val p.rooms.length)), ((0, 4), .v (p.h4.val p.threads.length)), ((1, 0), .v (s.h0.val s.places.length)), ((1, 1), .v (s.h1.val s.status.length)), ((1, 2), .v (s.h2.val s.sems.length)), ((1, 3), .v (s.h3.val s.onces.length)), ((1, 4), .v (s.h4.val s.groups.length)), ((1, 5), .v (s.h5.val s.barriers.length)), ((1, 6), .v (s.h6.val s.chans.length)), ((1, 7), .v (s.h7.val s.said.length)), ((1, 8), .v (.int .i64 s.fault))] [fR (aV p), fR (aK s)],
   fun k => s.groups.length - k.1, ⟨0, Nat.zero_le _, fun i x hi => by omega⟩, ?_, ?_⟩
 · exact aC [0, 1] zw2 zw0 zw2 zw5 zw4 rfl rfl
 rintro ⟨k, hk, hinv⟩
 apply CaseB.mk <;> intro g
 · have hlt : k < s.groups.length := by simpa using g
   have hw := bE k _ hlt (by omega)
   have hat : s.pure.groups[k]? = some (s.groups[k]).m := by simp [StateH.pure, hlt]
   have hsm := (cO b4).2 _ (List.getElem_mem hlt)
   unfold Group.small20 at hsm
   refine aG cJ aA rfl rfl rfl rfl rfl ⟨rfl, rfl⟩ (aL 1 rfl (.trans (.R_R (bO s)) (.ofR bG))) k rfl z48 (fun ad => ?_)
   refine aB _ iT0 rfl rfl rfl rfl ⟨rfl, rfl⟩ (fun A w hW => oW _ _ w ⟨hW.get 1 rfl (.trans (.R_R (bO s)) (.ofR (fG _ _ k hlt))), trivial⟩ (by omega)) ?_
   rintro v L ⟨bb, rfl, hbb, rfl⟩
   apply CaseB.mk <;> intro g
   · exact aI ⟨_, rfl, tno fun e => (by rw [hbb.2 (e.groups _ (List.mem_of_getElem? hat))] at g; cases g), rfl⟩ (fun _ => rfl)
   have q1 := hbb.1 z103
   refine ⟨⟨k + 1, by omega, fun i x hi hx => ?_⟩, ?_, by simp only; omega⟩
   · by_cases e : i < k
     · exact hinv i x e hx
     · obtain rfl : i = k := by omega
       rw [hat] at hx
       injection hx with hx
       subst hx
       exact q1
   · exact aC [0, 1] zw1 zw0 zw1 zw5 zw3 rfl rfl
 have hge : s.groups.length ≤ k := by simpa using g
 have vgroups : ∀ (i : Nat) x, s.pure.groups[i]? = some x → eY x := fun i x hx => hinv i x z85 hx
 refine LoopW.mk ⟨{ k : Nat // k ≤ s.barriers.length ∧ ∀ (i : Nat) x, i < k → s.pure.barriers[i]? = some x → dO x ∧ p.pure.barriers[i]? = some x.parties },
   fun k => .mk [(2, .p 0 0), (3, .p 1 0), (139, .v (s.h5.val s.barriers.length)), (140, .v (.int .i64 (s.barriers.length : Int))), (141, .v (.int .i64 (k.1 : Int)))] 2 0 [(0, 26, 5), (1, 35, 9)] [((0, 0), .v (p.h0.val p.sems.length)), ((0, 1), .v (p.h1.val p.groups.length)), ((0, 2), .v (p.h2.val p.barriers.length)), ((0, 3), .v (p.h3.val p.rooms.length)), ((0, 4), .v (p.h4.val p.threads.length)), ((1, 0), .v (s.h0.val s.places.length)), ((1, 1), .v (s.h1.val s.status.length)), ((1, 2), .v (s.h2.val s.sems.length)), ((1, 3), .v (s.h3.val s.onces.length)), ((1, 4), .v (s.h4.val s.groups.length)), ((1, 5), .v (s.h5.val s.barriers.length)), ((1, 6), .v (s.h6.val s.chans.length)), ((1, 7), .v (s.h7.val s.said.length)), ((1, 8), .v (.int .i64 s.fault))] [fR (aV p), fR (aK s)],
   fun k => s.barriers.length - k.1, ⟨0, Nat.zero_le _, fun i x hi => by omega⟩, ?_, ?_⟩
 · exact aC [0, 1] zw2 zw0 zw2 zw5 zw4 rfl rfl
 rintro ⟨k, hk, hinv⟩
 apply CaseB.mk <;> intro g
 · have hlt : k < s.barriers.length := by simpa using g
   have hw := bE k _ hlt (by omega)
   have hat : s.pure.barriers[k]? = some (s.barriers[k]).m := by simp [StateH.pure, hlt]
   have hsm := (cO b5).2 _ (List.getElem_mem hlt)
   unfold Barrier.small20 at hsm
   refine aG cC aA rfl rfl rfl rfl rfl ⟨rfl, rfl⟩ (aL 1 rfl (.trans (.R_R (bK s)) (.ofR bG))) k rfl z48 (fun ad => ?_)
   refine aE aA z107 z107 z107 200 [((0, 2), .v (p.h2.val p.barriers.length)), ((2, 0), .v (.int .i64 (s.barriers[k]).m.parties)), ((2, 1), .v (.int .i64 (s.barriers[k]).m.round)), ((2, 2), .v ((s.barriers[k]).q.val (s.barriers[k]).m.waits.length))] [0] [_] z129 z145 ⟨rfl, trivial⟩ rfl ?_
   refine bL _ mW0 rfl rfl rfl rfl ⟨rfl, rfl⟩ (fun A w hW => qD _ _ w ⟨hW.get 1 rfl (.trans (.R_R (bK s)) (.ofR (eE _ _ k hlt))), trivial⟩ (by omega)) ?_
   rintro v L ⟨bb, rfl, hbb, rfl⟩
   apply CaseB.mk <;> intro g
   · exact aI ⟨_, rfl, tno fun e => (by rw [hbb.2 ((e.barriers k _ hat).1)] at g; cases g), rfl⟩ (fun _ => rfl)
   have q1 := hbb.1 z103
   have hlp : k < p.barriers.length := by omega
   have hpat : p.pure.barriers[k]? = some p.barriers[k] := by simp [ProgH.pure, hlp]
   refine bM (ti := aU tab) aD aA rfl rfl rfl rfl rfl ⟨rfl, rfl⟩ (aL 0 rfl (.ofR (eF p))) k rfl z48 (fun ad2 => ?_)
   apply CaseB.mk <;> intro g
   · have q : ¬ (s.barriers[k]).m.parties = p.barriers[k] := by simpa using g
     exact aI ⟨_, rfl, tno fun e => q z56, rfl⟩ (fun _ => rfl)
   have q2 : (s.barriers[k]).m.parties = p.barriers[k] := by simpa using g
   refine ⟨⟨k + 1, by omega, fun i x hi hx => ?_⟩, ?_, by simp only; omega⟩
   · by_cases e : i < k
     · exact hinv i x e hx
     · obtain rfl : i = k := by omega
       rw [hat] at hx
       injection hx with hx
       subst hx
       exact ⟨q1, by rw [hpat, q2]⟩
   · exact aC [0, 1] zw1 zw0 zw1 zw5 zw3 rfl rfl
 have hge : s.barriers.length ≤ k := by simpa using g
 have vbarriers : ∀ (i : Nat) x, s.pure.barriers[i]? = some x → dO x ∧ p.pure.barriers[i]? = some x.parties := fun i x hx => hinv i x z85 hx
 refine LoopW.mk ⟨{ k : Nat // k ≤ s.chans.length ∧ ∀ (i : Nat) x, i < k → s.pure.chans[i]? = some x → x.valid = true ∧ p.pure.rooms[i]? = some x.room },
   fun k => .mk [(2, .p 0 0), (3, .p 1 0), (161, .v (s.h6.val s.chans.length)), (162, .v (.int .i64 (s.chans.length : Int))), (163, .v (.int .i64 (k.1 : Int)))] 2 0 [(0, 26, 5), (1, 35, 9)] [((0, 0), .v (p.h0.val p.sems.length)), ((0, 1), .v (p.h1.val p.groups.length)), ((0, 2), .v (p.h2.val p.barriers.length)), ((0, 3), .v (p.h3.val p.rooms.length)), ((0, 4), .v (p.h4.val p.threads.length)), ((1, 0), .v (s.h0.val s.places.length)), ((1, 1), .v (s.h1.val s.status.length)), ((1, 2), .v (s.h2.val s.sems.length)), ((1, 3), .v (s.h3.val s.onces.length)), ((1, 4), .v (s.h4.val s.groups.length)), ((1, 5), .v (s.h5.val s.barriers.length)), ((1, 6), .v (s.h6.val s.chans.length)), ((1, 7), .v (s.h7.val s.said.length)), ((1, 8), .v (.int .i64 s.fault))] [fR (aV p), fR (aK s)],
   fun k => s.chans.length - k.1, ⟨0, Nat.zero_le _, fun i x hi => by omega⟩, ?_, ?_⟩
 · exact aC [0, 1] zw2 zw0 zw2 zw5 zw4 rfl rfl
 rintro ⟨k, hk, hinv⟩
 apply CaseB.mk <;> intro g
 · have hlt : k < s.chans.length := by simpa using g
   have hw := bE k _ hlt (by omega)
   have hat : s.pure.chans[k]? = some (s.chans[k]).m := by simp [StateH.pure, hlt]
   have hsm := (cO b6).2 _ (List.getElem_mem hlt)
   unfold Chan.small20 at hsm
   refine aG cN aA rfl rfl rfl rfl rfl ⟨rfl, rfl⟩ (aL 1 rfl (.trans (.R_R (aQ s)) (.ofR bG))) k rfl z48 (fun ad => ?_)
   refine aE aA z107 z107 z107 200 [((0, 3), .v (p.h3.val p.rooms.length)), ((2, 0), .v (.int .i64 (s.chans[k]).m.room)), ((2, 1), .v ((s.chans[k]).q0.val (s.chans[k]).m.items.length)), ((2, 2), .v ((s.chans[k]).q1.val (s.chans[k]).m.senders.length)), ((2, 3), .v ((s.chans[k]).q2.val (s.chans[k]).m.getters.length)), ((2, 4), .v (.bool (s.chans[k]).m.closed))] [0] [_] z120 z137 ⟨rfl, trivial⟩ rfl ?_
   refine bL _ fG0 rfl rfl rfl rfl ⟨rfl, rfl⟩ (fun A w hW => wF _ _ _ _ w ⟨hW.get 1 rfl (.trans (.R_R (aQ s)) (.ofR (mU _ _ k hlt))), hW.get 1 rfl (.trans (.R_R (aQ s)) (.ofR (iC _ _ k hlt))), hW.get 1 rfl (.trans (.R_R (aQ s)) (.ofR (iX _ _ k hlt))), trivial⟩ ⟨by omega, by omega, by omega⟩) ?_
   rintro v L ⟨rfl, rfl⟩
   apply CaseB.mk <;> intro g
   · exact aI ⟨_, rfl, tno fun e => (by rw [(e.chans k _ hat).1] at g; cases g), rfl⟩ (fun _ => rfl)
   have q1 : (s.chans[k]).m.valid = true := by simpa using g
   have hlp : k < p.rooms.length := by omega
   have hpat : p.pure.rooms[k]? = some p.rooms[k] := by simp [ProgH.pure, hlp]
   refine bM (ti := aU tab) aD aA rfl rfl rfl rfl rfl ⟨rfl, rfl⟩ (aL 0 rfl (.ofR (gK p))) k rfl z48 (fun ad2 => ?_)
   apply CaseB.mk <;> intro g
   · have q : ¬ (s.chans[k]).m.room = p.rooms[k] := by simpa using g
     exact aI ⟨_, rfl, tno fun e => q z58, rfl⟩ (fun _ => rfl)
   have q2 : (s.chans[k]).m.room = p.rooms[k] := by simpa using g
   refine ⟨⟨k + 1, by omega, fun i x hi hx => ?_⟩, ?_, by simp only; omega⟩
   · by_cases e : i < k
     · exact hinv i x e hx
     · obtain rfl : i = k := by omega
       rw [hat] at hx
       injection hx with hx
       subst hx
       exact ⟨q1, by rw [hpat, q2]⟩
   · exact aC [0, 1] zw1 zw0 zw1 zw5 zw3 rfl rfl
 have hge : s.chans.length ≤ k := by simpa using g
 have vchans : ∀ (i : Nat) x, s.pure.chans[i]? = some x → x.valid = true ∧ p.pure.rooms[i]? = some x.room := fun i x hx => hinv i x z85 hx
 refine LoopW.mk ⟨{ k : Nat // k ≤ s.onces.length ∧ ∀ (i : Nat) x, i < k → s.pure.onces[i]? = some x → eG x },
   fun k => .mk [(2, .p 0 0), (3, .p 1 0), (183, .v (s.h3.val s.onces.length)), (184, .v (.int .i64 (s.onces.length : Int))), (185, .v (.int .i64 (k.1 : Int)))] 2 0 [(0, 26, 5), (1, 35, 9)] [((0, 0), .v (p.h0.val p.sems.length)), ((0, 1), .v (p.h1.val p.groups.length)), ((0, 2), .v (p.h2.val p.barriers.length)), ((0, 3), .v (p.h3.val p.rooms.length)), ((0, 4), .v (p.h4.val p.threads.length)), ((1, 0), .v (s.h0.val s.places.length)), ((1, 1), .v (s.h1.val s.status.length)), ((1, 2), .v (s.h2.val s.sems.length)), ((1, 3), .v (s.h3.val s.onces.length)), ((1, 4), .v (s.h4.val s.groups.length)), ((1, 5), .v (s.h5.val s.barriers.length)), ((1, 6), .v (s.h6.val s.chans.length)), ((1, 7), .v (s.h7.val s.said.length)), ((1, 8), .v (.int .i64 s.fault))] [fR (aV p), fR (aK s)],
   fun k => s.onces.length - k.1, ⟨0, Nat.zero_le _, fun i x hi => by omega⟩, ?_, ?_⟩
 · exact aC [0, 1] zw2 zw0 zw2 zw5 zw4 rfl rfl
 rintro ⟨k, hk, hinv⟩
 apply CaseB.mk <;> intro g
 · have hlt : k < s.onces.length := by simpa using g
   have hw := bE k _ hlt (by omega)
   have hat : s.pure.onces[k]? = some (s.onces[k]).m := by simp [StateH.pure, hlt]
   have hsm := (cO b3).2 _ (List.getElem_mem hlt)
   unfold Once.small20 at hsm
   refine aG cX aA rfl rfl rfl rfl rfl ⟨rfl, rfl⟩ (aL 1 rfl (.trans (.R_R (bX s)) (.ofR bG))) k rfl z48 (fun ad => ?_)
   refine aB _ iU0 rfl rfl rfl rfl ⟨rfl, rfl⟩ (fun A w hW => qC _ _ w ⟨hW.get 1 rfl (.trans (.R_R (bX s)) (.ofR (iW _ _ k hlt))), trivial⟩ (by omega)) ?_
   rintro v L ⟨bb, rfl, hbb, rfl⟩
   apply CaseB.mk <;> intro g
   · exact aI ⟨_, rfl, tno fun e => (by rw [hbb.2 (e.onces _ (List.mem_of_getElem? hat))] at g; cases g), rfl⟩ (fun _ => rfl)
   have q1 := hbb.1 z103
   refine ⟨⟨k + 1, by omega, fun i x hi hx => ?_⟩, ?_, by simp only; omega⟩
   · by_cases e : i < k
     · exact hinv i x e hx
     · obtain rfl : i = k := by omega
       rw [hat] at hx
       injection hx with hx
       subst hx
       exact q1
   · exact aC [0, 1] zw1 zw0 zw1 zw5 zw3 rfl rfl
 have hge : s.onces.length ≤ k := by simpa using g
 have vonces : ∀ (i : Nat) x, s.pure.onces[i]? = some x → eG x := fun i x hx => hinv i x z85 hx
 refine LoopW.mk ⟨{ k : Nat // k ≤ s.said.length ∧ ∀ x ∈ s.said.take k, aW x = true },
   fun k => .mk [(2, .p 0 0), (3, .p 1 0), (194, .v (s.h7.val s.said.length)), (195, .v (.int .i64 (s.said.length : Int))), (196, .v (.int .i64 (k.1 : Int)))] 2 0 [(0, 26, 5), (1, 35, 9)] [((0, 0), .v (p.h0.val p.sems.length)), ((0, 1), .v (p.h1.val p.groups.length)), ((0, 2), .v (p.h2.val p.barriers.length)), ((0, 3), .v (p.h3.val p.rooms.length)), ((0, 4), .v (p.h4.val p.threads.length)), ((1, 0), .v (s.h0.val s.places.length)), ((1, 1), .v (s.h1.val s.status.length)), ((1, 2), .v (s.h2.val s.sems.length)), ((1, 3), .v (s.h3.val s.onces.length)), ((1, 4), .v (s.h4.val s.groups.length)), ((1, 5), .v (s.h5.val s.barriers.length)), ((1, 6), .v (s.h6.val s.chans.length)), ((1, 7), .v (s.h7.val s.said.length)), ((1, 8), .v (.int .i64 s.fault))] [fR (aV p), fR (aK s)],
   fun k => s.said.length - k.1, ⟨0, Nat.zero_le _, by simp⟩, ?_, ?_⟩
 · exact aC [0, 1] zw2 zw0 zw2 zw5 zw4 rfl rfl
 rintro ⟨k, hk, hinv⟩
 apply CaseB.mk <;> intro g
 · have hlt : k < s.said.length := by simpa using g
   have hw := bE k _ hlt (by omega)
   refine aG aD aA rfl rfl rfl rfl rfl ⟨rfl, rfl⟩ (aL 1 rfl (.ofR (iD s))) k rfl z48 (fun ad => ?_)
   refine aB _ pW rfl rfl rfl rfl ⟨rfl, rfl⟩ (fun A w hW => gD _ w) ?_
   rintro v L ⟨rfl, rfl⟩
   apply CaseB.mk <;> intro g
   · exact aI ⟨_, rfl, tno fun e => (by rw [e.said _ (List.getElem_mem (l := s.said) hlt)] at g; cases g), rfl⟩ (fun _ => rfl)
   refine ⟨⟨k + 1, by omega, fun x hx => ?_⟩, ?_, by simp only; omega⟩
   · rw [List.take_succ_eq_append_getElem hlt] at hx
     rcases List.mem_append.1 hx with hx | hx
     · exact hinv x hx
     · simp at hx; subst hx; simpa using g
   · exact aC [0, 1] zw1 zw0 zw1 zw5 zw3 rfl rfl
 have hge : s.said.length ≤ k := by simpa using g
 have vsaid : ∀ x ∈ s.said, aW x = true := by rw [List.take_of_length_le hge] at hinv; exact hinv
 have hN : (bH s.pure).length ≤ 1048576 := by
   have ge : ∀ {α : Type} {xs : List α} {Q : α → Prop}, (∀ (i : Nat) x, xs[i]? = some x → Q x) → ∀ x ∈ xs, Q x := fun h x hx => by
     obtain ⟨i, hi⟩ := List.getElem?_of_mem hx
     exact h i x hi
   have e1 := oX (f := dH) (C := 6) (i := 0) (xs := s.pure.sems) fun i x hx => by
     have := (ge (Q := SemOk) (fun i x h => (vsems i x h).1) x hx).q6; simpa [dH] using this
   have e2 := oX (f := cR) (C := 6) (i := 0) (xs := s.pure.onces) fun i x hx => by
     have := eV (ge vonces x hx); simpa [cR] using this
   have e3 := oX (f := cS) (C := 6) (i := 0) (xs := s.pure.groups) fun i x hx => by
     have := fM (ge vgroups x hx); simpa [cS] using this
   have e4 := oX (f := cF) (C := 6) (i := 0) (xs := s.pure.barriers) fun i x hx => by
     have := fY (ge (Q := dO) (fun i x h => (vbarriers i x h).1) x hx); simpa [cF] using this
   have e5 := oX (f := dB) (C := 6) (i := 0) (xs := s.pure.chans) fun i x hx => by
     have := mV (ge (Q := fun x => x.valid = true) (fun i x h => (vchans i x h).1) x hx); simpa [dB] using this
   simp only [bH, List.length_append]
   omega
 refine aB _ cl125 rfl rfl rfl rfl ⟨rfl, rfl⟩ (fun A w hW => aW0 s w ⟨hW.get 1 rfl (.refl _), trivial⟩ hN ⟨by omega, by omega, by omega, by omega, by omega⟩) ?_
 rintro v L ⟨r, r2, ps, os, rfl, hps, hos, rfl⟩
 have kps : lH ps := cM0.1 (by rw [hps]; exact vR _)
 have kos : lH os := cM0.1 (by rw [hos]; exact vR _)
 refine LoopW.mk ⟨{ q : Nat × List (Int × LH Waiting) × List (Int × LH Int) // q.1 ≤ p.threads.length ∧ Left ps q.2.1 q.1 ∧ Left os q.2.2 q.1 ∧ ∀ (t : Nat) ops at_ st, t < q.1 → p.pure.threads[t]? = some ops → s.pure.places[t]? = some at_ → s.pure.status[t]? = some st → lI ops at_ st (aN (bH s.pure) t) (aN (cD s.pure) t) },
   fun q => .mk [(2, .p 0 0), (3, .p 1 0), (18, .v (.map (some r))), (19, .v (.map (some r2))), (210, .v (p.h4.val p.threads.length)), (211, .v (.int .i64 (p.threads.length : Int))), (212, .v (.int .i64 (q.1.1 : Int)))] 2 0 [(0, 26, 5), (1, 35, 9)] [((0, 0), .v (p.h0.val p.sems.length)), ((0, 1), .v (p.h1.val p.groups.length)), ((0, 2), .v (p.h2.val p.barriers.length)), ((0, 3), .v (p.h3.val p.rooms.length)), ((0, 4), .v (p.h4.val p.threads.length)), ((1, 0), .v (s.h0.val s.places.length)), ((1, 1), .v (s.h1.val s.status.length)), ((1, 2), .v (s.h2.val s.sems.length)), ((1, 3), .v (s.h3.val s.onces.length)), ((1, 4), .v (s.h4.val s.groups.length)), ((1, 5), .v (s.h5.val s.barriers.length)), ((1, 6), .v (s.h6.val s.chans.length)), ((1, 7), .v (s.h7.val s.said.length)), ((1, 8), .v (.int .i64 s.fault))] [fMW r q.1.2.1, jV r2 rK q.1.2.2, fO (rW ps), fO (rI os), fR (aV p), fR (aK s)],
   fun q => p.threads.length - q.1.1, ⟨(0, ps, os), Nat.zero_le _, Left.start kps, Left.start kos, fun t _ _ _ ht => by simp only at ht; omega⟩, ?_, ?_⟩
 · exact aC [0, 2, 1, 3, 4, 5] zw2 zw0 zw2 zw5 zw4 rfl rfl
 rintro ⟨⟨k, qs, ts⟩, hk, lq, lo, hinv⟩
 simp only at hk lq lo hinv
 apply CaseB.mk <;> intro g
 rotate_left
 · have hge : k = p.threads.length := by have g' : ¬ (k : Int) < p.threads.length := by simpa using g
                                         omega
   subst hge
   have dq := lq.done hps
   have dn := lo.done hos
   have fin : (∀ e ∈ bH s.pure, 0 ≤ e.1 ∧ e.1 < p.threads.length) → (∀ e ∈ cD s.pure, 0 ≤ e.1 ∧ e.1 < p.threads.length) → Fits p.pure s.pure := fun h1 h2 =>
     ⟨ok, by rw [lt]; exact c0, by rw [lt]; exact c1, by rw [l2]; exact c2, by rw [l4]; exact c4, by rw [l5]; exact c5, by rw [l6]; exact c6, by rw [l3]; exact c3, c7, c8, c9, vsems, fun x hx => by obtain ⟨i, hi⟩ := List.getElem?_of_mem hx; exact vgroups i x hi, vbarriers, vchans, fun x hx => by obtain ⟨i, hi⟩ := List.getElem?_of_mem hx; exact vonces i x hi, vsaid,
       fun t ops a st ht => hinv t ops a st (by have := (List.getElem?_eq_some_iff.1 ht).1; rw [lt] at this; exact this) ht, by rw [lt]; exact h1, by rw [lt]; exact h2⟩
   refine zB 0 (kt := 3) (et := 177) rfl rfl rfl rfl rfl rfl ⟨rfl, rfl⟩ z107 ?_
   apply CaseB.mk <;> intro g
   · have q0 : qs = [] := by simpa using g
     refine zB 1 (kt := 3) (et := 23) rfl rfl rfl rfl rfl rfl ⟨rfl, rfl⟩ z107 ?_
     refine aI ⟨_, rfl, ?_, rfl⟩ (fun _ => rfl)
     constructor
     · intro g2
       exact fin (dq.1 q0) (dn.1 z98)
     · intro e
       have := dn.2 (by rw [← lt]; exact e.ow)
       simp [this]
   · have q0 : ¬ qs = [] := by simpa using g
     exact aI ⟨_, rfl, tno fun e => q0 (dq.2 (by rw [← lt]; exact e.ev)), rfl⟩ (fun _ => rfl)
 have hlt : k < p.threads.length := by simpa using g
 have hw := bE k _ hlt (by omega)
 have hops : p.pure.threads[k]? = some (p.threads[k]).m := by simp [ProgH.pure, hlt]
 have hlp : k < s.places.length := by omega
 have hls : k < s.status.length := by omega
 have hpl : s.pure.places[k]? = some s.places[k] := List.getElem?_eq_getElem hlp
 have hst : s.pure.status[k]? = some s.status[k] := List.getElem?_eq_getElem hls
 have hth : Fits p.pure s.pure → lI (p.threads[k]).m s.places[k] s.status[k] (aN (bH s.pure) k) (aN (cD s.pure) k) := fun e => e.threads k _ _ _ hops hpl hst
 obtain ⟨u, hu⟩ : ∃ u, u = (cH qs (k : Int)).getD LH.nil := ⟨_, rfl⟩
 obtain ⟨o, ho⟩ : ∃ o, o = (cH ts (k : Int)).getD LH.nil := ⟨_, rfl⟩
 have hux : u.xs = aN (bH s.pure) k := by rw [hu]; exact lq.at hps
 have hox : o.xs = aN (cD s.pure) k := by rw [ho]; exact lo.at hos
 have hnext : lI (p.threads[k]).m s.places[k] s.status[k] u.xs o.xs → ∀ (t : Nat) ops at_ st, t < k + 1 → p.pure.threads[t]? = some ops → s.pure.places[t]? = some at_ → s.pure.status[t]? = some st → lI ops at_ st (aN (bH s.pure) t) (aN (cD s.pure) t) := fun hok t ops a st ht h1 h2 h3 => by
   by_cases e : t < k
   · exact hinv t ops a st e h1 h2 h3
   · obtain rfl : t = k := by omega
     rw [hops] at h1; rw [hpl] at h2; rw [hst] at h3
     injection h1 with h1; injection h2 with h2; injection h3 with h3
     subst h1; subst h2; subst h3
     rw [← hux, ← hox]; exact hok
 rw [← hux, ← hox] at hth
 refine aG dR aA rfl rfl rfl rfl rfl ⟨rfl, rfl⟩ (aL 4 rfl (.trans (.R_R (aY p)) (.ofR bG))) k rfl z48 (fun ad => ?_)
 refine aG aD aA rfl rfl rfl rfl rfl ⟨rfl, rfl⟩ (aL 5 rfl (.ofR (fX s))) k rfl z48 (fun ad2 => ?_)
 apply CaseB.mk <;> intro g
 · have q : ¬ 0 ≤ s.places[k] := by have g' := of_decide_eq_true g; omega
   exact aI ⟨_, rfl, tno fun e => q (hth e).1, rfl⟩ (fun _ => rfl)
 have a0 : 0 ≤ s.places[k] := by have g' := of_decide_eq_false g; omega
 apply CaseB.mk <;> intro g
 · have q : ¬ s.places[k] ≤ (p.threads[k]).m.length := by have g' := of_decide_eq_true g; omega
   exact aI ⟨_, rfl, tno fun e => q (hth e).2.1, rfl⟩ (fun _ => rfl)
 have a1 : s.places[k] ≤ (p.threads[k]).m.length := by have g' := of_decide_eq_false g; omega
 refine aE aA z107 z107 z107 200 [] [2, 3, 5] [_, _, _] trivial trivial ⟨rfl, rfl, rfl, trivial⟩ rfl ?_
 refine BothW.mk ?_ ?_
 refine lG 0 (qk := .i64) (kt := 3) (et := 177) (z := .slice none 0 0) rfl rfl rfl rfl ⟨rfl, rfl⟩ z107 z107 z107 (u.q.val u.xs.length) (by rw [hu]; cases cH qs (k : Int) <;> rfl) ?_
 refine lG 1 (qk := .i64) (kt := 3) (et := 23) (z := .slice none 0 0) rfl rfl rfl rfl ⟨rfl, rfl⟩ z107 z107 z107 (o.q.val o.xs.length) (by rw [ho]; cases cH ts (k : Int) <;> rfl) ?_
 rotate_left
 refine lG 1 (qk := .i64) (kt := 3) (et := 23) (z := .slice none 0 0) rfl rfl rfl rfl ⟨rfl, rfl⟩ z107 z107 z107 (o.q.val o.xs.length) (by rw [ho]; cases cH ts (k : Int) <;> rfl) ?_
 refine lG 0 (qk := .i64) (kt := 3) (et := 177) (z := .slice none 0 0) rfl rfl rfl rfl ⟨rfl, rfl⟩ z107 z107 z107 (u.q.val u.xs.length) (by rw [hu]; cases cH qs (k : Int) <;> rfl) ?_
 all_goals
   refine vP 0 (qk := .i64) (kt := 3) (et := 177) rfl rfl rfl rfl rfl rfl rfl rfl z107 z107 _ rfl ?_
   refine vP 1 (qk := .i64) (kt := 3) (et := 23) rfl rfl rfl rfl rfl rfl rfl rfl z107 z107 _ rfl ?_
   have lq' := lq.next
   have lo' := lo.next
   apply CaseB.mk <;> intro g
   · have ae : s.places[k] = (p.threads[k]).m.length := by simpa using g
     have hne : ∀ {op : Op}, (p.threads[k]).m[(s.places[k]).toNat]? = some op → False := fun h => by
       have := (List.getElem?_eq_some_iff.1 h).1; omega
     have hfin : Fits p.pure s.pure → s.status[k] = 3 ∧ u.xs = [] ∧ o.xs = [] := fun e => by
       rcases (hth e).2.2 with h | ⟨op, h, _⟩
       · exact h.2
       · exact (hne h).elim
     refine aG aD aA rfl rfl rfl rfl rfl ⟨rfl, rfl⟩ (aL 5 rfl (.ofR (cZ s))) k rfl z48 (fun ad3 => ?_)
     apply CaseB.mk <;> intro g
     · have q : ¬ s.status[k] = 3 := by simpa using g
       exact aI ⟨_, rfl, tno fun e => q (hfin e).1, rfl⟩ (fun _ => rfl)
     have s3 : s.status[k] = 3 := by simpa using g
     apply CaseB.mk <;> intro g
     · have q : ¬ u.xs = [] := eI.1 g
       exact aI ⟨_, rfl, tno fun e => q (hfin e).2.1, rfl⟩ (fun _ => rfl)
     have ux : u.xs = [] := Classical.byContradiction fun n => by rw [eI.2 n] at g; cases g
     apply CaseB.mk <;> intro g
     · have q : ¬ o.xs = [] := eI.1 g
       exact aI ⟨_, rfl, tno fun e => q (hfin e).2.2, rfl⟩ (fun _ => rfl)
     have ox : o.xs = [] := Classical.byContradiction fun n => by rw [eI.2 n] at g; cases g
     refine ⟨⟨(k + 1, fL qs (k : Int), fL ts (k : Int)), by omega, lq', lo', hnext ⟨a0, a1, .inl ⟨ae, s3, ux, ox⟩⟩⟩, ?_, by simp only; omega⟩
     exact aC [1, 0, 2, 3, 4, 5] zw1 zw0 zw1 zw5 zw3 rfl rfl
   have ane : ¬ s.places[k] = (p.threads[k]).m.length := by simpa using g
   have hlo : (s.places[k]).toNat < (p.threads[k]).m.length := by omega
   obtain ⟨op, hop⟩ : ∃ op, (p.threads[k]).m[(s.places[k]).toNat]? = some op := ⟨_, List.getElem?_eq_getElem hlo⟩
   have hopg : (p.threads[k]).m[(s.places[k]).toNat] = op := by rw [List.getElem?_eq_getElem hlo] at hop; injection hop
   have hfin : Fits p.pure s.pure → (s.status[k] = 0 ∧ u.xs = [] ∧ o.xs = []) ∨ (s.status[k] = 1 ∧ o.xs = [] ∧ u.xs = [jW op]) ∨ (s.status[k] = 2 ∧ u.xs = [] ∧ op.kind = 4 ∧ o.xs = [op.on]) := fun e => by
     rcases (hth e).2.2 with h | ⟨op', h, h2⟩
     · exact (ane h.1).elim
     · rw [hop] at h; injection h with h; subst h; exact h2
   have hgood : (s.status[k] = 0 ∧ u.xs = [] ∧ o.xs = []) ∨ (s.status[k] = 1 ∧ o.xs = [] ∧ u.xs = [jW op]) ∨ (s.status[k] = 2 ∧ u.xs = [] ∧ op.kind = 4 ∧ o.xs = [op.on]) → lI (p.threads[k]).m s.places[k] s.status[k] u.xs o.xs := fun h => ⟨a0, a1, .inr ⟨op, hop, h⟩⟩
   refine aG oH aA rfl rfl rfl rfl rfl ⟨rfl, rfl⟩ (aL 4 rfl (.trans (.R_R (aY p)) (.ofR (fW _ _ k hlt)))) (s.places[k]).toNat (by omega) z48 (fun ad3 => ?_)
   rw [hopg]
   refine aG aD aA rfl rfl rfl rfl rfl ⟨rfl, rfl⟩ (aL 5 rfl (.ofR (cZ s))) k rfl z48 (fun ad4 => ?_)
   refine CaseB.mk (fun g => ?_) (fun g0 => ?_)
   · have s0 : s.status[k] = 0 := by simpa using g
     have hf0 : Fits p.pure s.pure → u.xs = [] ∧ o.xs = [] := fun e => by
       rcases hfin e with h | h | h
       · exact h.2
       · rw [s0] at h; exact absurd h.1 (by decide)
       · rw [s0] at h; exact absurd h.1 (by decide)
     apply CaseB.mk <;> intro g
     · have q : ¬ u.xs = [] := eI.1 g
       exact aI ⟨_, rfl, tno fun e => q (hf0 e).1, rfl⟩ (fun _ => rfl)
     have ux : u.xs = [] := Classical.byContradiction fun n => by rw [eI.2 n] at g; cases g
     apply CaseB.mk <;> intro g
     · have q : ¬ o.xs = [] := eI.1 g
       exact aI ⟨_, rfl, tno fun e => q (hf0 e).2, rfl⟩ (fun _ => rfl)
     have ox : o.xs = [] := Classical.byContradiction fun n => by rw [eI.2 n] at g; cases g
     refine ⟨⟨(k + 1, fL qs (k : Int), fL ts (k : Int)), by omega, lq', lo', hnext (hgood (.inl ⟨s0, ux, ox⟩))⟩, ?_, by simp only; omega⟩
     exact aC [1, 0, 2, 3, 4, 5] zw1 zw0 zw1 zw5 zw3 rfl rfl
   have n0 : ¬ s.status[k] = 0 := by simpa using g0
   refine CaseB.mk (fun g => ?_) (fun g1 => ?_)
   · have s1 : s.status[k] = 1 := by simpa using g
     have hf1 : Fits p.pure s.pure → o.xs = [] ∧ u.xs = [jW op] := fun e => by
       rcases hfin e with h | h | h
       · rw [s1] at h; exact absurd h.1 (by decide)
       · exact h.2
       · rw [s1] at h; exact absurd h.1 (by decide)
     apply CaseB.mk <;> intro g
     · have hk2 : op.kind = 2 ∨ op.kind = 8 := .inl z103
       have hwant : jW op = ⟨op.kind, op.on, op.arg⟩ := by simp only [jW, if_pos hk2]
       refine aE aA z107 z107 z107 200 [((3, 0), .v (.int .i64 op.kind)), ((3, 1), .v (.int .i64 op.on)), ((3, 2), .v (.int .i64 op.arg))] [2] [_] z136 z148 ⟨rfl, trivial⟩ rfl ?_
       apply CaseB.mk <;> intro g
       · have q : ¬ o.xs = [] := eI.1 g
         exact aI ⟨_, rfl, tno fun e => q (hf1 e).1, rfl⟩ (fun _ => rfl)
       have ox : o.xs = [] := Classical.byContradiction fun n => by rw [eI.2 n] at g; cases g
       apply CaseB.mk <;> intro g
       · have q : ¬ u.xs.length = 1 := by simp at g; omega
         exact aI ⟨_, rfl, tno fun e => q (by rw [(hf1 e).2]; rfl), rfl⟩ (fun _ => rfl)
       have ul : u.xs.length = 1 := by simp at g; omega
       obtain ⟨u0, huu⟩ : ∃ u0, u.xs = [u0] := by
         match hx : u.xs, ul with
         | [x], _ => exact ⟨x, rfl⟩
       have hin : ((k : Int), u) ∈ ps := by
         refine lq.sub.subset (wG ?_)
         cases hq : cH qs (k : Int) with
         | none => rw [hq] at hu; rw [hu] at ul; simp [LH.nil] at ul
         | some z => rw [hq] at hu; rw [hu]; rfl
       refine bM (ti := aU tab) tH aA rfl rfl rfl rfl rfl ⟨rfl, rfl⟩ (aL 0 rfl (.ofO (wH hin))) 0 rfl z48 (fun ad5 => ?_)
       have hg0 : ∀ h0, u.xs[0]'h0 = u0 := fun h0 => by simp [huu]
       rw [hg0]
       refine mM rfl rfl rfl ⟨rfl, rfl⟩ (.bool (decide (u0 ≠ (⟨op.kind, op.on, op.arg⟩ : Waiting)))) (fun w => (run_eqGuard_agg w _ _ _ _ _ _ z107)) (fun w => (eF0 u0 ⟨op.kind, op.on, op.arg⟩ w)) ?_
       apply CaseB.mk <;> intro g
       · have q : ¬ u0 = (⟨op.kind, op.on, op.arg⟩ : Waiting) := by simpa using g
         exact aI ⟨_, rfl, tno fun e => q z78, rfl⟩ (fun _ => rfl)
       have ue : u0 = (⟨op.kind, op.on, op.arg⟩ : Waiting) := by simpa using g
       refine ⟨⟨(k + 1, fL qs (k : Int), fL ts (k : Int)), by omega, lq', lo', hnext (hgood (.inr (.inl ⟨s1, ox, by rw [huu, ue, hwant]⟩)))⟩, ?_, by simp only; omega⟩
       exact aC [1, 0, 2, 3, 4, 5] zw1 zw0 zw1 zw5 zw3 rfl rfl
     · have hn2 : ¬ op.kind = 2 := by simpa using g
       apply CaseB.mk <;> intro g
       · have hk2 : op.kind = 2 ∨ op.kind = 8 := .inr z103
         have hwant : jW op = ⟨op.kind, op.on, op.arg⟩ := by simp only [jW, if_pos hk2]
         refine aE aA z107 z107 z107 200 [((3, 0), .v (.int .i64 op.kind)), ((3, 1), .v (.int .i64 op.on)), ((3, 2), .v (.int .i64 op.arg))] [2] [_] z136 z148 ⟨rfl, trivial⟩ rfl ?_
         apply CaseB.mk <;> intro g
         · have q : ¬ o.xs = [] := eI.1 g
           exact aI ⟨_, rfl, tno fun e => q (hf1 e).1, rfl⟩ (fun _ => rfl)
         have ox : o.xs = [] := Classical.byContradiction fun n => by rw [eI.2 n] at g; cases g
         apply CaseB.mk <;> intro g
         · have q : ¬ u.xs.length = 1 := by simp at g; omega
           exact aI ⟨_, rfl, tno fun e => q (by rw [(hf1 e).2]; rfl), rfl⟩ (fun _ => rfl)
         have ul : u.xs.length = 1 := by simp at g; omega
         obtain ⟨u0, huu⟩ : ∃ u0, u.xs = [u0] := by
           match hx : u.xs, ul with
           | [x], _ => exact ⟨x, rfl⟩
         have hin : ((k : Int), u) ∈ ps := by
           refine lq.sub.subset (wG ?_)
           cases hq : cH qs (k : Int) with
           | none => rw [hq] at hu; rw [hu] at ul; simp [LH.nil] at ul
           | some z => rw [hq] at hu; rw [hu]; rfl
         refine bM (ti := aU tab) tH aA rfl rfl rfl rfl rfl ⟨rfl, rfl⟩ (aL 0 rfl (.ofO (wH hin))) 0 rfl z48 (fun ad5 => ?_)
         have hg0 : ∀ h0, u.xs[0]'h0 = u0 := fun h0 => by simp [huu]
         rw [hg0]
         refine mM rfl rfl rfl ⟨rfl, rfl⟩ (.bool (decide (u0 ≠ (⟨op.kind, op.on, op.arg⟩ : Waiting)))) (fun w => (run_eqGuard_agg w _ _ _ _ _ _ z107)) (fun w => (eF0 u0 ⟨op.kind, op.on, op.arg⟩ w)) ?_
         apply CaseB.mk <;> intro g
         · have q : ¬ u0 = (⟨op.kind, op.on, op.arg⟩ : Waiting) := by simpa using g
           exact aI ⟨_, rfl, tno fun e => q z78, rfl⟩ (fun _ => rfl)
         have ue : u0 = (⟨op.kind, op.on, op.arg⟩ : Waiting) := by simpa using g
         refine ⟨⟨(k + 1, fL qs (k : Int), fL ts (k : Int)), by omega, lq', lo', hnext (hgood (.inr (.inl ⟨s1, ox, by rw [huu, ue, hwant]⟩)))⟩, ?_, by simp only; omega⟩
         exact aC [1, 0, 2, 3, 4, 5] zw1 zw0 zw1 zw5 zw3 rfl rfl
       · have hn8 : ¬ op.kind = 8 := by simpa using g
         have hwant : jW op = ⟨op.kind, op.on, 0⟩ := by simp only [jW, if_neg (show ¬ (op.kind = 2 ∨ op.kind = 8) from fun h => h.elim hn2 hn8)]
         refine aE aA z107 z107 z107 200 [((3, 0), .v (.int .i64 op.kind)), ((3, 1), .v (.int .i64 op.on)), ((3, 2), .v (.int .i64 0))] [2] [_] z136 z148 ⟨rfl, trivial⟩ rfl ?_
         apply CaseB.mk <;> intro g
         · have q : ¬ o.xs = [] := eI.1 g
           exact aI ⟨_, rfl, tno fun e => q (hf1 e).1, rfl⟩ (fun _ => rfl)
         have ox : o.xs = [] := Classical.byContradiction fun n => by rw [eI.2 n] at g; cases g
         apply CaseB.mk <;> intro g
         · have q : ¬ u.xs.length = 1 := by simp at g; omega
           exact aI ⟨_, rfl, tno fun e => q (by rw [(hf1 e).2]; rfl), rfl⟩ (fun _ => rfl)
         have ul : u.xs.length = 1 := by simp at g; omega
         obtain ⟨u0, huu⟩ : ∃ u0, u.xs = [u0] := by
           match hx : u.xs, ul with
           | [x], _ => exact ⟨x, rfl⟩
         have hin : ((k : Int), u) ∈ ps := by
           refine lq.sub.subset (wG ?_)
           cases hq : cH qs (k : Int) with
           | none => rw [hq] at hu; rw [hu] at ul; simp [LH.nil] at ul
           | some z => rw [hq] at hu; rw [hu]; rfl
         refine bM (ti := aU tab) tH aA rfl rfl rfl rfl rfl ⟨rfl, rfl⟩ (aL 0 rfl (.ofO (wH hin))) 0 rfl z48 (fun ad5 => ?_)
         have hg0 : ∀ h0, u.xs[0]'h0 = u0 := fun h0 => by simp [huu]
         rw [hg0]
         refine mM rfl rfl rfl ⟨rfl, rfl⟩ (.bool (decide (u0 ≠ (⟨op.kind, op.on, 0⟩ : Waiting)))) (fun w => (run_eqGuard_agg w _ _ _ _ _ _ z107)) (fun w => (eF0 u0 ⟨op.kind, op.on, 0⟩ w)) ?_
         apply CaseB.mk <;> intro g
         · have q : ¬ u0 = (⟨op.kind, op.on, 0⟩ : Waiting) := by simpa using g
           exact aI ⟨_, rfl, tno fun e => q z78, rfl⟩ (fun _ => rfl)
         have ue : u0 = (⟨op.kind, op.on, 0⟩ : Waiting) := by simpa using g
         refine ⟨⟨(k + 1, fL qs (k : Int), fL ts (k : Int)), by omega, lq', lo', hnext (hgood (.inr (.inl ⟨s1, ox, by rw [huu, ue, hwant]⟩)))⟩, ?_, by simp only; omega⟩
         exact aC [1, 0, 2, 3, 4, 5] zw1 zw0 zw1 zw5 zw3 rfl rfl
   have n1 : ¬ s.status[k] = 1 := by simpa using g1
   refine CaseB.mk (fun g => ?_) (fun g2 => ?_)
   · have s2 : s.status[k] = 2 := by simpa using g
     have hf2 : Fits p.pure s.pure → u.xs = [] ∧ op.kind = 4 ∧ o.xs = [op.on] := fun e => by
       rcases hfin e with h | h | h
       · rw [s2] at h; exact absurd h.1 (by decide)
       · rw [s2] at h; exact absurd h.1 (by decide)
       · exact h.2
     refine aE aA z107 z107 z107 200 [((2, 0), .v (.int .i64 op.kind)), ((2, 1), .v (.int .i64 op.on))] [3] [_] z142 z152 ⟨rfl, trivial⟩ rfl ?_
     apply CaseB.mk <;> intro g
     · have q : ¬ u.xs = [] := eI.1 g
       exact aI ⟨_, rfl, tno fun e => q (hf2 e).1, rfl⟩ (fun _ => rfl)
     have ux : u.xs = [] := Classical.byContradiction fun n => by rw [eI.2 n] at g; cases g
     apply CaseB.mk <;> intro g
     · have q : ¬ op.kind = 4 := by simpa using g
       exact aI ⟨_, rfl, tno fun e => q (hf2 e).2.1, rfl⟩ (fun _ => rfl)
     have k4 : op.kind = 4 := by simpa using g
     apply CaseB.mk <;> intro g
     · have q : ¬ o.xs.length = 1 := by simp at g; omega
       exact aI ⟨_, rfl, tno fun e => q (by rw [(hf2 e).2.2]; rfl), rfl⟩ (fun _ => rfl)
     have ol : o.xs.length = 1 := by simp at g; omega
     obtain ⟨o0, hoo⟩ : ∃ o0, o.xs = [o0] := by
       match hx : o.xs, ol with
       | [x], _ => exact ⟨x, rfl⟩
     have hin : ((k : Int), o) ∈ os := by
       refine lo.sub.subset (wG ?_)
       cases hq : cH ts (k : Int) with
       | none => rw [hq] at ho; rw [ho] at ol; simp [LH.nil] at ol
       | some z => rw [hq] at ho; rw [ho]; rfl
     refine bM (ti := aU tab) aD aA rfl rfl rfl rfl rfl ⟨rfl, rfl⟩ (aL 0 rfl (.ofO (wH hin))) 0 rfl z48 (fun ad5 => ?_)
     have hg0 : ∀ h0, o.xs[0]'h0 = o0 := fun h0 => by simp [hoo]
     rw [hg0]
     apply CaseB.mk <;> intro g
     · have q : ¬ o0 = op.on := by simpa using g
       exact aI ⟨_, rfl, tno fun e => q (by have := (hf2 e).2.2; rw [hoo] at this; injection this), rfl⟩ (fun _ => rfl)
     have oe : o0 = op.on := by simpa using g
     refine ⟨⟨(k + 1, fL qs (k : Int), fL ts (k : Int)), by omega, lq', lo', hnext (hgood (.inr (.inr ⟨s2, ux, k4, by rw [hoo, oe]⟩)))⟩, ?_, by simp only; omega⟩
     exact aC [1, 0, 2, 3, 4, 5] zw1 zw0 zw1 zw5 zw3 rfl rfl
   have n2 : ¬ s.status[k] = 2 := by simpa using g2
   exact aI ⟨_, rfl, tno fun e => (by rcases hfin e with h | h | h; exact n0 h.1; exact n1 h.1; exact n2 h.1), rfl⟩ (fun _ => rfl)
def gB (i : Nat) (x : Int) : List Int := if x = 0 ∨ x = 2 then [(i : Int)] else []
def cQ (s : State) : List Int := if s.fault = 0 then evL gB 0 s.status else []
theorem mW (xs : List Int) : (evL gB 0 xs).length ≤ xs.length := by
 have := oX (f := gB) (C := 1) (i := 0) (xs := xs) fun i x _ => by unfold gB; split <;> simp
 omega
theorem gC0 (s : StateH) (w : World) (h : At w [fR (aK s)]) (hb : s.status.length ≤ 1048576) :
   Calls Tryz.prog 58 #[aM s] w (Ret w fun v L => ∃ y : Sl, v = y.val (cQ s.pure).length ∧ L = [own y 3 aJ 1 (cQ s.pure)]) := by
 refine bV Tryz.func58 rfl aA w _ rfl _ rfl _ h ⟨rfl, rfl, trivial⟩ _ (by decide) ?_
 apply CaseB.mk <;> intro g
 · have n : ¬ s.fault = 0 := by simpa using g
   have e : cQ s.pure = [] := if_neg n
   rw [e]
   exact bC [90] ⟨⟨none, 0⟩, rfl, rfl⟩ z138 rfl ⟨rfl, trivial⟩ (fun _ => rfl)
 have f0 : s.fault = 0 := by simpa using g
 have e : cQ s.pure = evL gB 0 s.status := if_pos f0
 rw [e]
 refine LoopW.mk ⟨{ q : Nat × Sl × List Int // q.1 ≤ s.status.length ∧ q.2.2 = evL gB 0 (s.status.take q.1) },
   fun q => .mk [(1, .p 0 0), (3, .v (q.1.2.1.val q.1.2.2.length)), (10, .v (s.h1.val s.status.length)), (11, .v (.int .i64 (s.status.length : Int))), (12, .v (.int .i64 (q.1.1 : Int)))] 1 0 [(0, 35, 9)] [((0, 0), .v (s.h0.val s.places.length))] [own q.1.2.1 3 aJ 1 q.1.2.2, fR (aK s)],
   fun q => s.status.length - q.1.1, ⟨(0, ⟨none, 0⟩, []), Nat.zero_le _, rfl⟩, ?_, ?_⟩
 · exact aC [90, 0] zw2 zw0 zw2 zw5 zw4 rfl rfl
 rintro ⟨⟨k, y, xs⟩, hk, hx⟩
 simp only at hk hx
 apply CaseB.mk <;> intro g
 · have hlt : k < s.status.length := by simpa using g
   have hw := bE k _ hlt (by omega)
   have hsucc := eU gB s.status hlt
   have hl : xs.length ≤ 1048576 := by have := mW (s.status.take k); rw [← hx] at this; simp at this; omega
   refine aG aD aA rfl rfl rfl rfl rfl ⟨rfl, rfl⟩ (aL 1 rfl (.ofR (cZ s))) k rfl z48 (fun ad => ?_)
   refine CaseB.mk (fun g => ?_) (fun g0 => ?_)
   · have c : s.status[k] = 0 ∨ s.status[k] = 2 := .inl z103
     refine AllSl.mk fun b => ?_
     refine bR aD 1 aA (ys := [(k : Int)]) rfl rfl rfl rfl rfl rfl rfl rfl rfl (by decide) ⟨rfl, rfl⟩ rfl z40 z48 z48 (fun z => ?_)
     refine ⟨⟨(k + 1, z, xs ++ [(k : Int)]), by omega, by simp only [hsucc, gB, if_pos c, hx]⟩, ?_, by simp only; omega⟩
     exact aC [0, 2] zw1 zw0 zw1 zw5 zw3 rfl rfl
   have n0 : ¬ s.status[k] = 0 := by simpa using g0
   apply CaseB.mk <;> intro g
   · have c : s.status[k] = 0 ∨ s.status[k] = 2 := .inr z103
     refine AllSl.mk fun b => ?_
     refine bR aD 1 aA (ys := [(k : Int)]) rfl rfl rfl rfl rfl rfl rfl rfl rfl (by decide) ⟨rfl, rfl⟩ rfl z40 z48 z48 (fun z => ?_)
     refine ⟨⟨(k + 1, z, xs ++ [(k : Int)]), by omega, by simp only [hsucc, gB, if_pos c, hx]⟩, ?_, by simp only; omega⟩
     exact aC [0, 2] zw1 zw0 zw1 zw5 zw3 rfl rfl
   have n2 : ¬ s.status[k] = 2 := by simpa using g
   refine ⟨⟨(k + 1, y, xs), by omega, by simp only [hsucc, gB, if_neg (show ¬ (s.status[k] = 0 ∨ s.status[k] = 2) from fun h => h.elim n0 n2), hx, List.append_nil]⟩, ?_, by simp only; omega⟩
   exact aC [0, 1] zw1 zw0 zw1 zw5 zw3 rfl rfl
 have hge : s.status.length ≤ k := by simpa using g
 rw [List.take_of_length_le hge] at hx
 subst hx
 exact bC [0] ⟨y, rfl, rfl⟩ z151 rfl ⟨rfl, trivial⟩ (fun _ => rfl)
end Go.Proofs.YtijmjecehppbfaaGreat
