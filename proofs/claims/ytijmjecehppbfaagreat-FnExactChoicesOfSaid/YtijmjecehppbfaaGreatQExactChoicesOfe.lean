/- FnExactChoicesOf: texts that its proof stands on, part 5. -/
import Derived.Test.YtijmjecehppbfaaGreatQExactChoicesOfd
namespace Go.Proofs.YtijmjecehppbfaaGreat
open Go Go.Sx Go.RowKit
def Prog.small20 (s : Prog) : Prop := s.sems.length ≤ 1048576 ∧ s.groups.length ≤ 1048576 ∧ s.barriers.length ≤ 1048576 ∧ s.rooms.length ≤ 1048576 ∧ allS OpS.small20 s.threads
def szProgM (s : Prog) (left : Int) : Int := szSeq [szN s.sems.length, szN s.groups.length, szN s.barriers.length, szN s.rooms.length, szAll szOpSM s.threads] left
theorem szProgM_gen (s : Prog) (l : Int) (hl : l ≤ 1048576) (h : ¬ szProgM s l < 0) : s.small20 ∧ szProgM s l ≤ l := by
 simp only [szProgM, szSeq, szList] at h ⊢
 by_cases q0 : szN s.sems.length l < 0
 · simp [q0] at h
 obtain ⟨p0, r0⟩ := szN_gen hl q0
 have t0 : szN s.sems.length l ≤ 1048576 := Int.le_trans r0 hl
 by_cases q1 : szN s.groups.length (szN s.sems.length l) < 0
 · simp [q0, q1] at h
 obtain ⟨p1, r1⟩ := szN_gen t0 q1
 have t1 : szN s.groups.length (szN s.sems.length l) ≤ 1048576 := Int.le_trans r1 t0
 by_cases q2 : szN s.barriers.length (szN s.groups.length (szN s.sems.length l)) < 0
 · simp [q0, q1, q2] at h
 obtain ⟨p2, r2⟩ := szN_gen t1 q2
 have t2 : szN s.barriers.length (szN s.groups.length (szN s.sems.length l)) ≤ 1048576 := Int.le_trans r2 t1
 by_cases q3 : szN s.rooms.length (szN s.barriers.length (szN s.groups.length (szN s.sems.length l))) < 0
 · simp [q0, q1, q2, q3] at h
 obtain ⟨p3, r3⟩ := szN_gen t2 q3
 have t3 : szN s.rooms.length (szN s.barriers.length (szN s.groups.length (szN s.sems.length l))) ≤ 1048576 := Int.le_trans r3 t2
 by_cases q4 : szAll szOpSM s.threads (szN s.rooms.length (szN s.barriers.length (szN s.groups.length (szN s.sems.length l)))) < 0
 · simp [q0, q1, q2, q3, q4] at h
 obtain ⟨p4, r4⟩ := szAll_gen szOpSM_gen t3 q4
 have t4 : szAll szOpSM s.threads (szN s.rooms.length (szN s.barriers.length (szN s.groups.length (szN s.sems.length l)))) ≤ 1048576 := Int.le_trans r4 t3
 simp only [q0, q1, q2, q3, q4, if_false]
 exact ⟨⟨p0, p1, p2, p3, p4⟩, by omega⟩
set_option maxHeartbeats 16000000 in
set_option maxRecDepth 100000 in
theorem szProg_c (s : ProgH) (left : Int) (w : World) (h : At w [fR (progO s)]) (h0 : -1 ≤ left) (h1 : left ≤ 1048576) :
   Calls Tryz.prog 17 #[progV s, .int .i64 left] w (Ret w fun v L => v = .int .i64 (szProgM s.pure left) ∧ L = []) := by
 have hz : szProgM s.pure left = szSeq [szN s.sems.length, szN s.groups.length, szN s.barriers.length, szN s.rooms.length, szAll szOpSM (s.threads.map (·.m))] left := rfl
 simp only [szSeq, szList] at hz
 refine calls2 Tryz.func17 rfl tabOk w _ rfl _ rfl _ h ⟨rfl, rfl, trivial⟩ _ _ (by decide) ?_
 refine stop_call _ cl51 rfl rfl rfl rfl ⟨rfl, rfl⟩ (fun A w hW => ret_abs (szIntS_c s.h0 s.sems left w ⟨hW.get 0 rfl (.ofR (progO_sems s)), trivial⟩ h0 h1)) ?_
 rintro v L ⟨a0, e0, rfl, rfl⟩
 have r0 : ¬ szN s.sems.length left < 0 → szN s.sems.length left ≤ left := fun q => (szN_gen h1 q).2
 simp only [← e0] at hz
 rw [← e0] at r0
 apply CaseB.mk <;> intro g
 · have q : a0 < 0 := by simpa using g
   exact ret0 ⟨by rw [hz]; simp [q], rfl⟩ (fun _ => rfl)
 have q0 : ¬ a0 < 0 := by simpa using g
 have u0 : -1 ≤ a0 := by omega
 have v0 : a0 ≤ 1048576 := Int.le_trans (r0 q0) h1
 refine stop_call _ cl51 rfl rfl rfl rfl ⟨rfl, rfl⟩ (fun A w hW => ret_abs (szIntS_c s.h1 s.groups a0 w ⟨hW.get 0 rfl (.ofR (progO_groups s)), trivial⟩ u0 v0)) ?_
 rintro v L ⟨a1, e1, rfl, rfl⟩
 have r1 : ¬ szN s.groups.length a0 < 0 → szN s.groups.length a0 ≤ a0 := fun q => (szN_gen v0 q).2
 simp only [← e1] at hz
 rw [← e1] at r1
 apply CaseB.mk <;> intro g
 · have q : a1 < 0 := by simpa using g
   exact ret0 ⟨by rw [hz]; simp [q0, q], rfl⟩ (fun _ => rfl)
 have q1 : ¬ a1 < 0 := by simpa using g
 have u1 : -1 ≤ a1 := by omega
 have v1 : a1 ≤ 1048576 := Int.le_trans (r1 q1) v0
 refine stop_call _ cl51 rfl rfl rfl rfl ⟨rfl, rfl⟩ (fun A w hW => ret_abs (szIntS_c s.h2 s.barriers a1 w ⟨hW.get 0 rfl (.ofR (progO_barriers s)), trivial⟩ u1 v1)) ?_
 rintro v L ⟨a2, e2, rfl, rfl⟩
 have r2 : ¬ szN s.barriers.length a1 < 0 → szN s.barriers.length a1 ≤ a1 := fun q => (szN_gen v1 q).2
 simp only [← e2] at hz
 rw [← e2] at r2
 apply CaseB.mk <;> intro g
 · have q : a2 < 0 := by simpa using g
   exact ret0 ⟨by rw [hz]; simp [q0, q1, q], rfl⟩ (fun _ => rfl)
 have q2 : ¬ a2 < 0 := by simpa using g
 have u2 : -1 ≤ a2 := by omega
 have v2 : a2 ≤ 1048576 := Int.le_trans (r2 q2) v1
 refine stop_call _ cl51 rfl rfl rfl rfl ⟨rfl, rfl⟩ (fun A w hW => ret_abs (szIntS_c s.h3 s.rooms a2 w ⟨hW.get 0 rfl (.ofR (progO_rooms s)), trivial⟩ u2 v2)) ?_
 rintro v L ⟨a3, e3, rfl, rfl⟩
 have r3 : ¬ szN s.rooms.length a2 < 0 → szN s.rooms.length a2 ≤ a2 := fun q => (szN_gen v2 q).2
 simp only [← e3] at hz
 rw [← e3] at r3
 apply CaseB.mk <;> intro g
 · have q : a3 < 0 := by simpa using g
   exact ret0 ⟨by rw [hz]; simp [q0, q1, q2, q], rfl⟩ (fun _ => rfl)
 have q3 : ¬ a3 < 0 := by simpa using g
 have u3 : -1 ≤ a3 := by omega
 have v3 : a3 ≤ 1048576 := Int.le_trans (r3 q3) v2
 refine stop_call _ cl52 rfl rfl rfl rfl ⟨rfl, rfl⟩ (fun A w hW => ret_abs (szOpSS_c s.h4 s.threads a3 w ⟨hW.get 0 rfl (.R_R (progO_threads s)), trivial⟩ u3 v3)) ?_
 rintro v L ⟨a4, e4, rfl, rfl⟩
 have r4 : ¬ szAll szOpSM (s.threads.map (·.m)) a3 < 0 → szAll szOpSM (s.threads.map (·.m)) a3 ≤ a3 := fun q => (szAll_gen szOpSM_gen v3 q).2
 simp only [← e4] at hz
 rw [← e4] at r4
 apply CaseB.mk <;> intro g
 · have q : a4 < 0 := by simpa using g
   exact ret0 ⟨by rw [hz]; simp [q0, q1, q2, q3, q], rfl⟩ (fun _ => rfl)
 have q4 : ¬ a4 < 0 := by simpa using g
 have u4 : -1 ≤ a4 := by omega
 have v4 : a4 ≤ 1048576 := Int.le_trans (r4 q4) v3
 refine ret0 ⟨?_, rfl⟩ (fun _ => rfl)
 rw [hz]; simp [q0, q1, q2, q3, q4]
set_option maxHeartbeats 16000000 in
set_option maxRecDepth 100000 in
theorem toProg_c (s : ProgH) (w : World) (h : At w [fR (progO s)]) (hb : s.pure.small20) :
   Calls Tryz.prog 19 #[progV s] w (Ret w fun v L => ∃ y : ProgH, v = progV y ∧ y.pure = s.pure ∧ L = [fO (progO y)]) := by
 obtain ⟨b0, b1, b2, b3, b4⟩ := hb
 refine calls1 Tryz.func19 rfl tabOk w _ rfl _ rfl _ h ⟨rfl, rfl, trivial⟩ _ (by decide) ?_
 refine stop_call _ cl20 rfl rfl rfl rfl ⟨rfl, rfl⟩ (fun A w hW => toIntS_c s.h0 s.sems w ⟨hW.get 0 rfl (.ofR (progO_sems s)), trivial⟩ b0) ?_
 rintro v L ⟨y0, rfl, rfl⟩
 refine stop_call _ cl20 rfl rfl rfl rfl ⟨rfl, rfl⟩ (fun A w hW => toIntS_c s.h1 s.groups w ⟨hW.get 1 rfl (.ofR (progO_groups s)), trivial⟩ b1) ?_
 rintro v L ⟨y1, rfl, rfl⟩
 refine stop_call _ cl20 rfl rfl rfl rfl ⟨rfl, rfl⟩ (fun A w hW => toIntS_c s.h2 s.barriers w ⟨hW.get 2 rfl (.ofR (progO_barriers s)), trivial⟩ b2) ?_
 rintro v L ⟨y2, rfl, rfl⟩
 refine stop_call _ cl20 rfl rfl rfl rfl ⟨rfl, rfl⟩ (fun A w hW => toIntS_c s.h3 s.rooms w ⟨hW.get 3 rfl (.ofR (progO_rooms s)), trivial⟩ b3) ?_
 rintro v L ⟨y3, rfl, rfl⟩
 refine stop_call _ cl55 rfl rfl rfl rfl ⟨rfl, rfl⟩ (fun A w hW => toOpSS_c s.h4 s.threads w ⟨hW.get 4 rfl (.R_R (progO_threads s)), trivial⟩ (allS_map b4).1 (allS_map b4).2) ?_
 rintro v L ⟨y4, ys4, rfl, e4, rfl⟩
 generalize hy : (⟨s.sems, s.groups, s.barriers, s.rooms, ys4, y0, y1, y2, y3, y4⟩ : ProgH) = y
 refine ret_shift (.joinO [4, 3, 2, 1, 0] (Gs := [[_], [_], [_], [_], _]) z112 rfl (G := progO y) ?_) ?_
 · subst hy; exact .of_eq (by simp [progO])
 exact retw [0] ⟨y, by rw [← hy]; rfl, by rw [← hy]; simp [ProgH.pure, e4], rfl⟩ z140 rfl ⟨rfl, trivial⟩ (fun _ => rfl)
set_option maxHeartbeats 16000000 in
set_option maxRecDepth 100000 in
theorem eqProg_c (s t : ProgH) (w : World) (h : At w [fR (progO s), fR (progO t)]) (hb : s.pure.small20) (hb2 : t.pure.small20) :
   Calls Tryz.prog 23 #[progV s, progV t] w (Ret w fun v L => v = .bool (decide (s.pure = t.pure)) ∧ L = []) := by
 have hx : s.pure = t.pure ↔ s.sems = t.sems ∧ s.groups = t.groups ∧ s.barriers = t.barriers ∧ s.rooms = t.rooms ∧ s.threads.map (·.m) = t.threads.map (·.m) := by
   simp only [ProgH.pure, Prog.mk.injEq]
 obtain ⟨b0, b1, b2, b3, b4⟩ := hb
 obtain ⟨c0, c1, c2, c3, c4⟩ := hb2
 refine calls2 Tryz.func23 rfl tabOk w _ rfl _ rfl _ h ⟨rfl, rfl, rfl, rfl, trivial⟩ _ _ (by decide) ?_
 refine stop_call _ cl22 rfl rfl rfl rfl ⟨rfl, rfl⟩ (fun A w hW => eqIntS_c s.h0 t.h0 s.sems t.sems w ⟨hW.get 0 rfl (.ofR (progO_sems s)), hW.get 1 rfl (.ofR (progO_sems t)), trivial⟩ (Nat.le_trans b0 (by decide)) (Nat.le_trans c0 (by decide))) ?_
 rintro v L ⟨rfl, rfl⟩
 refine CaseB.mk (fun g0 => ?_) (fun g0 => ?_)
 · have g : ¬ s.pure = t.pure := fun e => by rw [hx] at e; simp [e] at g0
   exact ret0 ⟨by simp [g], rfl⟩ (fun _ => rfl)
 refine stop_call _ cl22 rfl rfl rfl rfl ⟨rfl, rfl⟩ (fun A w hW => eqIntS_c s.h1 t.h1 s.groups t.groups w ⟨hW.get 0 rfl (.ofR (progO_groups s)), hW.get 1 rfl (.ofR (progO_groups t)), trivial⟩ (Nat.le_trans b1 (by decide)) (Nat.le_trans c1 (by decide))) ?_
 rintro v L ⟨rfl, rfl⟩
 refine CaseB.mk (fun g1 => ?_) (fun g1 => ?_)
 · have g : ¬ s.pure = t.pure := fun e => by rw [hx] at e; simp [e] at g1
   exact ret0 ⟨by simp [g], rfl⟩ (fun _ => rfl)
 refine stop_call _ cl22 rfl rfl rfl rfl ⟨rfl, rfl⟩ (fun A w hW => eqIntS_c s.h2 t.h2 s.barriers t.barriers w ⟨hW.get 0 rfl (.ofR (progO_barriers s)), hW.get 1 rfl (.ofR (progO_barriers t)), trivial⟩ (Nat.le_trans b2 (by decide)) (Nat.le_trans c2 (by decide))) ?_
 rintro v L ⟨rfl, rfl⟩
 refine CaseB.mk (fun g2 => ?_) (fun g2 => ?_)
 · have g : ¬ s.pure = t.pure := fun e => by rw [hx] at e; simp [e] at g2
   exact ret0 ⟨by simp [g], rfl⟩ (fun _ => rfl)
 refine stop_call _ cl22 rfl rfl rfl rfl ⟨rfl, rfl⟩ (fun A w hW => eqIntS_c s.h3 t.h3 s.rooms t.rooms w ⟨hW.get 0 rfl (.ofR (progO_rooms s)), hW.get 1 rfl (.ofR (progO_rooms t)), trivial⟩ (Nat.le_trans b3 (by decide)) (Nat.le_trans c3 (by decide))) ?_
 rintro v L ⟨rfl, rfl⟩
 refine CaseB.mk (fun g3 => ?_) (fun g3 => ?_)
 · have g : ¬ s.pure = t.pure := fun e => by rw [hx] at e; simp [e] at g3
   exact ret0 ⟨by simp [g], rfl⟩ (fun _ => rfl)
 refine stop_call _ cl59 rfl rfl rfl rfl ⟨rfl, rfl⟩ (fun A w hW => eqOpSS_c s.h4 t.h4 s.threads t.threads w ⟨hW.get 0 rfl (.R_R (progO_threads s)), hW.get 1 rfl (.R_R (progO_threads t)), trivial⟩ (allS_map b4).1 (allS_map b4).2 (allS_map c4).2) ?_
 rintro v L ⟨rfl, rfl⟩
 refine CaseB.mk (fun g4 => ?_) (fun g4 => ?_)
 · have g : ¬ s.pure = t.pure := fun e => by rw [hx] at e; simp [e] at g4
   exact ret0 ⟨by simp [g], rfl⟩ (fun _ => rfl)
 have g : s.pure = t.pure := hx.2 ⟨by simpa using g0, by simpa using g1, by simpa using g2, by simpa using g3, by simpa using g4⟩
 exact ret0 ⟨by simp [g], rfl⟩ (fun _ => rfl)
theorem neWait (x y : Waiting) (w : World) : (binOp .neq 179 (.agg (cWait x).toArray) (.agg (cWait y).toArray)).run Tryz.prog w = .ok (.bool (decide (x ≠ y))) w := by
 have h := neq_ints (P := Tryz.prog) (t := 179) (it := 3) (xs := [x.kind, x.on, x.arg]) (ys := [y.kind, y.on, y.arg]) z97 z97 z97 rfl z97 w
 have e : ([x.kind, x.on, x.arg] ≠ [y.kind, y.on, y.arg]) ↔ x ≠ y := by cases x; cases y; simp
 rw [show decide (x ≠ y) = decide ([x.kind, x.on, x.arg] ≠ [y.kind, y.on, y.arg]) from by simp only [e]]
 exact h
def ofKey {β : Type} (es : List (Int × β)) (t : Int) : List β := (es.filter fun e => e.1 == t).map (·.2)
theorem aget_aset {β : Type} (m : List (Int × β)) (k : Int) (v : β) (t : Int) : aget (aset m k v) t = if k = t then some v else aget m t := by
 induction m with
 | nil => simp only [aset, aget]
 | cons p r ih =>
   obtain ⟨q, u⟩ := p
   simp only [aset]
   by_cases e : q = k
   · subst e
     simp only [if_true, aget]
     by_cases e2 : q = t <;> simp [e2]
   · simp only [e, if_false, aget, ih]
     by_cases e2 : q = t
     · subst e2
       have : ¬ k = q := fun h => e h.symm
       simp [this]
     · simp [e2]
theorem mapOf_get {β : Type} (es : List (Int × β)) (t : Int) : aget (mapOf es) t = if ofKey es t = [] then none else some (ofKey es t) := by
 have : ∀ (es : List (Int × β)) (m : List (Int × List β)) (f : List β), (aget m t = if f = [] then none else some f) → aget (es.foldl addM m) t = if f ++ ofKey es t = [] then none else some (f ++ ofKey es t) := fun es => by
   induction es with
   | nil => intro m f h; simpa [ofKey] using h
   | cons e r ih =>
     intro m f h
     obtain ⟨k, x⟩ := e
     simp only [List.foldl_cons]
     by_cases hk : k = t
     · subst hk
       have h1 : aget (addM m (k, x)) k = some (f ++ [x]) := by
         rw [addM, aget_aset, if_pos rfl, h]
         by_cases hf : f = []
         · simp [hf]
         · simp [hf]
       have := ih (addM m (k, x)) (f ++ [x]) (by rw [h1]; simp)
       rw [this]
       simp [ofKey]
     · have h1 : aget (addM m (k, x)) t = aget m t := by rw [addM, aget_aset, if_neg hk]
       have := ih (addM m (k, x)) f (by rw [h1]; exact h)
       rw [this]
       have e2 : ofKey ((k, x) :: r) t = ofKey r t := by simp [ofKey, hk]
       rw [e2]
 have := this es [] [] (by simp [aget])
 simpa [mapOf] using this
theorem mapOf_getD {β : Type} (es : List (Int × β)) (t : Int) : (aget (mapOf es) t).getD [] = ofKey es t := by
 rw [mapOf_get]
 by_cases h : ofKey es t = [] <;> simp [h]
theorem ofKey_nil {β : Type} {es : List (Int × β)} {t : Int} : ofKey es t = [] ↔ ∀ e ∈ es, e.1 ≠ t := by
 simp [ofKey, List.filter_eq_nil_iff]
def keyed {β : Type} (m : List (Int × β)) : Prop := (m.map (·.1)).Nodup
theorem aset_keys {β : Type} (m : List (Int × β)) (k : Int) (v : β) : (aset m k v).map (·.1) = if k ∈ m.map (·.1) then m.map (·.1) else m.map (·.1) ++ [k] := by
 induction m with
 | nil => simp [aset]
 | cons p r ih =>
   obtain ⟨q, u⟩ := p
   simp only [aset]
   by_cases e : q = k
   · simp [e]
   · have e' : ¬ k = q := fun h => e h.symm
     simp only [e, if_false, List.map_cons, ih, List.mem_cons, e', false_or]
     split <;> simp
theorem mapOf_keyed {β : Type} (es : List (Int × β)) : keyed (mapOf es) := by
 have : ∀ (es : List (Int × β)) (m : List (Int × List β)), keyed m → keyed (es.foldl addM m) := fun es => by
   induction es with
   | nil => intro m h; exact h
   | cons e r ih =>
     intro m h
     refine ih _ ?_
     simp only [keyed, addM, aset_keys] at h ⊢
     split
     · exact h
     · rename_i hn
       rw [List.nodup_append]
       exact ⟨h, by simp, fun a ha b hb => by simp at hb; subst hb; rintro rfl; exact hn ha⟩
 exact this es [] (by simp [keyed])
theorem keyed_pm {β : Type} {ps : List (Int × LH β)} : keyed (pm ps) ↔ keyed ps := by
 simp [keyed, pm, Function.comp_def]
theorem aget_none {β : Type} {m : List (Int × β)} {t : Int} : aget m t = none ↔ t ∉ m.map (·.1) := by
 induction m with
 | nil => simp [aget]
 | cons p r ih =>
   obtain ⟨q, u⟩ := p
   simp only [aget]
   by_cases e : q = t
   · simp [e]
   · have e' : ¬ t = q := fun h => e h.symm
     simp [e, e', ih]
theorem aget_in {β : Type} {m : List (Int × β)} {t : Int} {u : β} (h : aget m t = some u) : (t, u) ∈ m := by
 induction m with
 | nil => simp [aget] at h
 | cons p r ih =>
   obtain ⟨q, v⟩ := p
   simp only [aget] at h
   by_cases e : q = t
   · simp only [e, if_true, Option.some.injEq] at h
     subst h; subst e; simp
   · simp only [e, if_false] at h
     exact List.mem_cons_of_mem _ (ih h)
theorem adel_sub {β : Type} (m : List (Int × β)) (t : Int) : (adel m t).Sublist m := by
 induction m with
 | nil => exact .refl _
 | cons p r ih =>
   obtain ⟨q, v⟩ := p
   simp only [adel]
   split
   · exact List.sublist_cons_self _ _
   · exact ih.cons_cons _
theorem keyed_del {β : Type} {m : List (Int × β)} (h : keyed m) (t : Int) : keyed (adel m t) := h.sublist ((adel_sub m t).map _)
theorem aget_del {β : Type} {m : List (Int × β)} (h : keyed m) (t x : Int) : aget (adel m t) x = if x = t then none else aget m x := by
 induction m with
 | nil => simp [adel, aget]
 | cons p r ih =>
   obtain ⟨q, v⟩ := p
   have hq : q ∉ r.map (·.1) ∧ keyed r := by simpa [keyed] using h
   simp only [adel]
   by_cases e : q = t
   · subst e
     simp only [if_true]
     by_cases ex : x = q
     · subst ex; simp only [if_true]; exact aget_none.2 hq.1
     · have : ¬ q = x := fun h => ex h.symm
       simp [ex, aget, this]
   · simp only [e, if_false, aget, ih hq.2]
     by_cases ex : q = x
     · subst ex; simp [e]
     · simp [ex]
theorem nil_of_none {β : Type} {m : List (Int × β)} (h : ∀ x, aget m x = none) : m = [] := by
 cases m with
 | nil => rfl
 | cons p r =>
   have := h p.1
   simp [aget] at this
theorem rows_in {β : Type} {ty : TypeId} {enc : β → List Value} {sz : Nat} {ps : List (Int × LH β)} {t : Int} {u : LH β} (h : (t, u) ∈ ps) : RdIn (rowsM ty enc sz ps) (slo u.q enc sz u.xs) :=
 RdIn.own (o := false) (e := ty) (List.mem_flatMap.2 ⟨_, h, by simp⟩)
structure Left {β : Type} (ps qs : List (Int × LH β)) (k : Nat) : Prop where
 sub : qs.Sublist ps
 key : keyed qs
 get : ∀ x, aget qs x = if 0 ≤ x ∧ x < k then none else aget ps x
theorem Left.start {β : Type} {ps : List (Int × LH β)} (h : keyed ps) : Left ps ps 0 := ⟨.refl _, h, fun x => by rw [if_neg (by omega)]⟩
theorem Left.next {β : Type} {ps qs : List (Int × LH β)} {k : Nat} (h : Left ps qs k) : Left ps (adel qs (k : Int)) (k + 1) := by
 refine ⟨(adel_sub _ _).trans h.sub, keyed_del h.key _, fun x => ?_⟩
 rw [aget_del h.key, h.get]
 by_cases e : x = k
 · rw [if_pos e, if_pos (by omega)]
 · rw [if_neg e]
   by_cases e2 : 0 ≤ x ∧ x < k
   · rw [if_pos e2, if_pos (by omega)]
   · rw [if_neg e2, if_neg (by omega)]
theorem Left.at {β : Type} {ps qs : List (Int × LH β)} {k : Nat} (h : Left ps qs k) {es : List (Int × β)} (he : pm ps = mapOf es) : ((aget qs (k : Int)).getD LH.nil).xs = ofKey es k := by
 have h1 := h.get k
 rw [if_neg (by omega)] at h1
 have h2 := mapOf_getD es (k : Int)
 rw [← he, pm_aget] at h2
 rw [h1, ← h2]
 cases aget ps (k : Int) <;> rfl
theorem Left.done {β : Type} {ps qs : List (Int × LH β)} {k : Nat} (h : Left ps qs k) {es : List (Int × β)} (he : pm ps = mapOf es) : qs = [] ↔ ∀ e ∈ es, 0 ≤ e.1 ∧ e.1 < k := by
 constructor
 · rintro rfl e hm
   refine Classical.byContradiction fun hn => ?_
   have h1 := h.get e.1
   rw [if_neg hn] at h1
   have h2 := mapOf_get es e.1
   have h3 : ofKey es e.1 ≠ [] := fun h0 => ofKey_nil.1 h0 e hm rfl
   rw [if_neg h3, ← he, pm_aget, ← h1] at h2
   simp [aget] at h2
 · intro hall
   refine nil_of_none fun x => ?_
   rw [h.get]
   split
   · rfl
   · rename_i hn
     have h3 : ofKey es x = [] := ofKey_nil.2 fun e hm hx => hn (hx ▸ hall e hm)
     have h2 := mapOf_get es x
     rw [if_pos h3, ← he, pm_aget] at h2
     cases hq : aget ps x with
     | none => rfl
     | some u => rw [hq] at h2; simp at h2
def want (o : Op) : Waiting := ⟨o.kind, o.on, if o.kind = 2 ∨ o.kind = 8 then o.arg else 0⟩
def ThreadOk (ops : List Op) (at_ st : Int) (w : List Waiting) (o : List Int) : Prop :=
 0 ≤ at_ ∧ at_ ≤ ops.length ∧ ((at_ = ops.length ∧ st = 3 ∧ w = [] ∧ o = []) ∨
   ∃ op, ops[at_.toNat]? = some op ∧ ((st = 0 ∧ w = [] ∧ o = []) ∨ (st = 1 ∧ o = [] ∧ w = [want op]) ∨ (st = 2 ∧ w = [] ∧ op.kind = 4 ∧ o = [op.on])))
structure Fits (p : Prog) (s : State) : Prop where
 prog : ProgOk p
 np : s.places.length = p.threads.length
 ns : s.status.length = p.threads.length
 lsems : s.sems.length = p.sems.length
 lgroups : s.groups.length = p.groups.length
 lbarriers : s.barriers.length = p.barriers.length
 lchans : s.chans.length = p.rooms.length
 lonces : s.onces.length = 3
 lsaid : s.said.length ≤ 64
 f0 : 0 ≤ s.fault
 f4 : s.fault ≤ 4
 sems : ∀ (i : Nat) x, s.sems[i]? = some x → SemOk x ∧ p.sems[i]? = some x.limit
 groups : ∀ x ∈ s.groups, GroupOk x
 barriers : ∀ (i : Nat) x, s.barriers[i]? = some x → BarrierOk x ∧ p.barriers[i]? = some x.parties
 chans : ∀ (i : Nat) x, s.chans[i]? = some x → x.valid = true ∧ p.rooms[i]? = some x.room
 onces : ∀ x ∈ s.onces, OnceOk x
 said : ∀ v ∈ s.said, isValue v = true
 threads : ∀ (t : Nat) ops at_ st, p.threads[t]? = some ops → s.places[t]? = some at_ → s.status[t]? = some st → ThreadOk ops at_ st (ofKey (events s) t) (ofKey (owners s) t)
 ev : ∀ e ∈ events s, 0 ≤ e.1 ∧ e.1 < p.threads.length
 ow : ∀ e ∈ owners s, 0 ≤ e.1 ∧ e.1 < p.threads.length
theorem evL_len {α β : Type} {f : Nat → α → List β} {C : Nat} : ∀ {i : Nat} {xs : List α}, (∀ i x, x ∈ xs → (f i x).length ≤ C) → (evL f i xs).length ≤ xs.length * C
 | i, [], _ => by simp [evL]
 | i, x :: r, h => by
   have h1 := h i x (by simp)
   have h2 := evL_len (i := i + 1) (xs := r) fun i y hy => h i y (by simp [hy])
   have e : (r.length + 1) * C = r.length * C + C := Nat.succ_mul _ _
   simp only [evL, List.length_append, List.length_cons, e]
   omega
theorem onceOk_len {m : Once} (h : OnceOk m) : m.waits.length ≤ 6 := by
 rcases h with h | h | h
 · rw [h.2.2.2]; simp
 · exact distinct_len h.2.2.2.1
 · rw [h.2.2.2]; simp
theorem barrierOk_len {m : Barrier} (h : BarrierOk m) : m.waits.length ≤ 6 := distinct_len h.2.2.2.2.2
theorem groupOk_len {m : Group} (h : GroupOk m) : m.waits.length ≤ 6 := distinct_len h.2.1
theorem chanOk_len {m : Chan} (h : m.valid = true) : m.senders.length + m.getters.length ≤ 6 := by
 have hv : m.Valid := by simpa [Chan.valid] using h
 have := distinct_len hv.di
 simpa [Chan.threads] using this
set_option maxHeartbeats 2000000 in
set_option maxRecDepth 100000 in
theorem validS_c (m : Chan) (i s g : Sl) (w : World) (h : At w [slo i cInt 1 m.items, slo s cLet 2 m.senders, slo g cInt 1 m.getters]) (hb : m.small) :
   Calls Tryz.prog 181 #[chanV m i s g] w (Ret w fun v L => v = .bool m.valid ∧ L = []) := by
 obtain ⟨b1, b2, b3⟩ := hb
 have bT : m.threads.length ≤ 8589934592 := by simp [Chan.threads]; omega
 have hno : ∀ {P : Prop}, ¬ P → (m.Valid → P) → ∀ A, resV A [SV.lit false] = Value.bool m.valid := fun h1 h2 _ => Chan.invalid fun hv => h1 (h2 hv)
 refine calls1 Tryz.func181 rfl tabOk w _ rfl _ rfl _ h z137 _ (by decide) ?_
 refine CaseB.mk (fun h1 => ?_) (fun h1 => ?_)
 · exact ret0 ⟨rfl, rfl⟩ (hno (by simp at h1; omega) Chan.Valid.r0)
 · have r0 : 0 ≤ m.room := by simp at h1; omega
   refine CaseB.mk (fun h2 => ?_) (fun h2 => ?_)
   · exact ret0 ⟨rfl, rfl⟩ (hno (by simp at h2; omega) Chan.Valid.r1)
   · have r1 : m.room ≤ 4 := by simp at h2; omega
     refine CaseB.mk (fun h3 => ?_) (fun h3 => ?_)
     · exact ret0 ⟨rfl, rfl⟩ (hno (by simp at h3; omega) Chan.Valid.it)
     · have it : (m.items.length : Int) ≤ m.room := by simp at h3; omega
       refine CaseB.mk (fun h4 => ?_) (fun h4 => ?_)
       · exact ret0 ⟨rfl, rfl⟩ (hno (P := m.senders.length ≤ 6) (by simp at h4; omega) (fun hv => by have := distinct_len hv.di; simp [Chan.threads] at this; omega))
       refine CaseB.mk (fun h5 => ?_) (fun h5 => ?_)
       · exact ret0 ⟨rfl, rfl⟩ (hno (P := m.getters.length ≤ 6) (by simp at h5; omega) (fun hv => by have := distinct_len hv.di; simp [Chan.threads] at this; omega))
       have e7 : m.senders.take 7 = m.senders := List.take_of_length_le (by simp at h4; omega)
       refine LoopW.mk ⟨{ k : Nat // k ≤ m.items.length ∧ ∀ x ∈ m.items.take k, isValue x = true },
         fun p => .mk [(1, .p 0 0), (3, .v (.int .i64 p.1))] 1 0 [(0, 119, 5)] [((0, 0), .v (.int .i64 m.room)), ((0, 1), .v (i.val m.items.length)), ((0, 2), .v (s.val m.senders.length)), ((0, 3), .v (g.val m.getters.length)), ((0, 4), .v (.bool m.closed))] [slo i cInt 1 m.items, slo s cLet 2 m.senders, slo g cInt 1 m.getters],
         fun p => m.items.length - p.1, ⟨0, Nat.zero_le _, by simp⟩, ?_, ?_⟩
       · exact weak_mk [0, 1, 2] zw2 zw0 zw2 zw5 zw4 rfl rfl
       · rintro ⟨k, hk, ha⟩
         refine CaseB.mk (fun h => ?_) (fun h => ?_)
         · have hlt : k < m.items.length := by simpa using h
           refine stop_idx encInt tabOk rfl rfl rfl rfl rfl ⟨rfl, rfl⟩ z38 k rfl z45 (fun ad => ?_)
           refine stop_call _ cl146 rfl rfl rfl rfl ⟨rfl, rfl⟩ (fun A w hW => l2Value_c _ w) ?_
           rintro v L ⟨rfl, rfl⟩
           refine CaseB.mk (fun h => ?_) (fun h => ?_)
           · exact ret0 ⟨rfl, rfl⟩ (hno z91 (fun hv => hv.iv _ (List.getElem_mem hlt)))
           · have hw := wrapN k _ hlt b1
             refine ⟨⟨k + 1, by omega, all_take_succ hlt ha z91⟩, ?_, by simp; omega⟩
             exact weak_mk [0, 1, 2] zw1 zw0 zw1 zw5 zw3 rfl rfl
         · have hge : m.items.length ≤ k := by simpa using h
           rw [List.take_of_length_le hge] at ha
           refine LoopW.mk ⟨{ k : Nat // k ≤ m.senders.length ∧ ∀ x ∈ m.senders.take k, isValue x.v = true },
             fun p => .mk [(1, .p 0 0), (4, .v (.int .i64 p.1))] 1 0 [(0, 119, 5)] [((0, 0), .v (.int .i64 m.room)), ((0, 1), .v (i.val m.items.length)), ((0, 2), .v (s.val m.senders.length)), ((0, 3), .v (g.val m.getters.length)), ((0, 4), .v (.bool m.closed))] [slo i cInt 1 m.items, slo s cLet 2 m.senders, slo g cInt 1 m.getters],
             fun p => m.senders.length - p.1, ⟨0, Nat.zero_le _, by simp⟩, ?_, ?_⟩
           · exact weak_mk [0, 1, 2] zw2 zw0 zw2 zw5 zw4 rfl rfl
           · rintro ⟨k, hk, hs⟩
             refine CaseB.mk (fun h => ?_) (fun h => ?_)
             · have hlt : k < m.senders.length := by simpa using h
               refine stop_idx encLet tabOk rfl rfl rfl rfl rfl ⟨rfl, rfl⟩ z38 k rfl z45 (fun ad => ?_)
               refine stop_call _ cl146 rfl rfl rfl rfl ⟨rfl, rfl⟩ (fun A w hW => l2Value_c _ w) ?_
               rintro v L ⟨rfl, rfl⟩
               refine CaseB.mk (fun h => ?_) (fun h => ?_)
               · exact ret0 ⟨rfl, rfl⟩ (hno z91 (fun hv => hv.sv _ (List.getElem_mem hlt)))
               · have hw := wrapN k _ hlt b2
                 refine ⟨⟨k + 1, by omega, all_take_succ (p := fun l : Letter => isValue l.v = true) hlt hs z91⟩, ?_, by simp; omega⟩
                 exact weak_mk [0, 1, 2] zw1 zw0 zw1 zw5 zw3 rfl rfl
             · have hge : m.senders.length ≤ k := by simpa using h
               rw [List.take_of_length_le hge] at hs
               refine draw_start tabOk z97 z97 z97 200 [((0, 2), .v (s.val m.senders.length)), ((0, 3), .v (g.val m.getters.length))] [0, 1, 2] [_, _, _] z135 z143 ⟨rfl, rfl, rfl, trivial⟩ rfl ?_
               refine d_call _ cl182 rfl rfl rfl rfl ⟨rfl, rfl⟩ (fun A w hW => l5Threads_c s m.senders w ⟨z37, trivial⟩ b2) ?_
               rw [e7]
               rintro v L ⟨y, rfl, rfl⟩
               refine d_appK (ti := tiOf tab) encInt tabOk  rfl rfl rfl rfl rfl rfl rfl rfl rfl (by decide) ⟨rfl, rfl⟩ z41 z38 z45 z45 z95 (fun z => ?_)
               refine d_call _ cl194 rfl rfl rfl rfl ⟨rfl, rfl⟩ (fun A w hW => l2Waits_c z m.threads w ⟨z37, trivial⟩ bT) ?_
               rintro v L ⟨rfl, rfl⟩
               refine CaseB.mk (fun h => ?_) (fun h => ?_)
               · exact ret0 ⟨rfl, rfl⟩ (hno z91 Chan.Valid.di)
               · have hd : distinct m.threads = true := by simpa using h
                 have fin : (m.senders ≠ [] → (m.items.length : Int) = m.room ∧ m.getters = [] ∧ m.closed = false) → (m.getters ≠ [] → m.items = [] ∧ m.closed = false) → m.Valid := fun x y => ⟨r0, r1, it, ha, hs, hd, x, y⟩
                 refine CaseB.mk (fun q1 => ?_) (fun q1 => ?_)
                 · have hs1 : m.senders ≠ [] := len_pos.1 q1
                   refine CaseB.mk (fun q2 => ?_) (fun q2 => ?_)
                   · exact ret0 ⟨rfl, rfl⟩ (fun _ => Chan.invalid (fun hv => by have := (hv.se hs1).1; simp at q2; omega))
                   · have e2 : (m.items.length : Int) = m.room := by simp at q2; omega
                     refine CaseB.mk (fun q3 => ?_) (fun q3 => ?_)
                     · exact ret0 ⟨rfl, rfl⟩ (fun _ => Chan.invalid (fun hv => len_pos.1 q3 (hv.se hs1).2.1))
                     · have e3 : m.getters = [] := by
                         cases hg : m.getters with
                         | nil => rfl
                         | cons a r => rw [hg] at q3; simp at q3
                       refine CaseB.mk (fun q4 => ?_) (fun q4 => ?_)
                       · exact ret0 ⟨rfl, rfl⟩ (fun _ => Chan.invalid (fun hv => by have := (hv.se hs1).2.2; rw [q4] at this; cases this))
                       · have hS : m.senders ≠ [] → (m.items.length : Int) = m.room ∧ m.getters = [] ∧ m.closed = false := fun _ => ⟨e2, e3, q4⟩
                         refine CaseB.mk (fun q5 => ?_) (fun q5 => ?_)
                         · have hg : m.getters = [] := by simpa using q5
                           exact ret0 ⟨rfl, rfl⟩ (fun _ => Chan.isvalid (fin hS (fun hn => absurd hg hn)))
                         · have hg : m.getters ≠ [] := by simpa using q5
                           refine CaseB.mk (fun q6 => ?_) (fun q6 => ?_)
                           · have hi : m.items = [] := by simpa using q6
                             refine ret0 ⟨rfl, rfl⟩ (fun _ => ?_)
                             show Value.bool (!m.closed) = _
                             cases hc : m.closed with
                             | false => exact Chan.isvalid (fin hS (fun _ => ⟨hi, hc⟩))
                             | true => exact Chan.invalid (fun hv => by have := (hv.ge hg).2; rw [hc] at this; cases this)
                           · have hi : m.items ≠ [] := by simpa using q6
                             exact ret0 ⟨rfl, rfl⟩ (fun _ => Chan.invalid (fun hv => hi (hv.ge hg).1))
                 · have hs1 : m.senders = [] := by
                     cases hg : m.senders with
                     | nil => rfl
                     | cons a r => rw [hg] at q1; simp at q1
                   have hS : m.senders ≠ [] → (m.items.length : Int) = m.room ∧ m.getters = [] ∧ m.closed = false := fun hn => absurd hs1 hn
                   refine CaseB.mk (fun q5 => ?_) (fun q5 => ?_)
                   · have hg : m.getters = [] := by simpa using q5
                     exact ret0 ⟨rfl, rfl⟩ (fun _ => Chan.isvalid (fin hS (fun hn => absurd hg hn)))
                   · have hg : m.getters ≠ [] := by simpa using q5
                     refine CaseB.mk (fun q6 => ?_) (fun q6 => ?_)
                     · have hi : m.items = [] := by simpa using q6
                       refine ret0 ⟨rfl, rfl⟩ (fun _ => ?_)
                       show Value.bool (!m.closed) = _
                       cases hc : m.closed with
                       | false => exact Chan.isvalid (fin hS (fun _ => ⟨hi, hc⟩))
                       | true => exact Chan.invalid (fun hv => by have := (hv.ge hg).2; rw [hc] at this; cases this)
                     · have hi : m.items ≠ [] := by simpa using q6
                       exact ret0 ⟨rfl, rfl⟩ (fun _ => Chan.invalid (fun hv => hi (hv.ge hg).1))
set_option maxHeartbeats 4000000 in
set_option maxRecDepth 100000 in
theorem onceValidS_c (m : Once) (q : Sl) (w : World) (h : At w [slo q cInt 1 m.waits]) (hb : m.waits.length ≤ 1048576) :
   Calls Tryz.prog 180 #[onceV m q] w (Tells w (OnceOk m)) := by
 refine calls1 Tryz.func180 rfl tabOk w _ rfl _ rfl _ h ⟨rfl, rfl, trivial⟩ _ (by decide) ?_
 refine CaseB.mk (fun k => ?_) (fun k0 => ?_)
 · have hx := onceOk0 (m := m) z93
   apply CaseB.mk <;> intro g
   rotate_left
   · have q : ¬ (m.owner = 0) := by simpa using g
     exact ret0 ⟨_, rfl, tno fun e => q (hx.1 e).1, rfl⟩ (fun _ => rfl)
   have c1 : m.owner = 0 := by simpa using g
   apply CaseB.mk <;> intro g
   rotate_left
   · have q : ¬ (m.value = 0) := by simpa using g
     exact ret0 ⟨_, rfl, tno fun e => q (hx.1 e).2.1, rfl⟩ (fun _ => rfl)
   have c2 : m.value = 0 := by simpa using g
   exact ret0 ⟨_, rfl, by rw [hx]; simp [c1, c2], rfl⟩ (fun _ => rfl)
 refine CaseB.mk (fun k => ?_) (fun k1 => ?_)
 · have hx := onceOk1 (m := m) z93
   refine stop_call _ cl170 rfl rfl rfl rfl ⟨rfl, rfl⟩ (fun A w hW => l1Thread_c _ w) ?_
   rintro v L ⟨rfl, rfl⟩
   apply CaseB.mk <;> intro g
   rotate_left
   · have q : ¬ (isThread m.owner = true) := by simpa using g
     exact ret0 ⟨_, rfl, tno fun e => q (hx.1 e).1, rfl⟩ (fun _ => rfl)
   have c1 : isThread m.owner = true := g
   apply CaseB.mk <;> intro g
   rotate_left
   · have q : ¬ (m.value = 0) := by simpa using g
     exact ret0 ⟨_, rfl, tno fun e => q (hx.1 e).2.1, rfl⟩ (fun _ => rfl)
   have c2 : m.value = 0 := by simpa using g
   refine stop_call _ cl194 rfl rfl rfl rfl ⟨rfl, rfl⟩ (fun A w hW => l2Waits_c q m.waits w ⟨z37, trivial⟩ (by omega)) ?_
   rintro v L ⟨rfl, rfl⟩
   apply CaseB.mk <;> intro g
   rotate_left
   · have q : ¬ (distinct m.waits = true) := by simpa using g
     exact ret0 ⟨_, rfl, tno fun e => q (hx.1 e).2.2.1, rfl⟩ (fun _ => rfl)
   have c3 : distinct m.waits = true := g
   refine stop_call _ cl54 rfl rfl rfl rfl ⟨rfl, rfl⟩ (fun A w hW => l2At_c q m.waits m.owner w ⟨z37, trivial⟩ (by omega)) ?_
   rintro v L ⟨rfl, rfl⟩
   have hm := atM_mem m.waits m.owner
   exact ret0 ⟨_, rfl, by rw [hx, ← hm]; simp [c1, c2, c3], rfl⟩ (fun _ => rfl)
 refine CaseB.mk (fun k => ?_) (fun k2 => ?_)
 · have hx := onceOk2 (m := m) z93
   refine stop_call _ cl170 rfl rfl rfl rfl ⟨rfl, rfl⟩ (fun A w hW => l1Thread_c _ w) ?_
   rintro v L ⟨rfl, rfl⟩
   apply CaseB.mk <;> intro g
   rotate_left
   · have q : ¬ (isThread m.owner = true) := by simpa using g
     exact ret0 ⟨_, rfl, tno fun e => q (hx.1 e).1, rfl⟩ (fun _ => rfl)
   have c1 : isThread m.owner = true := g
   refine stop_call _ cl146 rfl rfl rfl rfl ⟨rfl, rfl⟩ (fun A w hW => l2Value_c _ w) ?_
   rintro v L ⟨rfl, rfl⟩
   apply CaseB.mk <;> intro g
   rotate_left
   · have q : ¬ (isValue m.value = true) := by simpa using g
     exact ret0 ⟨_, rfl, tno fun e => q (hx.1 e).2.1, rfl⟩ (fun _ => rfl)
   have c2 : isValue m.value = true := g
   exact ret0 ⟨_, rfl, by rw [hx]; simp [c1, c2], rfl⟩ (fun _ => rfl)
 exact ret0 ⟨_, rfl, tno (onceOkN (by simpa using k0) (by simpa using k1) (by simpa using k2)), rfl⟩ (fun _ => rfl)
set_option maxRecDepth 100000 in
theorem groupValidS_c (m : Group) (q : Sl) (w : World) (h : At w [slo q cInt 1 m.waits]) (hb : m.waits.length ≤ 1048576) :
   Calls Tryz.prog 175 #[groupV m q] w (Tells w (GroupOk m)) := by
 refine calls1 Tryz.func175 rfl tabOk w _ rfl _ rfl _ h ⟨rfl, rfl, trivial⟩ _ (by decide) ?_
 refine stop_call _ cl146 rfl rfl rfl rfl ⟨rfl, rfl⟩ (fun A w hW => l2Value_c _ w) ?_
 rintro v L ⟨rfl, rfl⟩
 apply CaseB.mk <;> intro g
 rotate_left
 · have q : ¬ (isValue m.count = true) := by simpa using g
   exact ret0 ⟨_, rfl, tno fun e => q e.1, rfl⟩ (fun _ => rfl)
 have c1 : isValue m.count = true := g
 refine stop_call _ cl194 rfl rfl rfl rfl ⟨rfl, rfl⟩ (fun A w hW => l2Waits_c q m.waits w ⟨z37, trivial⟩ (by omega)) ?_
 rintro v L ⟨rfl, rfl⟩
 apply CaseB.mk <;> intro g
 rotate_left
 · have q : ¬ (distinct m.waits = true) := by simpa using g
   exact ret0 ⟨_, rfl, tno fun e => q e.2.1, rfl⟩ (fun _ => rfl)
 have c2 : distinct m.waits = true := g
 apply CaseB.mk <;> intro g
 · have c3 : 0 < m.count := by have g' := of_decide_eq_true g; omega
   exact ret0 ⟨_, rfl, tyes ⟨c1, c2, .inl c3⟩, rfl⟩ (fun _ => rfl)
 · have c3 : ¬ 0 < m.count := by have g' := of_decide_eq_false g; omega
   exact ret0 ⟨_, rfl, by simp [GroupOk, c1, c2, c3], rfl⟩ (fun _ => rfl)
set_option maxRecDepth 100000 in
theorem barrierValidS_c (m : Barrier) (q : Sl) (w : World) (h : At w [slo q cInt 1 m.waits]) (hb : m.waits.length ≤ 1048576) :
   Calls Tryz.prog 176 #[barrierV m q] w (Tells w (BarrierOk m)) := by
 refine calls1 Tryz.func176 rfl tabOk w _ rfl _ rfl _ h ⟨rfl, rfl, trivial⟩ _ (by decide) ?_
 apply CaseB.mk <;> intro g
 rotate_left
 · have q : ¬ (1 ≤ m.parties) := by have g' := of_decide_eq_false g; omega
   exact ret0 ⟨_, rfl, tno fun e => q e.1, rfl⟩ (fun _ => rfl)
 have c1 : 1 ≤ m.parties := by have g' := of_decide_eq_true g; omega
 apply CaseB.mk <;> intro g
 rotate_left
 · have q : ¬ (m.parties ≤ 6) := by have g' := of_decide_eq_false g; omega
   exact ret0 ⟨_, rfl, tno fun e => q e.2.1, rfl⟩ (fun _ => rfl)
 have c2 : m.parties ≤ 6 := by have g' := of_decide_eq_true g; omega
 apply CaseB.mk <;> intro g
 rotate_left
 · have q : ¬ (0 ≤ m.round) := by have g' := of_decide_eq_false g; omega
   exact ret0 ⟨_, rfl, tno fun e => q e.2.2.1, rfl⟩ (fun _ => rfl)
 have c3 : 0 ≤ m.round := by have g' := of_decide_eq_true g; omega
 apply CaseB.mk <;> intro g
 rotate_left
 · have q : ¬ (m.round ≤ 9999) := by have g' := of_decide_eq_false g; omega
   exact ret0 ⟨_, rfl, tno fun e => q e.2.2.2.1, rfl⟩ (fun _ => rfl)
 have c4 : m.round ≤ 9999 := by have g' := of_decide_eq_true g; omega
 refine stop_call _ cl194 rfl rfl rfl rfl ⟨rfl, rfl⟩ (fun A w hW => l2Waits_c q m.waits w ⟨z37, trivial⟩ (by omega)) ?_
 rintro v L ⟨rfl, rfl⟩
 apply CaseB.mk <;> intro g
 rotate_left
 · have q : ¬ (distinct m.waits = true) := by simpa using g
   exact ret0 ⟨_, rfl, tno fun e => q e.2.2.2.2.2, rfl⟩ (fun _ => rfl)
 have c6 : distinct m.waits = true := g
 exact ret0 ⟨_, rfl, by simp [BarrierOk, c1, c2, c3, c4, c6], rfl⟩ (fun _ => rfl)
set_option maxHeartbeats 4000000 in
set_option maxRecDepth 100000 in
theorem semValidS_c (m : Sem) (q : Sl) (w : World) (h : At w [slo q cWaiter 2 m.queue]) (hb : m.queue.length ≤ 1048576) :
   Calls Tryz.prog 169 #[semV m q] w (Tells w (SemOk m)) := by
 refine calls1 Tryz.func169 rfl tabOk w _ rfl _ rfl _ h ⟨rfl, rfl, trivial⟩ _ (by decide) ?_
 apply CaseB.mk <;> intro g
 · have q : ¬ (1 ≤ m.limit) := by have g' := of_decide_eq_true g; omega
   exact ret0 ⟨_, rfl, tno fun e => q e.l1, rfl⟩ (fun _ => rfl)
 have c1 : 1 ≤ m.limit := by have g' := of_decide_eq_false g; omega
 apply CaseB.mk <;> intro g
 · have q : ¬ (m.limit ≤ 9) := by have g' := of_decide_eq_true g; omega
   exact ret0 ⟨_, rfl, tno fun e => q e.l9, rfl⟩ (fun _ => rfl)
 have c2 : m.limit ≤ 9 := by have g' := of_decide_eq_false g; omega
 apply CaseB.mk <;> intro g
 · have q : ¬ (0 ≤ m.free) := by have g' := of_decide_eq_true g; omega
   exact ret0 ⟨_, rfl, tno fun e => q e.f0, rfl⟩ (fun _ => rfl)
 have c3 : 0 ≤ m.free := by have g' := of_decide_eq_false g; omega
 apply CaseB.mk <;> intro g
 · have q : ¬ (m.free ≤ m.limit) := by have g' := of_decide_eq_true g; omega
   exact ret0 ⟨_, rfl, tno fun e => q e.fl, rfl⟩ (fun _ => rfl)
 have c4 : m.free ≤ m.limit := by have g' := of_decide_eq_false g; omega
 apply CaseB.mk <;> intro g
 · have q : ¬ (m.queue.length ≤ 6) := by have g' := of_decide_eq_true g; omega
   exact ret0 ⟨_, rfl, tno fun e => q e.q6, rfl⟩ (fun _ => rfl)
 have c5 : m.queue.length ≤ 6 := by have g' := of_decide_eq_false g; omega
 refine LoopW.mk ⟨{ k : Nat // k ≤ m.queue.length ∧ (∀ w ∈ m.queue.take k, 1 ≤ w.n ∧ w.n ≤ m.limit) ∧ distinct ((m.queue.map (·.t)).take k) = true },
   fun p => .mk [(1, .p 0 0), (3, .v (.int .i64 (p.1 : Int)))] 1 0 [(0, 95, 3)] [((0, 0), .v (.int .i64 m.free)), ((0, 1), .v (.int .i64 m.limit)), ((0, 2), .v (q.val m.queue.length))] [slo q cWaiter 2 m.queue],
   fun p => m.queue.length - p.1, ⟨0, Nat.zero_le _, by simp, by simp [distinct]⟩, ?_, ?_⟩
 · exact weak_mk [0] zw2 zw0 zw2 zw5 zw4 rfl rfl
 rintro ⟨k, hk, hinv, hdi⟩
 apply CaseB.mk <;> intro g
 · have hlt : k < m.queue.length := by simpa using g
   have hltm : k < (m.queue.map (·.t)).length := by simpa using hlt
   have hw := wrapN k _ hlt (by omega)
   have hsub : distinct (m.queue.map (·.t)) = true → isThread (m.queue[k]).t = true ∧ (m.queue[k]).t ∉ (m.queue.map (·.t)).take k := fun e => by
     simp only [distinct, decide_eq_true_eq] at e
     refine ⟨e.2 _ (List.mem_map_of_mem (List.getElem_mem hlt)), fun hm => ?_⟩
     have hn := e.1
     rw [← List.take_append_drop k (m.queue.map (·.t)), List.nodup_append] at hn
     refine hn.2.2 _ hm _ ?_ rfl
     rw [List.drop_eq_getElem_cons hltm]
     simp
   refine stop_idx encWaiter tabOk rfl rfl rfl rfl rfl ⟨rfl, rfl⟩ (rdAt 0 rfl) k rfl z45 (fun ad => ?_)
   refine stop_call _ cl170 rfl rfl rfl rfl ⟨rfl, rfl⟩ (fun A w hW => l1Thread_c _ w) ?_
   rintro v L ⟨rfl, rfl⟩
   apply CaseB.mk <;> intro g
   · exact ret0 ⟨_, rfl, tno fun e => (by rw [(hsub e.dis).1] at g; cases g), rfl⟩ (fun _ => rfl)
   have d0 : isThread (m.queue[k]).t = true := by simpa using g
   apply CaseB.mk <;> intro g
   · have q : ¬ (1 ≤ (m.queue[k]).n) := by have g' := of_decide_eq_true g; omega
     exact ret0 ⟨_, rfl, tno fun e => q (e.cnt _ (List.getElem_mem hlt)).1, rfl⟩ (fun _ => rfl)
   have d1 : 1 ≤ (m.queue[k]).n := by have g' := of_decide_eq_false g; omega
   apply CaseB.mk <;> intro g
   · have q : ¬ ((m.queue[k]).n ≤ m.limit) := by have g' := of_decide_eq_true g; omega
     exact ret0 ⟨_, rfl, tno fun e => q (e.cnt _ (List.getElem_mem hlt)).2, rfl⟩ (fun _ => rfl)
   have d2 : (m.queue[k]).n ≤ m.limit := by have g' := of_decide_eq_false g; omega
   refine LoopW.mk ⟨{ j : Nat // j ≤ k ∧ (m.queue[k]).t ∉ (m.queue.map (·.t)).take j },
     fun j => .mk [(1, .p 0 0), (3, .v (.int .i64 (k : Int))), (4, .p 1 0), (5, .v (.int .i64 (j.1 : Int)))] 2 0 [(0, 95, 3), (1, 184, 2)] [((0, 0), .v (.int .i64 m.free)), ((0, 1), .v (.int .i64 m.limit)), ((0, 2), .v (q.val m.queue.length)), ((1, 0), .v (.int .i64 (m.queue[k]).t))] [slo q cWaiter 2 m.queue],
     fun j => k - j.1, ⟨0, Nat.zero_le _, by simp⟩, ?_, ?_⟩
   · exact weak_mk [0] zw2 zw0 zw2 zw5 zw4 rfl rfl
   rintro ⟨j, hj, hnm⟩
   apply CaseB.mk <;> intro g
   · have hlj : j < k := by simpa using g
     have hlj2 : j < m.queue.length := by omega
     have hwj := wrapN j k hlj (by omega)
     refine draw_start tabOk z97 z97 z97 200 [((0, 0), .v (.int .i64 m.free)), ((0, 1), .v (.int .i64 m.limit)), ((0, 2), .v (q.val m.queue.length)), ((1, 0), .v (.int .i64 (m.queue[k]).t))] [0] [_] z119 z134 ⟨rfl, trivial⟩ rfl ?_
     refine d_idx (ti := tiOf tab) encWaiter tabOk rfl rfl rfl rfl rfl ⟨rfl, rfl⟩ (rdAt 0 rfl) j rfl z45 (fun ad2 => ?_)
     apply CaseB.mk <;> intro g
     · have q : (m.queue[j]).t = (m.queue[k]).t := by simpa using g
       refine ret0 ⟨_, rfl, tno fun e => (hsub e.dis).2 ?_, rfl⟩ (fun _ => rfl)
       rw [← q, List.mem_take_iff_getElem]
       exact ⟨j, by simp; omega, by simp⟩
     · have q : ¬ (m.queue[j]).t = (m.queue[k]).t := by simpa using g
       refine ⟨⟨j + 1, by omega, ?_⟩, ?_, by simp only; omega⟩
       · rw [List.take_succ_eq_append_getElem (by simpa using hlj2)]
         simp only [List.mem_append, List.mem_singleton, List.getElem_map, not_or]
         exact ⟨hnm, fun e => q e.symm⟩
       · exact weak_mk [0] zw6 zw0 zw6 zw5 zw11 rfl rfl
   have hjk : j = k := by have : ¬ (j : Int) < k := by simpa using g
                          omega
   subst hjk
   refine ⟨⟨j + 1, by omega, fun x hx => ?_, ?_⟩, ?_, by simp only; omega⟩
   · rw [List.take_succ_eq_append_getElem hlt] at hx
     rcases List.mem_append.1 hx with hx | hx
     · exact hinv x hx
     · simp at hx; subst hx; exact ⟨d1, d2⟩
   · rw [List.take_succ_eq_append_getElem hltm]
     simp only [distinct, decide_eq_true_eq] at hdi ⊢
     refine ⟨?_, fun x hx => ?_⟩
     · rw [List.nodup_append]
       refine ⟨hdi.1, by simp, fun a ha b hb => ?_⟩
       simp at hb; subst hb
       rintro rfl
       exact hnm ha
     · rcases List.mem_append.1 hx with hx | hx
       · exact hdi.2 x hx
       · simp at hx; subst hx; exact d0
   · exact weak_mk [0] zw1 zw0 zw1 zw5 zw3 rfl rfl
 have hge : m.queue.length ≤ k := by simpa using g
 rw [List.take_of_length_le hge] at hinv
 rw [List.take_of_length_le z90] at hdi
 refine draw_start tabOk z97 z97 z97 200 [((0, 0), .v (.int .i64 m.free)), ((0, 1), .v (.int .i64 m.limit)), ((0, 2), .v (q.val m.queue.length))] [0] [_] z126 z138 ⟨rfl, trivial⟩ rfl ?_
 apply CaseB.mk <;> intro g
 · have c7 : m.queue = [] := by simpa using g
   exact ret0 ⟨_, rfl, tyes ⟨c1, c2, c3, c4, c5, hinv, hdi, by rw [c7]; simp⟩, rfl⟩ (fun _ => rfl)
 have c7 : 0 < m.queue.length := by have g' : ¬ m.queue = [] := by simpa using g
                                    exact List.length_pos_iff.2 g'
 refine d_idx (ti := tiOf tab) encWaiter tabOk rfl rfl rfl rfl rfl ⟨rfl, rfl⟩ (rdAt 0 rfl) 0 rfl z45 (fun ad => ?_)
 refine ret0 ⟨_, rfl, ?_, rfl⟩ (fun _ => rfl)
 have hh : ∀ w, m.queue[0]? = some w → w = m.queue[0] := fun w hw => by rw [List.getElem?_eq_getElem c7] at hw; injection hw with hw; exact hw.symm
 constructor
 · intro g
   have g' := of_decide_eq_true g
   exact ⟨c1, c2, c3, c4, c5, hinv, hdi, fun w hw => by rw [hh w hw]; omega⟩
 · intro e
   have := e.hd _ (List.getElem?_eq_getElem c7)
   exact decide_eq_true (by omega)
def l6Words : List ByteArray := [⟨#[]⟩, ⟨#[115, 97, 121]⟩, ⟨#[97, 99, 113, 117, 105, 114, 101]⟩, ⟨#[114, 101, 108, 101, 97, 115, 101]⟩, ⟨#[111, 110, 99, 101]⟩, ⟨#[97, 100, 100]⟩, ⟨#[119, 97, 105, 116]⟩, ⟨#[97, 114, 114, 105, 118, 101]⟩, ⟨#[115, 101, 110, 100]⟩, ⟨#[103, 101, 116]⟩, ⟨#[99, 108, 111, 115, 101]⟩]
def cStr (b : ByteArray) : List Value := [.string b]
theorem encStr : Enc cStr 1 := ⟨fun _ => rfl, fun _ u hu => by simp [cStr] at hu; subst hu; rfl⟩
def wordOf (k : Int) : ByteArray := if 1 ≤ k ∧ k ≤ 10 then l6Words.getD k.toNat ⟨#[]⟩ else ⟨#[]⟩
theorem wordOf_empty (k : Int) : ((wordOf k).toList == (⟨#[]⟩ : ByteArray).toList) = true ↔ ¬ (1 ≤ k ∧ k ≤ 10) := by
 unfold wordOf
 by_cases h : 1 ≤ k ∧ k ≤ 10
 · rw [if_pos h]
   have : k = 1 ∨ k = 2 ∨ k = 3 ∨ k = 4 ∨ k = 5 ∨ k = 6 ∨ k = 7 ∨ k = 8 ∨ k = 9 ∨ k = 10 := by omega
   simp only [h, and_self, not_true_eq_false, iff_false]
   rw [← beq_toListBytes]
   rcases this with rfl | rfl | rfl | rfl | rfl | rfl | rfl | rfl | rfl | rfl <;> decide
 · rw [if_neg h]
   simp [h]
set_option maxHeartbeats 4000000 in
set_option maxRecDepth 100000 in
theorem l6Word_c (k : Int) (w : World) : Calls Tryz.prog 189 #[.int .i64 k] w (Ret w fun v L => v = .string (wordOf k) ∧ L = []) := by
 refine calls1 Tryz.func189 rfl tabOk w _ rfl _ rfl [] trivial trivial _ (by decide) ?_
 refine AllSl.mk fun y => ?_
 apply CaseB.mk <;> intro g
 · have q : ¬ (1 ≤ k ∧ k ≤ 10) := by simp at g; omega
   exact ret0 ⟨by rw [wordOf, if_neg q], rfl⟩ (fun _ => rfl)
 refine CaseB.mk (fun g2 => ?_) (fun g2 => ?_)
 · have q : ¬ (1 ≤ k ∧ k ≤ 10) := by simp at g2; omega
   exact ret0 ⟨by rw [wordOf, if_neg q], rfl⟩ (fun _ => rfl)
 have q : 1 ≤ k ∧ k ≤ 10 := by simp at g g2; omega
 have hlt : k.toNat < l6Words.length := by show k.toNat < 11; omega
 refine stop_idx encStr (xs := l6Words) tabOk rfl rfl rfl rfl rfl ⟨rfl, rfl⟩ (rdOwnAt 0 rfl) k.toNat (by omega) hlt (fun ad => ?_)
 exact ret0 ⟨by rw [wordOf, if_pos q]; simp [List.getD, hlt], rfl⟩ (fun _ => rfl)
set_option maxRecDepth 100000 in
theorem l6Numbers_c (i : Sl) (xs : List Int) (lo hi : Int) (w : World) (h : At w [slo i cInt 1 xs]) (hb : xs.length ≤ 4294967296) :
   Calls Tryz.prog 158 #[i.val xs.length, .int .i64 lo, .int .i64 hi] w (Tells w (within xs lo hi)) := by
 refine calls3 Tryz.func158 rfl tabOk w _ rfl _ rfl _ h ⟨rfl, rfl, trivial⟩ _ _ _ (by decide) ?_
 refine LoopW.mk ⟨{ k : Nat // k ≤ xs.length ∧ k ≤ 4 ∧ ∀ x ∈ xs.take k, lo ≤ x ∧ x ≤ hi },
   fun k => .mk [(0, .v (i.val xs.length)), (1, .v (.int .i64 lo)), (2, .v (.int .i64 hi)), (7, .v (.int .i64 (k.1 : Int)))] 0 0 [] [] [slo i cInt 1 xs],
   fun k => xs.length - k.1, ⟨0, Nat.zero_le _, by omega, by simp⟩, ?_, ?_⟩
 · exact weak_mk [0] zw2 zw0 zw2 zw5 zw4 rfl rfl
 rintro ⟨k, hk, h4, hinv⟩
 apply CaseB.mk <;> intro g
 · have hlt : k < xs.length := by simpa using g
   apply CaseB.mk <;> intro g
   · have h3 : k ≤ 3 := by simp at g; omega
     refine stop_idx encInt tabOk rfl rfl rfl rfl rfl ⟨rfl, rfl⟩ z38 k rfl z45 (fun ad => ?_)
     apply CaseB.mk <;> intro g
     · have q : xs[k] < lo := by simpa using g
       exact ret0 ⟨_, rfl, tno fun e => by have := (e.2 _ (List.getElem_mem hlt)).1; omega, rfl⟩ (fun _ => rfl)
     have q1 : ¬ xs[k] < lo := by simpa using g
     refine stop_idx encInt tabOk rfl rfl rfl rfl rfl ⟨rfl, rfl⟩ z38 k rfl z45 (fun ad2 => ?_)
     apply CaseB.mk <;> intro g
     · have q : hi < xs[k] := by simpa using g
       exact ret0 ⟨_, rfl, tno fun e => by have := (e.2 _ (List.getElem_mem hlt)).2; omega, rfl⟩ (fun _ => rfl)
     have q2 : ¬ hi < xs[k] := by simpa using g
     have hw := e_succ k _ hlt (by omega)
     refine ⟨⟨k + 1, by omega, by omega, fun x hx => ?_⟩, ?_, by simp; omega⟩
     · rw [List.take_succ_eq_append_getElem hlt] at hx
       rcases List.mem_append.1 hx with hx | hx
       · exact hinv x hx
       · simp at hx; subst hx; omega
     · exact weak_mk [0] zw1 zw0 zw1 zw5 zw3 rfl rfl
   · have h3 : ¬ k ≤ 3 := by simp at g; omega
     have : ¬ xs.length ≤ 3 := by omega
     exact ret0 ⟨_, rfl, by simp [within]; omega, rfl⟩ (fun _ => rfl)
 · have hge : xs.length ≤ k := by simpa using g
   rw [List.take_of_length_le hge] at hinv
   refine ret0 ⟨_, rfl, ?_, rfl⟩ (fun _ => rfl)
   simp only [within, decide_eq_true_eq]
   exact ⟨fun e => ⟨by omega, hinv⟩, fun e => by have := e.1; omega⟩
set_option maxRecDepth 100000 in
theorem l6Shared_c (p : ProgH) (k : Int) (w : World) : Calls Tryz.prog 190 #[progV p, .int .i64 k] w (Ret w fun v L => v = .int .i64 (p.pure.shared k) ∧ L = []) := by
 have t : p.pure.sems = p.sems ∧ p.pure.groups = p.groups ∧ p.pure.barriers = p.barriers ∧ p.pure.rooms = p.rooms := ⟨rfl, rfl, rfl, rfl⟩
 refine calls2 Tryz.func190 rfl tabOk w _ rfl _ rfl [] trivial trivial _ _ (by decide) ?_
 refine CaseB.mk (fun k1 => ?_) (fun k1 => ?_)
 · have q1 : k = 1 := by simpa using k1
   exact ret0 ⟨by simp [Prog.shared, q1], rfl⟩ (fun _ => rfl)
 have q1 : ¬ k = 1 := by simpa using k1
 refine CaseB.mk (fun k2 => ?_) (fun k2 => ?_)
 · have q2 : k = 2 := by simpa using k2
   refine CaseB.mk (fun _ => ?_) (fun g => by rw [k2] at g; cases g)
   exact ret0 ⟨by simp [Prog.shared, t, q2], rfl⟩ (fun _ => rfl)
 have q2 : ¬ k = 2 := by simpa using k2
 refine CaseB.mk (fun k3 => ?_) (fun k3 => ?_)
 · have q3 : k = 3 := by simpa using k3
   exact ret0 ⟨by simp [Prog.shared, t, q3], rfl⟩ (fun _ => rfl)
 have q3 : ¬ k = 3 := by simpa using k3
 refine CaseB.mk (fun k4 => ?_) (fun k4 => ?_)
 · have q4 : k = 4 := by simpa using k4
   exact ret0 ⟨by simp [Prog.shared, q4], rfl⟩ (fun _ => rfl)
 have q4 : ¬ k = 4 := by simpa using k4
 refine CaseB.mk (fun k5 => ?_) (fun k5 => ?_)
 · have q5 : k = 5 := by simpa using k5
   refine CaseB.mk (fun _ => ?_) (fun g => by rw [k5] at g; cases g)
   exact ret0 ⟨by simp [Prog.shared, t, q5], rfl⟩ (fun _ => rfl)
 have q5 : ¬ k = 5 := by simpa using k5
 refine CaseB.mk (fun k6 => ?_) (fun k6 => ?_)
 · have q6 : k = 6 := by simpa using k6
   exact ret0 ⟨by simp [Prog.shared, t, q6], rfl⟩ (fun _ => rfl)
 have q6 : ¬ k = 6 := by simpa using k6
 refine CaseB.mk (fun k7 => ?_) (fun k7 => ?_)
 · have q7 : k = 7 := by simpa using k7
   exact ret0 ⟨by simp [Prog.shared, t, q7], rfl⟩ (fun _ => rfl)
 have q7 : ¬ k = 7 := by simpa using k7
 exact ret0 ⟨by simp [Prog.shared, t, q1, q2, q3, q4, q5, q6, q7], rfl⟩ (fun _ => rfl)
set_option maxRecDepth 100000 in
theorem l6Arg_c (p : ProgH) (o : Op) (w : World) (h : At w [fR (progO p)]) (h0 : 0 ≤ o.on) (h1 : o.on < p.pure.shared o.kind) :
   Calls Tryz.prog 191 #[progV p, .agg (cOp o).toArray] w (Tells w (p.pure.argOk o)) := by
 refine calls2 Tryz.func191 rfl tabOk w _ rfl _ rfl _ h ⟨rfl, rfl, trivial⟩ _ _ (by decide) ?_
 refine CaseB.mk (fun k2 => ?_) (fun k2 => ?_)
 · refine CaseB.mk (fun _ => ?_) (fun g => by rw [k2] at g; cases g)
   have q : o.kind = 2 := by simpa using k2
   have hs : o.on < (p.sems.length : Int) := by simpa [Prog.shared, q, ProgH.pure] using h1
   have hlt : o.on.toNat < p.sems.length := by omega
   have e : p.pure.sems.getD o.on.toNat 0 = p.sems[o.on.toNat] := by simp [ProgH.pure, List.getD, hlt]
   have hx : p.pure.argOk o ↔ 1 ≤ o.arg ∧ o.arg ≤ p.sems[o.on.toNat] := by rw [← e]; simp [Prog.argOk, q]
   refine draw_start tabOk z97 z97 z97 200 [((0, 0), .v (p.h0.val p.sems.length)), ((1, 0), .v (.int .i64 o.kind)), ((1, 1), .v (.int .i64 o.on)), ((1, 2), .v (.int .i64 o.arg))] [0] [_] z119 z134 ⟨rfl, trivial⟩ rfl ?_
   apply CaseB.mk <;> intro g
   · have c : 1 ≤ o.arg := by simp at g; omega
     refine d_idx (ti := tiOf tab) encInt tabOk rfl rfl rfl rfl rfl ⟨rfl, rfl⟩ (rdVia 0 rfl (.ofR (progO_sems p))) o.on.toNat (by omega) z45 (fun ad => ?_)
     exact ret0 ⟨_, rfl, by rw [hx]; simp [c], rfl⟩ (fun _ => rfl)
   · have c : ¬ 1 ≤ o.arg := by simp at g; omega
     exact ret0 ⟨_, rfl, tno fun e => c (hx.1 e).1, rfl⟩ (fun _ => rfl)
 refine CaseB.mk (fun k3 => ?_) (fun k3 => ?_)
 · skip
   have q : o.kind = 3 := by simpa using k3
   have hs : o.on < (p.sems.length : Int) := by simpa [Prog.shared, q, ProgH.pure] using h1
   have hlt : o.on.toNat < p.sems.length := by omega
   have e : p.pure.sems.getD o.on.toNat 0 = p.sems[o.on.toNat] := by simp [ProgH.pure, List.getD, hlt]
   have hx : p.pure.argOk o ↔ 1 ≤ o.arg ∧ o.arg ≤ p.sems[o.on.toNat] := by rw [← e]; simp [Prog.argOk, q]
   refine draw_start tabOk z97 z97 z97 200 [((0, 0), .v (p.h0.val p.sems.length)), ((1, 0), .v (.int .i64 o.kind)), ((1, 1), .v (.int .i64 o.on)), ((1, 2), .v (.int .i64 o.arg))] [0] [_] z119 z134 ⟨rfl, trivial⟩ rfl ?_
   apply CaseB.mk <;> intro g
   · have c : 1 ≤ o.arg := by simp at g; omega
     refine d_idx (ti := tiOf tab) encInt tabOk rfl rfl rfl rfl rfl ⟨rfl, rfl⟩ (rdVia 0 rfl (.ofR (progO_sems p))) o.on.toNat (by omega) z45 (fun ad => ?_)
     exact ret0 ⟨_, rfl, by rw [hx]; simp [c], rfl⟩ (fun _ => rfl)
   · have c : ¬ 1 ≤ o.arg := by simp at g; omega
     exact ret0 ⟨_, rfl, tno fun e => c (hx.1 e).1, rfl⟩ (fun _ => rfl)
 have n2 : ¬ o.kind = 2 := by simpa using k2
 have n3 : ¬ o.kind = 3 := by simpa using k3
 refine CaseB.mk (fun k5 => ?_) (fun k5 => ?_)
 · have q : o.kind = 5 := by simpa using k5
   have hx : p.pure.argOk o ↔ -9 ≤ o.arg ∧ o.arg ≤ 9 := by simp [Prog.argOk, q]
   apply CaseB.mk <;> intro g
   · have c : -9 ≤ o.arg := by simp at g; omega
     exact ret0 ⟨_, rfl, by rw [hx]; simp [c], rfl⟩ (fun _ => rfl)
   · have c : ¬ -9 ≤ o.arg := by simp at g; omega
     exact ret0 ⟨_, rfl, tno fun e => c (hx.1 e).1, rfl⟩ (fun _ => rfl)
 have n5 : ¬ o.kind = 5 := by simpa using k5
 refine CaseB.mk (fun k1 => ?_) (fun k1 => ?_)
 · have q : o.kind = 1 := by simpa using k1
   have hx : p.pure.argOk o ↔ isValue o.arg = true := by simp [Prog.argOk, q]
   refine CaseB.mk (fun _ => ?_) (fun g => by rw [k1] at g; cases g)
   refine stop_call _ cl146 rfl rfl rfl rfl ⟨rfl, rfl⟩ (fun A w hW => l2Value_c _ w) ?_
   rintro v L ⟨rfl, rfl⟩
   exact ret0 ⟨_, rfl, by rw [hx], rfl⟩ (fun _ => rfl)
 have n1 : ¬ o.kind = 1 := by simpa using k1
 refine CaseB.mk (fun k4 => ?_) (fun k4 => ?_)
 · have q : o.kind = 4 := by simpa using k4
   have hx : p.pure.argOk o ↔ isValue o.arg = true := by simp [Prog.argOk, q]
   refine CaseB.mk (fun _ => ?_) (fun g => by rw [k4] at g; cases g)
   refine stop_call _ cl146 rfl rfl rfl rfl ⟨rfl, rfl⟩ (fun A w hW => l2Value_c _ w) ?_
   rintro v L ⟨rfl, rfl⟩
   exact ret0 ⟨_, rfl, by rw [hx], rfl⟩ (fun _ => rfl)
 have n4 : ¬ o.kind = 4 := by simpa using k4
 refine CaseB.mk (fun k8 => ?_) (fun k8 => ?_)
 · have q : o.kind = 8 := by simpa using k8
   have hx : p.pure.argOk o ↔ isValue o.arg = true := by simp [Prog.argOk, q]
   refine stop_call _ cl146 rfl rfl rfl rfl ⟨rfl, rfl⟩ (fun A w hW => l2Value_c _ w) ?_
   rintro v L ⟨rfl, rfl⟩
   exact ret0 ⟨_, rfl, by rw [hx], rfl⟩ (fun _ => rfl)
 have n8 : ¬ o.kind = 8 := by simpa using k8
 have hx : p.pure.argOk o ↔ o.arg = 0 := by simp [Prog.argOk, n1, n2, n3, n4, n5, n8]
 exact ret0 ⟨_, rfl, by rw [hx]; simp, rfl⟩ (fun _ => rfl)
set_option maxHeartbeats 4000000 in
set_option maxRecDepth 100000 in
theorem opValidS_c (p : ProgH) (o : Op) (w : World) (h : At w [fR (progO p)]) :
   Calls Tryz.prog 157 #[progV p, .agg (cOp o).toArray] w (Tells w (OpOk p.pure o)) := by
 refine calls2 Tryz.func157 rfl tabOk w _ rfl _ rfl _ h ⟨rfl, rfl, trivial⟩ _ _ (by decide) ?_
 refine draw_start tabOk z97 z97 z97 200 [((0, 0), .v (p.h0.val p.sems.length)), ((0, 1), .v (p.h1.val p.groups.length)), ((0, 2), .v (p.h2.val p.barriers.length)), ((0, 3), .v (p.h3.val p.rooms.length)), ((0, 4), .v (p.h4.val p.threads.length)), ((1, 0), .v (.int .i64 o.kind)), ((1, 1), .v (.int .i64 o.on)), ((1, 2), .v (.int .i64 o.arg))] [0] [_] ⟨⟨_, rfl, rfl, z78⟩, ⟨_, rfl, rfl, z78⟩, ⟨_, rfl, rfl, z78⟩, ⟨_, rfl, rfl, z78⟩, ⟨_, rfl, rfl, z78⟩, ⟨_, rfl, rfl, z78⟩, ⟨_, rfl, rfl, z78⟩, ⟨_, rfl, rfl, z78⟩, trivial⟩ ⟨⟨_, rfl⟩, ⟨_, rfl⟩, ⟨_, rfl⟩, ⟨_, rfl⟩, ⟨_, rfl⟩, ⟨_, rfl⟩, ⟨_, rfl⟩, ⟨_, rfl⟩, trivial⟩ ⟨rfl, trivial⟩ rfl ?_
 refine d_call _ cl189 rfl rfl rfl rfl ⟨rfl, rfl⟩ (fun A w hW => l6Word_c _ w) ?_
 rintro v L ⟨rfl, rfl⟩
 refine d_bin rfl rfl rfl ⟨rfl, rfl⟩ (.bool ((wordOf o.kind).toList == (⟨#[]⟩ : ByteArray).toList)) (fun w => (eqGuard_str w)) (fun w => (eql_str w)) ?_
 apply CaseB.mk <;> intro g
 · have q := (wordOf_empty o.kind).1 g
   exact ret0 ⟨_, rfl, tno fun e => q ⟨e.1, e.2.1⟩, rfl⟩ (fun _ => rfl)
 have q : 1 ≤ o.kind ∧ o.kind ≤ 10 := by
   refine Classical.byContradiction fun n => ?_
   rw [(wordOf_empty o.kind).2 n] at g
   cases g
 apply CaseB.mk <;> intro g
 · have c : ¬ 0 ≤ o.on := by simp at g; omega
   exact ret0 ⟨_, rfl, tno fun e => c e.2.2.1, rfl⟩ (fun _ => rfl)
 have c0 : 0 ≤ o.on := by simp at g; omega
 refine d_call _ cl190 rfl rfl rfl rfl ⟨rfl, rfl⟩ (fun A w hW => l6Shared_c p _ w) ?_
 rintro v L ⟨rfl, rfl⟩
 apply CaseB.mk <;> intro g
 · have c : ¬ o.on < p.pure.shared o.kind := by simp at g; omega
   exact ret0 ⟨_, rfl, tno fun e => c e.2.2.2.1, rfl⟩ (fun _ => rfl)
 have c1 : o.on < p.pure.shared o.kind := by simp at g; omega
 refine stop_call _ cl191 rfl rfl rfl rfl ⟨rfl, rfl⟩ (fun A w hW => l6Arg_c p o w ⟨hW.get 0 rfl (.refl _), trivial⟩ c0 c1) ?_
 rintro v L ⟨b, rfl, hb, rfl⟩
 exact ret0 ⟨_, rfl, by rw [hb]; simp [OpOk, q, c0, c1], rfl⟩ (fun _ => rfl)
set_option maxHeartbeats 16000000 in
set_option maxRecDepth 100000 in
theorem progValidS_c (p : ProgH) (w : World) (h : At w [fR (progO p)]) (hs : p.sems.length ≤ 1048576 ∧ p.groups.length ≤ 1048576 ∧ p.barriers.length ≤ 1048576 ∧ p.rooms.length ≤ 1048576) :
   Calls Tryz.prog 106 #[progV p] w (Tells w (ProgOk p.pure)) := by
 refine calls1 Tryz.func106 rfl tabOk w _ rfl _ rfl _ h ⟨rfl, rfl, trivial⟩ _ (by decide) ?_
 refine stop_call _ cl158 rfl rfl rfl rfl ⟨rfl, rfl⟩ (fun A w hW => l6Numbers_c p.h0 p.sems 1 9 w ⟨hW.get 0 rfl (.ofR (progO_sems p)), trivial⟩ (by omega)) ?_
 rintro v L ⟨b0, rfl, hb0, rfl⟩
 apply CaseB.mk <;> intro g
 · exact ret0 ⟨_, rfl, tno fun e => (by have := hb0.2 e.sems; rw [this] at g; cases g), rfl⟩ (fun _ => rfl)
 have w0 := hb0.1 z94
 refine stop_call _ cl158 rfl rfl rfl rfl ⟨rfl, rfl⟩ (fun A w hW => l6Numbers_c p.h1 p.groups 0 9 w ⟨hW.get 0 rfl (.ofR (progO_groups p)), trivial⟩ (by omega)) ?_
 rintro v L ⟨b1, rfl, hb1, rfl⟩
 apply CaseB.mk <;> intro g
 · exact ret0 ⟨_, rfl, tno fun e => (by have := hb1.2 e.groups; rw [this] at g; cases g), rfl⟩ (fun _ => rfl)
 have w1 := hb1.1 z94
 refine stop_call _ cl158 rfl rfl rfl rfl ⟨rfl, rfl⟩ (fun A w hW => l6Numbers_c p.h2 p.barriers 1 6 w ⟨hW.get 0 rfl (.ofR (progO_barriers p)), trivial⟩ (by omega)) ?_
 rintro v L ⟨b2, rfl, hb2, rfl⟩
 apply CaseB.mk <;> intro g
 · exact ret0 ⟨_, rfl, tno fun e => (by have := hb2.2 e.barriers; rw [this] at g; cases g), rfl⟩ (fun _ => rfl)
 have w2 := hb2.1 z94
 refine stop_call _ cl158 rfl rfl rfl rfl ⟨rfl, rfl⟩ (fun A w hW => l6Numbers_c p.h3 p.rooms 0 4 w ⟨hW.get 0 rfl (.ofR (progO_rooms p)), trivial⟩ (by omega)) ?_
 rintro v L ⟨b3, rfl, hb3, rfl⟩
 apply CaseB.mk <;> intro g
 · exact ret0 ⟨_, rfl, tno fun e => (by have := hb3.2 e.rooms; rw [this] at g; cases g), rfl⟩ (fun _ => rfl)
 have w3 := hb3.1 z94
 have hlen : p.pure.threads.length = p.threads.length := by simp [ProgH.pure]
 apply CaseB.mk <;> intro g
 · have q : ¬ 1 ≤ p.threads.length := by have g' := of_decide_eq_true g; omega
   exact ret0 ⟨_, rfl, tno fun e => q (hlen ▸ e.n1), rfl⟩ (fun _ => rfl)
 have n1 : 1 ≤ p.threads.length := by have g' := of_decide_eq_false g; omega
 apply CaseB.mk <;> intro g
 · have q : ¬ p.threads.length ≤ 4 := by simp at g; omega
   exact ret0 ⟨_, rfl, tno fun e => q (hlen ▸ e.n4), rfl⟩ (fun _ => rfl)
 have n4 : p.threads.length ≤ 4 := by simp at g; omega
 have hmem : ∀ (k : Nat) (hk : k < p.threads.length), (p.threads[k]).m ∈ p.pure.threads := fun k hk => List.mem_map_of_mem (List.getElem_mem hk)
 refine LoopW.mk ⟨{ k : Nat // k ≤ p.threads.length ∧ ∀ t ∈ p.pure.threads.take k, t.length ≤ 8 ∧ ∀ o ∈ t, OpOk p.pure o },
   fun k => .mk [(1, .p 0 0), (3, .v (.int .i64 (k.1 : Int)))] 1 0 [(0, 26, 5)] [((0, 0), .v (p.h0.val p.sems.length)), ((0, 1), .v (p.h1.val p.groups.length)), ((0, 2), .v (p.h2.val p.barriers.length)), ((0, 3), .v (p.h3.val p.rooms.length)), ((0, 4), .v (p.h4.val p.threads.length))] [fR (progO p)],
   fun k => p.threads.length - k.1, ⟨0, Nat.zero_le _, by simp⟩, ?_, ?_⟩
 · exact weak_mk [0] zw2 zw0 zw2 zw5 zw4 rfl rfl
 rintro ⟨k, hk, hinv⟩
 apply CaseB.mk <;> intro g
 · have hlt : k < p.threads.length := by simpa using g
   have hget : p.pure.threads[k]'(by rw [hlen]; exact hlt) = (p.threads[k]).m := by simp [ProgH.pure]
   refine LoopW.mk ⟨{ j : Nat // j ≤ (p.threads[k]).m.length ∧ j ≤ 9 ∧ ∀ o ∈ (p.threads[k]).m.take j, OpOk p.pure o },
     fun j => .mk [(1, .p 0 0), (3, .v (.int .i64 (k : Int))), (4, .v (.int .i64 (j.1 : Int)))] 1 0 [(0, 26, 5)] [((0, 0), .v (p.h0.val p.sems.length)), ((0, 1), .v (p.h1.val p.groups.length)), ((0, 2), .v (p.h2.val p.barriers.length)), ((0, 3), .v (p.h3.val p.rooms.length)), ((0, 4), .v (p.h4.val p.threads.length))] [fR (progO p)],
     fun j => (p.threads[k]).m.length - j.1, ⟨0, Nat.zero_le _, by omega, by simp⟩, ?_, ?_⟩
   · exact weak_mk [0] zw2 zw0 zw2 zw5 zw4 rfl rfl
   rintro ⟨j, hj, h9, hinv2⟩
   refine stop_idx encOpSH tabOk rfl rfl rfl rfl rfl ⟨rfl, rfl⟩ (rdVia 0 rfl (.trans (.R_R (progO_threads p)) (.ofR nest_h))) k rfl z45 (fun ad => ?_)
   have hend : ((p.threads[k]).m.length ≤ 8 → (p.threads[k]).m.length ≤ j) → (p.threads[k]).m.length ≤ 8 → ∀ t ∈ p.pure.threads.take (k + 1), t.length ≤ 8 ∧ ∀ o ∈ t, OpOk p.pure o := fun hge2 n8 t ht => by
     rw [List.take_succ_eq_append_getElem (by rw [hlen]; exact hlt)] at ht
     rcases List.mem_append.1 ht with ht | ht
     · exact hinv t ht
     · simp only [List.mem_singleton] at ht
       rw [hget] at ht
       subst ht
       exact ⟨n8, by rw [List.take_of_length_le (hge2 n8)] at hinv2; exact hinv2⟩
   have hw := e_succ k _ hlt (by omega)
   apply CaseB.mk <;> intro g
   · have hlj : j < (p.threads[k]).m.length := by simpa using g
     apply CaseB.mk <;> intro g
     · have h8 : j ≤ 8 := by simp at g; omega
       refine draw_start tabOk z97 z97 z97 200 [((0, 0), .v (p.h0.val p.sems.length)), ((0, 1), .v (p.h1.val p.groups.length)), ((0, 2), .v (p.h2.val p.barriers.length)), ((0, 3), .v (p.h3.val p.rooms.length)), ((0, 4), .v (p.h4.val p.threads.length))] [0] [_] z113 z130 ⟨rfl, trivial⟩ rfl ?_
       refine d_idx (ti := tiOf tab) encOpSH tabOk rfl rfl rfl rfl rfl ⟨rfl, rfl⟩ (rdVia 0 rfl (.trans (.R_R (progO_threads p)) (.ofR nest_h))) k rfl z45 (fun ad3 => ?_)
       refine d_idx (ti := tiOf tab) encOp tabOk rfl rfl rfl rfl rfl ⟨rfl, rfl⟩ (rdVia 0 rfl (.trans (.R_R (progO_threads p)) (.ofR (threadsO_0 _ _ k hlt)))) j rfl z45 (fun ad2 => ?_)
       refine d_call _ cl157 rfl rfl rfl rfl ⟨rfl, rfl⟩ (fun A w hW => opValidS_c p _ w ⟨hW.get 0 rfl (.refl _), trivial⟩) ?_
       rintro v L ⟨b, rfl, hb, rfl⟩
       apply CaseB.mk <;> intro g
       · exact ret0 ⟨_, rfl, tno fun e => z54, rfl⟩ (fun _ => rfl)
       have hw := e_succ j 9 (by omega) (by omega)
       refine ⟨⟨j + 1, by omega, by omega, fun o ho => ?_⟩, ?_, by simp; omega⟩
       · rw [List.take_succ_eq_append_getElem hlj] at ho
         rcases List.mem_append.1 ho with ho | ho
         · exact hinv2 o ho
         · simp at ho; subst ho; exact hb.1 z94
       · exact weak_mk [0] zw1 zw0 zw1 zw5 zw3 rfl rfl
     · have h8 : ¬ j ≤ 8 := by simp at g; omega
       refine stop_idx encOpSH tabOk rfl rfl rfl rfl rfl ⟨rfl, rfl⟩ (rdVia 0 rfl (.trans (.R_R (progO_threads p)) (.ofR nest_h))) k rfl z45 (fun ad4 => ?_)
       refine CaseB.mk (fun g => ?_) (fun g => by simp at g; omega)
       have q : ¬ (p.threads[k]).m.length ≤ 8 := by omega
       exact ret0 ⟨_, rfl, tno fun e => q (e.ops _ (hmem k hlt)).1, rfl⟩ (fun _ => rfl)
   have hge2 : (p.threads[k]).m.length ≤ j := by simpa using g
   refine stop_idx encOpSH tabOk rfl rfl rfl rfl rfl ⟨rfl, rfl⟩ (rdVia 0 rfl (.trans (.R_R (progO_threads p)) (.ofR nest_h))) k rfl z45 (fun ad4 => ?_)
   apply CaseB.mk <;> intro g
   · have q : ¬ (p.threads[k]).m.length ≤ 8 := by simp at g; omega
     exact ret0 ⟨_, rfl, tno fun e => q (e.ops _ (hmem k hlt)).1, rfl⟩ (fun _ => rfl)
   have n8 : (p.threads[k]).m.length ≤ 8 := by simp at g; omega
   refine ⟨⟨k + 1, by omega, hend (fun _ => hge2) n8⟩, ?_, by simp; omega⟩
   exact weak_mk [0] zw1 zw0 zw1 zw5 zw3 rfl rfl
 have hge : p.threads.length ≤ k := by simpa using g
 refine ret0 ⟨_, rfl, tyes ⟨w0, w1, w2, w3, by rw [hlen]; exact n1, by rw [hlen]; exact n4, fun t ht => ?_⟩, rfl⟩ (fun _ => rfl)
 rw [List.take_of_length_le (by rw [hlen]; exact hge)] at hinv
 exact hinv t ht
structure SharedOk (p : Prog) (s : State) : Prop where
 lsems : s.sems.length = p.sems.length
 lgroups : s.groups.length = p.groups.length
 lbarriers : s.barriers.length = p.barriers.length
 lchans : s.chans.length = p.rooms.length
 lonces : s.onces.length = 3
 sems : ∀ (i : Nat) x, s.sems[i]? = some x → SemOk x ∧ p.sems[i]? = some x.limit
 groups : ∀ x ∈ s.groups, GroupOk x
 barriers : ∀ (i : Nat) x, s.barriers[i]? = some x → BarrierOk x ∧ p.barriers[i]? = some x.parties
 chans : ∀ (i : Nat) x, s.chans[i]? = some x → x.valid = true ∧ p.rooms[i]? = some x.room
 onces : ∀ x ∈ s.onces, OnceOk x
theorem Fits.shared {p : Prog} {s : State} (h : Fits p s) : SharedOk p s := ⟨h.lsems, h.lgroups, h.lbarriers, h.lchans, h.lonces, h.sems, h.groups, h.barriers, h.chans, h.onces⟩
set_option maxHeartbeats 40000000 in
set_option maxRecDepth 100000 in
theorem shared_c (p : ProgH) (s : StateH) (w : World) (h : At w [fR (progO p), fR (stateO s)]) (ok : ProgOk p.pure) (hs : s.pure.small20) :
   Calls Tryz.prog 145 #[progV p, stateV s] w (Tells w (SharedOk p.pure s.pure)) := by
 obtain ⟨b0, b1, b2, b3, b4, b5, b6, b7⟩ := hs
 have mlen : ∀ {α β : Type} (f : α → β) (xs : List α), (xs.map f).length = xs.length := fun f xs => by simp
 have m0 : p.sems.length ≤ 3 := ok.sems.1
 have m1 : p.groups.length ≤ 3 := ok.groups.1
 have m2 : p.barriers.length ≤ 3 := ok.barriers.1
 have m3 : p.rooms.length ≤ 3 := ok.rooms.1
 refine calls2 Tryz.func145 rfl tabOk w _ rfl _ rfl _ h ⟨rfl, rfl, rfl, rfl, trivial⟩ _ _ (by decide) ?_
 apply CaseB.mk <;> intro g
 · have q : ¬ s.sems.length = p.sems.length := by simp at g; omega
   exact ret0 ⟨_, rfl, tno fun e => q (by have := e.lsems; simpa [StateH.pure, ProgH.pure] using this), rfl⟩ (fun _ => rfl)
 have c2 : s.sems.length = p.sems.length := by simp at g; omega
 apply CaseB.mk <;> intro g
 · have q : ¬ s.onces.length = 3 := by simp at g; omega
   exact ret0 ⟨_, rfl, tno fun e => q (by have := e.lonces; simpa [StateH.pure, ProgH.pure] using this), rfl⟩ (fun _ => rfl)
 have c3 : s.onces.length = 3 := by simp at g; omega
 apply CaseB.mk <;> intro g
 · have q : ¬ s.groups.length = p.groups.length := by simp at g; omega
   exact ret0 ⟨_, rfl, tno fun e => q (by have := e.lgroups; simpa [StateH.pure, ProgH.pure] using this), rfl⟩ (fun _ => rfl)
 have c4 : s.groups.length = p.groups.length := by simp at g; omega
 apply CaseB.mk <;> intro g
 · have q : ¬ s.barriers.length = p.barriers.length := by simp at g; omega
   exact ret0 ⟨_, rfl, tno fun e => q (by have := e.lbarriers; simpa [StateH.pure, ProgH.pure] using this), rfl⟩ (fun _ => rfl)
 have c5 : s.barriers.length = p.barriers.length := by simp at g; omega
 apply CaseB.mk <;> intro g
 · have q : ¬ s.chans.length = p.rooms.length := by simp at g; omega
   exact ret0 ⟨_, rfl, tno fun e => q (by have := e.lchans; simpa [StateH.pure, ProgH.pure] using this), rfl⟩ (fun _ => rfl)
 have c6 : s.chans.length = p.rooms.length := by simp at g; omega
 refine LoopW.mk ⟨{ k : Nat // k ≤ s.sems.length ∧ ∀ (i : Nat) x, i < k → s.pure.sems[i]? = some x → SemOk x ∧ p.pure.sems[i]? = some x.limit },
   fun k => .mk [(2, .p 0 0), (3, .p 1 0), (5, .v (.int .i64 (k.1 : Int)))] 2 0 [(0, 26, 5), (1, 35, 9)] [((0, 0), .v (p.h0.val p.sems.length)), ((0, 1), .v (p.h1.val p.groups.length)), ((0, 2), .v (p.h2.val p.barriers.length)), ((0, 3), .v (p.h3.val p.rooms.length)), ((0, 4), .v (p.h4.val p.threads.length)), ((1, 0), .v (s.h0.val s.places.length)), ((1, 1), .v (s.h1.val s.status.length)), ((1, 2), .v (s.h2.val s.sems.length)), ((1, 3), .v (s.h3.val s.onces.length)), ((1, 4), .v (s.h4.val s.groups.length)), ((1, 5), .v (s.h5.val s.barriers.length)), ((1, 6), .v (s.h6.val s.chans.length)), ((1, 7), .v (s.h7.val s.said.length)), ((1, 8), .v (.int .i64 s.fault))] [fR (progO p), fR (stateO s)],
   fun k => s.sems.length - k.1, ⟨0, Nat.zero_le _, fun i x hi => by omega⟩, ?_, ?_⟩
 · exact weak_mk [0, 1] zw2 zw0 zw2 zw5 zw4 rfl rfl
 rintro ⟨k, hk, hinv⟩
 apply CaseB.mk <;> intro g
 · have hlt : k < s.sems.length := by simpa using g
   have hw := e_succ k _ hlt (by omega)
   have hat : s.pure.sems[k]? = some (s.sems[k]).m := by simp [StateH.pure, hlt]
   have hsm := (allS_map b2).2 _ (List.getElem_mem hlt)
   unfold Sem.small20 at hsm
   have hlp : k < p.sems.length := by omega
   have hpat : p.pure.sems[k]? = some p.sems[k] := by simp [ProgH.pure, hlp]
   refine draw_start tabOk z97 z97 z97 200 [((0, 0), .v (p.h0.val p.sems.length)), ((1, 2), .v (s.h2.val s.sems.length))] [0, 1] [_, _] z135 z143 ⟨rfl, rfl, trivial⟩ rfl ?_
   refine d_idx (ti := tiOf tab) encSemH tabOk rfl rfl rfl rfl rfl ⟨rfl, rfl⟩ (rdVia 1 rfl (.trans (.R_R (stateO_sems s)) (.ofR nest_h))) k rfl z45 (fun ad => ?_)
   refine d_call _ cl169 rfl rfl rfl rfl ⟨rfl, rfl⟩ (fun A w hW => semValidS_c _ _ w ⟨hW.get 1 rfl (.trans (.R_R (stateO_sems s)) (.ofR (semsO_0 _ _ k hlt))), trivial⟩ (by omega)) ?_
   rintro v L ⟨bb, rfl, hbb, rfl⟩
   apply CaseB.mk <;> intro g
   · exact ret0 ⟨_, rfl, tno fun e => (by rw [hbb.2 ((e.sems k _ hat).1)] at g; cases g), rfl⟩ (fun _ => rfl)
   have q1 := hbb.1 z94
   refine d_idx (ti := tiOf tab) encSemH tabOk rfl rfl rfl rfl rfl ⟨rfl, rfl⟩ (rdVia 1 rfl (.trans (.R_R (stateO_sems s)) (.ofR nest_h))) k rfl z45 (fun ad1 => ?_)
   refine d_idx (ti := tiOf tab) encInt tabOk rfl rfl rfl rfl rfl ⟨rfl, rfl⟩ (rdVia 0 rfl (.ofR (progO_sems p))) k rfl z45 (fun ad2 => ?_)
   apply CaseB.mk <;> intro g
   · have q : ¬ (s.sems[k]).m.limit = p.sems[k] := by simpa using g
     exact ret0 ⟨_, rfl, tno fun e => q z56, rfl⟩ (fun _ => rfl)
   have q2 : (s.sems[k]).m.limit = p.sems[k] := by simpa using g
   refine ⟨⟨k + 1, by omega, fun i x hi hx => ?_⟩, ?_, by simp only; omega⟩
   · by_cases e : i < k
     · exact hinv i x e hx
     · obtain rfl : i = k := by omega
       rw [hat] at hx
       injection hx with hx
       subst hx
       exact ⟨q1, by rw [hpat, q2]⟩
   · exact weak_mk [0, 1] zw1 zw0 zw1 zw5 zw3 rfl rfl
 have hge : s.sems.length ≤ k := by simpa using g
 have vsems : ∀ (i : Nat) x, s.pure.sems[i]? = some x → SemOk x ∧ p.pure.sems[i]? = some x.limit := fun i x hx => hinv i x (by have := (List.getElem?_eq_some_iff.1 hx).1; have e : s.pure.sems.length = s.sems.length := mlen _ _; omega) hx
 refine LoopW.mk ⟨{ k : Nat // k ≤ s.onces.length ∧ ∀ (i : Nat) x, i < k → s.pure.onces[i]? = some x → OnceOk x },
   fun k => .mk [(2, .p 0 0), (3, .p 1 0), (6, .v (.int .i64 (k.1 : Int)))] 2 0 [(0, 26, 5), (1, 35, 9)] [((0, 0), .v (p.h0.val p.sems.length)), ((0, 1), .v (p.h1.val p.groups.length)), ((0, 2), .v (p.h2.val p.barriers.length)), ((0, 3), .v (p.h3.val p.rooms.length)), ((0, 4), .v (p.h4.val p.threads.length)), ((1, 0), .v (s.h0.val s.places.length)), ((1, 1), .v (s.h1.val s.status.length)), ((1, 2), .v (s.h2.val s.sems.length)), ((1, 3), .v (s.h3.val s.onces.length)), ((1, 4), .v (s.h4.val s.groups.length)), ((1, 5), .v (s.h5.val s.barriers.length)), ((1, 6), .v (s.h6.val s.chans.length)), ((1, 7), .v (s.h7.val s.said.length)), ((1, 8), .v (.int .i64 s.fault))] [fR (progO p), fR (stateO s)],
   fun k => s.onces.length - k.1, ⟨0, Nat.zero_le _, fun i x hi => by omega⟩, ?_, ?_⟩
 · exact weak_mk [0, 1] zw2 zw0 zw2 zw5 zw4 rfl rfl
 rintro ⟨k, hk, hinv⟩
 apply CaseB.mk <;> intro g
 · have hlt : k < s.onces.length := by simpa using g
   have hw := e_succ k _ hlt (by omega)
   have hat : s.pure.onces[k]? = some (s.onces[k]).m := by simp [StateH.pure, hlt]
   have hsm := (allS_map b3).2 _ (List.getElem_mem hlt)
   unfold Once.small20 at hsm
   refine stop_idx encOnceH tabOk rfl rfl rfl rfl rfl ⟨rfl, rfl⟩ (rdVia 1 rfl (.trans (.R_R (stateO_onces s)) (.ofR nest_h))) k rfl z45 (fun ad => ?_)
   refine stop_call _ cl180 rfl rfl rfl rfl ⟨rfl, rfl⟩ (fun A w hW => onceValidS_c _ _ w ⟨hW.get 1 rfl (.trans (.R_R (stateO_onces s)) (.ofR (oncesO_0 _ _ k hlt))), trivial⟩ (by omega)) ?_
   rintro v L ⟨bb, rfl, hbb, rfl⟩
   apply CaseB.mk <;> intro g
   · exact ret0 ⟨_, rfl, tno fun e => (by rw [hbb.2 (e.onces _ (List.mem_of_getElem? hat))] at g; cases g), rfl⟩ (fun _ => rfl)
   have q1 := hbb.1 z94
   refine ⟨⟨k + 1, by omega, fun i x hi hx => ?_⟩, ?_, by simp only; omega⟩
   · by_cases e : i < k
     · exact hinv i x e hx
     · obtain rfl : i = k := by omega
       rw [hat] at hx
       injection hx with hx
       subst hx
       exact q1
   · exact weak_mk [0, 1] zw1 zw0 zw1 zw5 zw3 rfl rfl
 have hge : s.onces.length ≤ k := by simpa using g
 have vonces : ∀ (i : Nat) x, s.pure.onces[i]? = some x → OnceOk x := fun i x hx => hinv i x (by have := (List.getElem?_eq_some_iff.1 hx).1; have e : s.pure.onces.length = s.onces.length := mlen _ _; omega) hx
 refine LoopW.mk ⟨{ k : Nat // k ≤ s.groups.length ∧ ∀ (i : Nat) x, i < k → s.pure.groups[i]? = some x → GroupOk x },
   fun k => .mk [(2, .p 0 0), (3, .p 1 0), (7, .v (.int .i64 (k.1 : Int)))] 2 0 [(0, 26, 5), (1, 35, 9)] [((0, 0), .v (p.h0.val p.sems.length)), ((0, 1), .v (p.h1.val p.groups.length)), ((0, 2), .v (p.h2.val p.barriers.length)), ((0, 3), .v (p.h3.val p.rooms.length)), ((0, 4), .v (p.h4.val p.threads.length)), ((1, 0), .v (s.h0.val s.places.length)), ((1, 1), .v (s.h1.val s.status.length)), ((1, 2), .v (s.h2.val s.sems.length)), ((1, 3), .v (s.h3.val s.onces.length)), ((1, 4), .v (s.h4.val s.groups.length)), ((1, 5), .v (s.h5.val s.barriers.length)), ((1, 6), .v (s.h6.val s.chans.length)), ((1, 7), .v (s.h7.val s.said.length)), ((1, 8), .v (.int .i64 s.fault))] [fR (progO p), fR (stateO s)],
   fun k => s.groups.length - k.1, ⟨0, Nat.zero_le _, fun i x hi => by omega⟩, ?_, ?_⟩
 · exact weak_mk [0, 1] zw2 zw0 zw2 zw5 zw4 rfl rfl
 rintro ⟨k, hk, hinv⟩
 apply CaseB.mk <;> intro g
 · have hlt : k < s.groups.length := by simpa using g
   have hw := e_succ k _ hlt (by omega)
   have hat : s.pure.groups[k]? = some (s.groups[k]).m := by simp [StateH.pure, hlt]
   have hsm := (allS_map b4).2 _ (List.getElem_mem hlt)
   unfold Group.small20 at hsm
   refine stop_idx encGroupH tabOk rfl rfl rfl rfl rfl ⟨rfl, rfl⟩ (rdVia 1 rfl (.trans (.R_R (stateO_groups s)) (.ofR nest_h))) k rfl z45 (fun ad => ?_)
   refine stop_call _ cl175 rfl rfl rfl rfl ⟨rfl, rfl⟩ (fun A w hW => groupValidS_c _ _ w ⟨hW.get 1 rfl (.trans (.R_R (stateO_groups s)) (.ofR (groupsO_0 _ _ k hlt))), trivial⟩ (by omega)) ?_
   rintro v L ⟨bb, rfl, hbb, rfl⟩
   apply CaseB.mk <;> intro g
   · exact ret0 ⟨_, rfl, tno fun e => (by rw [hbb.2 (e.groups _ (List.mem_of_getElem? hat))] at g; cases g), rfl⟩ (fun _ => rfl)
   have q1 := hbb.1 z94
   refine ⟨⟨k + 1, by omega, fun i x hi hx => ?_⟩, ?_, by simp only; omega⟩
   · by_cases e : i < k
     · exact hinv i x e hx
     · obtain rfl : i = k := by omega
       rw [hat] at hx
       injection hx with hx
       subst hx
       exact q1
   · exact weak_mk [0, 1] zw1 zw0 zw1 zw5 zw3 rfl rfl
 have hge : s.groups.length ≤ k := by simpa using g
 have vgroups : ∀ (i : Nat) x, s.pure.groups[i]? = some x → GroupOk x := fun i x hx => hinv i x (by have := (List.getElem?_eq_some_iff.1 hx).1; have e : s.pure.groups.length = s.groups.length := mlen _ _; omega) hx
 refine LoopW.mk ⟨{ k : Nat // k ≤ s.barriers.length ∧ ∀ (i : Nat) x, i < k → s.pure.barriers[i]? = some x → BarrierOk x ∧ p.pure.barriers[i]? = some x.parties },
   fun k => .mk [(2, .p 0 0), (3, .p 1 0), (8, .v (.int .i64 (k.1 : Int)))] 2 0 [(0, 26, 5), (1, 35, 9)] [((0, 0), .v (p.h0.val p.sems.length)), ((0, 1), .v (p.h1.val p.groups.length)), ((0, 2), .v (p.h2.val p.barriers.length)), ((0, 3), .v (p.h3.val p.rooms.length)), ((0, 4), .v (p.h4.val p.threads.length)), ((1, 0), .v (s.h0.val s.places.length)), ((1, 1), .v (s.h1.val s.status.length)), ((1, 2), .v (s.h2.val s.sems.length)), ((1, 3), .v (s.h3.val s.onces.length)), ((1, 4), .v (s.h4.val s.groups.length)), ((1, 5), .v (s.h5.val s.barriers.length)), ((1, 6), .v (s.h6.val s.chans.length)), ((1, 7), .v (s.h7.val s.said.length)), ((1, 8), .v (.int .i64 s.fault))] [fR (progO p), fR (stateO s)],
   fun k => s.barriers.length - k.1, ⟨0, Nat.zero_le _, fun i x hi => by omega⟩, ?_, ?_⟩
 · exact weak_mk [0, 1] zw2 zw0 zw2 zw5 zw4 rfl rfl
 rintro ⟨k, hk, hinv⟩
 apply CaseB.mk <;> intro g
 · have hlt : k < s.barriers.length := by simpa using g
   have hw := e_succ k _ hlt (by omega)
   have hat : s.pure.barriers[k]? = some (s.barriers[k]).m := by simp [StateH.pure, hlt]
   have hsm := (allS_map b5).2 _ (List.getElem_mem hlt)
   unfold Barrier.small20 at hsm
   have hlp : k < p.barriers.length := by omega
   have hpat : p.pure.barriers[k]? = some p.barriers[k] := by simp [ProgH.pure, hlp]
   refine draw_start tabOk z97 z97 z97 200 [((0, 2), .v (p.h2.val p.barriers.length)), ((1, 5), .v (s.h5.val s.barriers.length))] [0, 1] [_, _] z135 z143 ⟨rfl, rfl, trivial⟩ rfl ?_
   refine d_idx (ti := tiOf tab) encBarrierH tabOk rfl rfl rfl rfl rfl ⟨rfl, rfl⟩ (rdVia 1 rfl (.trans (.R_R (stateO_barriers s)) (.ofR nest_h))) k rfl z45 (fun ad => ?_)
   refine d_call _ cl176 rfl rfl rfl rfl ⟨rfl, rfl⟩ (fun A w hW => barrierValidS_c _ _ w ⟨hW.get 1 rfl (.trans (.R_R (stateO_barriers s)) (.ofR (barriersO_0 _ _ k hlt))), trivial⟩ (by omega)) ?_
   rintro v L ⟨bb, rfl, hbb, rfl⟩
   apply CaseB.mk <;> intro g
   · exact ret0 ⟨_, rfl, tno fun e => (by rw [hbb.2 ((e.barriers k _ hat).1)] at g; cases g), rfl⟩ (fun _ => rfl)
   have q1 := hbb.1 z94
   refine d_idx (ti := tiOf tab) encBarrierH tabOk rfl rfl rfl rfl rfl ⟨rfl, rfl⟩ (rdVia 1 rfl (.trans (.R_R (stateO_barriers s)) (.ofR nest_h))) k rfl z45 (fun ad1 => ?_)
   refine d_idx (ti := tiOf tab) encInt tabOk rfl rfl rfl rfl rfl ⟨rfl, rfl⟩ (rdVia 0 rfl (.ofR (progO_barriers p))) k rfl z45 (fun ad2 => ?_)
   apply CaseB.mk <;> intro g
   · have q : ¬ (s.barriers[k]).m.parties = p.barriers[k] := by simpa using g
     exact ret0 ⟨_, rfl, tno fun e => q z53, rfl⟩ (fun _ => rfl)
   have q2 : (s.barriers[k]).m.parties = p.barriers[k] := by simpa using g
   refine ⟨⟨k + 1, by omega, fun i x hi hx => ?_⟩, ?_, by simp only; omega⟩
   · by_cases e : i < k
     · exact hinv i x e hx
     · obtain rfl : i = k := by omega
       rw [hat] at hx
       injection hx with hx
       subst hx
       exact ⟨q1, by rw [hpat, q2]⟩
   · exact weak_mk [0, 1] zw1 zw0 zw1 zw5 zw3 rfl rfl
 have hge : s.barriers.length ≤ k := by simpa using g
 have vbarriers : ∀ (i : Nat) x, s.pure.barriers[i]? = some x → BarrierOk x ∧ p.pure.barriers[i]? = some x.parties := fun i x hx => hinv i x (by have := (List.getElem?_eq_some_iff.1 hx).1; have e : s.pure.barriers.length = s.barriers.length := mlen _ _; omega) hx
 refine LoopW.mk ⟨{ k : Nat // k ≤ s.chans.length ∧ ∀ (i : Nat) x, i < k → s.pure.chans[i]? = some x → x.valid = true ∧ p.pure.rooms[i]? = some x.room },
   fun k => .mk [(2, .p 0 0), (3, .p 1 0), (9, .v (.int .i64 (k.1 : Int)))] 2 0 [(0, 26, 5), (1, 35, 9)] [((0, 0), .v (p.h0.val p.sems.length)), ((0, 1), .v (p.h1.val p.groups.length)), ((0, 2), .v (p.h2.val p.barriers.length)), ((0, 3), .v (p.h3.val p.rooms.length)), ((0, 4), .v (p.h4.val p.threads.length)), ((1, 0), .v (s.h0.val s.places.length)), ((1, 1), .v (s.h1.val s.status.length)), ((1, 2), .v (s.h2.val s.sems.length)), ((1, 3), .v (s.h3.val s.onces.length)), ((1, 4), .v (s.h4.val s.groups.length)), ((1, 5), .v (s.h5.val s.barriers.length)), ((1, 6), .v (s.h6.val s.chans.length)), ((1, 7), .v (s.h7.val s.said.length)), ((1, 8), .v (.int .i64 s.fault))] [fR (progO p), fR (stateO s)],
   fun k => s.chans.length - k.1, ⟨0, Nat.zero_le _, fun i x hi => by omega⟩, ?_, ?_⟩
 · exact weak_mk [0, 1] zw2 zw0 zw2 zw5 zw4 rfl rfl
 rintro ⟨k, hk, hinv⟩
 apply CaseB.mk <;> intro g
 · have hlt : k < s.chans.length := by simpa using g
   have hw := e_succ k _ hlt (by omega)
   have hat : s.pure.chans[k]? = some (s.chans[k]).m := by simp [StateH.pure, hlt]
   have hsm := (allS_map b6).2 _ (List.getElem_mem hlt)
   unfold Chan.small20 at hsm
   have hlp : k < p.rooms.length := by omega
   have hpat : p.pure.rooms[k]? = some p.rooms[k] := by simp [ProgH.pure, hlp]
   refine draw_start tabOk z97 z97 z97 200 [((0, 3), .v (p.h3.val p.rooms.length)), ((1, 6), .v (s.h6.val s.chans.length))] [0, 1] [_, _] z135 z143 ⟨rfl, rfl, trivial⟩ rfl ?_
   refine d_idx (ti := tiOf tab) encChanH tabOk rfl rfl rfl rfl rfl ⟨rfl, rfl⟩ (rdVia 1 rfl (.trans (.R_R (stateO_chans s)) (.ofR nest_h))) k rfl z45 (fun ad => ?_)
   refine d_call _ cl181 rfl rfl rfl rfl ⟨rfl, rfl⟩ (fun A w hW => validS_c _ _ _ _ w ⟨hW.get 1 rfl (.trans (.R_R (stateO_chans s)) (.ofR (chansO_0 _ _ k hlt))), hW.get 1 rfl (.trans (.R_R (stateO_chans s)) (.ofR (chansO_1 _ _ k hlt))), hW.get 1 rfl (.trans (.R_R (stateO_chans s)) (.ofR (chansO_2 _ _ k hlt))), trivial⟩ ⟨by omega, by omega, by omega⟩) ?_
   rintro v L ⟨rfl, rfl⟩
   apply CaseB.mk <;> intro g
   · exact ret0 ⟨_, rfl, tno fun e => (by rw [(e.chans k _ hat).1] at g; cases g), rfl⟩ (fun _ => rfl)
   have q1 : (s.chans[k]).m.valid = true := by simpa using g
   refine d_idx (ti := tiOf tab) encChanH tabOk rfl rfl rfl rfl rfl ⟨rfl, rfl⟩ (rdVia 1 rfl (.trans (.R_R (stateO_chans s)) (.ofR nest_h))) k rfl z45 (fun ad1 => ?_)
   refine d_idx (ti := tiOf tab) encInt tabOk rfl rfl rfl rfl rfl ⟨rfl, rfl⟩ (rdVia 0 rfl (.ofR (progO_rooms p))) k rfl z45 (fun ad2 => ?_)
   apply CaseB.mk <;> intro g
   · have q : ¬ (s.chans[k]).m.room = p.rooms[k] := by simpa using g
     exact ret0 ⟨_, rfl, tno fun e => q z55, rfl⟩ (fun _ => rfl)
   have q2 : (s.chans[k]).m.room = p.rooms[k] := by simpa using g
   refine ⟨⟨k + 1, by omega, fun i x hi hx => ?_⟩, ?_, by simp only; omega⟩
   · by_cases e : i < k
     · exact hinv i x e hx
     · obtain rfl : i = k := by omega
       rw [hat] at hx
       injection hx with hx
       subst hx
       exact ⟨q1, by rw [hpat, q2]⟩
   · exact weak_mk [0, 1] zw1 zw0 zw1 zw5 zw3 rfl rfl
 have hge : s.chans.length ≤ k := by simpa using g
 have vchans : ∀ (i : Nat) x, s.pure.chans[i]? = some x → x.valid = true ∧ p.pure.rooms[i]? = some x.room := fun i x hx => hinv i x (by have := (List.getElem?_eq_some_iff.1 hx).1; have e : s.pure.chans.length = s.chans.length := mlen _ _; omega) hx
 have mm : ∀ {α : Type} {xs : List α} {q : α → Prop}, (∀ (i : Nat) x, xs[i]? = some x → q x) → ∀ x ∈ xs, q x := fun h x hx => by
   obtain ⟨i, hi⟩ := List.getElem?_of_mem hx
   exact h i x hi
 have n := fun {α β γ δ : Type} (f : α → β) (g : γ → δ) {xs : List α} {ys : List γ} (e : xs.length = ys.length) => (show (xs.map f).length = (ys.map g).length by simp [e])
 exact ret0 ⟨_, rfl, tyes ⟨by simpa [StateH.pure, ProgH.pure] using c2, by simpa [StateH.pure, ProgH.pure] using c4, by simpa [StateH.pure, ProgH.pure] using c5, by simpa [StateH.pure, ProgH.pure] using c6, by simpa [StateH.pure, ProgH.pure] using c3, vsems, mm vgroups, vbarriers, vchans, mm vonces⟩, rfl⟩ (fun _ => rfl)
theorem atM_get (xs : List Int) (t : Int) (h : 0 ≤ atM xs t) : xs[(atM xs t).toNat]? = some t := by
 induction xs with
 | nil => simp [atM] at h
 | cons x r ih =>
   simp only [atM] at h ⊢
   by_cases e : x = t
   · simp [e]
   · simp only [e, if_false] at h ⊢
     by_cases e2 : atM r t < 0
     · rw [if_pos e2] at h; omega
     · rw [if_neg e2] at h ⊢
       have e3 : (atM r t + 1).toNat = (atM r t).toNat + 1 := by omega
       rw [e3, List.getElem?_cons_succ]
       exact ih (by omega)
theorem at_in {α : Type} {f : α → Int} {l : List α} {t a : Int} (hd : (l.map f).Nodup) (ha : a = atM (l.map f) t) (x : α) : (x ∈ l ∧ f x = t) ↔ (l[a.toNat]? = some x ∧ 0 ≤ a) := by
 subst ha
 constructor
 · rintro ⟨hm, hx⟩
   have h0 : 0 ≤ atM (l.map f) t := (atM_mem _ _).2 (hx ▸ List.mem_map_of_mem hm)
   have h1 := atM_get _ _ h0
   obtain ⟨i, hi, rfl⟩ := List.getElem_of_mem hm
   have h2 : (l.map f)[i]? = some t := by simp [hi, hx]
   have h3 := (List.getElem?_eq_some_iff.1 h1).1
   have := (List.getElem?_inj h3 hd).1 (h1.trans h2.symm)
   rw [this]
   exact ⟨List.getElem?_eq_getElem hi, h0⟩
 · rintro ⟨h1, h0⟩
   refine ⟨List.mem_of_getElem? h1, ?_⟩
   have h2 := atM_get _ _ h0
   rw [List.getElem?_map, h1] at h2
   simpa using h2
set_option maxRecDepth 100000 in
theorem l1Find_c (i : Sl) (xs : List Waiter) (t : Int) (w : World) (h : At w [slo i cWaiter 2 xs]) (hb : xs.length ≤ 1048576) :
   Calls Tryz.prog 171 #[i.val xs.length, .int .i64 t] w (Ret w fun v L => ∃ a : Int, v = .int .i64 a ∧ a = atM (xs.map (·.t)) t ∧ L = []) := by
 refine calls2 Tryz.func171 rfl tabOk w _ rfl _ rfl _ h ⟨rfl, rfl, trivial⟩ _ _ (by decide) ?_
 have hlen : (xs.map (·.t)).length = xs.length := by simp
 refine LoopW.mk ⟨{ k : Nat // k ≤ xs.length ∧ t ∉ (xs.map (·.t)).take k },
   fun p => .mk [(0, .v (i.val xs.length)), (1, .v (.int .i64 t)), (5, .v (.int .i64 p.1))] 0 0 [] [] [slo i cWaiter 2 xs],
   fun p => xs.length - p.1, ⟨0, Nat.zero_le _, by simp⟩, ?_, ?_⟩
 · exact weak_mk [0] zw2 zw0 zw2 zw5 zw4 rfl rfl
 · rintro ⟨k, hk, he⟩
   refine CaseB.mk (fun h => ?_) (fun h => ?_)
   · have hlt : k < xs.length := by simpa using h
     have hlt2 : k < (xs.map (·.t)).length := by rw [hlen]; exact hlt
     refine stop_idx encWaiter tabOk rfl rfl rfl rfl rfl ⟨rfl, rfl⟩ z38 k rfl z45 (fun ad => ?_)
     refine CaseB.mk (fun h => ?_) (fun h => ?_)
     · have heq : (xs[k]).t = t := by simpa using h
       exact ret0 ⟨_, rfl, (atM_at hlt2 he (by simpa using heq)).symm, rfl⟩ (fun _ => rfl)
     · have hne : (xs[k]).t ≠ t := by simpa using h
       have hw := wrapN k _ hlt (by omega)
       refine ⟨⟨k + 1, by omega, not_mem_take_succ hlt2 he (by simpa using hne)⟩, ?_, by simp; omega⟩
       exact weak_mk [0] zw1 zw0 zw1 zw5 zw3 rfl rfl
   · have hge : xs.length ≤ k := by simpa using h
     rw [List.take_of_length_le (by omega)] at he
     exact ret0 ⟨_, rfl, (atM_none he).symm, rfl⟩ (fun _ => rfl)
def WaitsOn (s : State) (o : Op) (t : Int) : Prop :=
 if o.kind = 2 then ∃ x, s.sems[o.on.toNat]? = some x ∧ ⟨t, o.arg⟩ ∈ x.queue
 else if o.kind = 4 then ∃ x, s.onces[o.on.toNat]? = some x ∧ t ∈ x.waits
 else if o.kind = 6 then ∃ x, s.groups[o.on.toNat]? = some x ∧ t ∈ x.waits
 else if o.kind = 7 then ∃ x, s.barriers[o.on.toNat]? = some x ∧ t ∈ x.waits
 else if o.kind = 8 then ∃ x, s.chans[o.on.toNat]? = some x ∧ ⟨t, o.arg⟩ ∈ x.senders
 else if o.kind = 9 then ∃ x, s.chans[o.on.toNat]? = some x ∧ t ∈ x.getters
 else False
theorem only {α : Type} {xs : List α} {n : Nat} {y : α} (h : xs[n]? = some y) {q : α → Prop} : (∃ x, xs[n]? = some x ∧ q x) ↔ q y :=
 ⟨fun ⟨x, hx, hq⟩ => by rw [h] at hx; injection hx with hx; exact hx ▸ hq, fun hq => ⟨y, h, hq⟩⟩
set_option maxHeartbeats 8000000 in
set_option maxRecDepth 100000 in
theorem waits_c (p : Prog) (s : StateH) (o : Op) (t : Int) (w : World) (h : At w [fR (stateO s)]) (hs : SharedOk p s.pure) (ho : OpOk p o) :
   Calls Tryz.prog 183 #[stateV s, .agg (cOp o).toArray, .int .i64 t] w (Tells w (WaitsOn s.pure o t)) := by
 obtain ⟨s1, s2, s3, s4, s5, s6, s7, s8, s9, s10⟩ := hs
 have mlen : ∀ {α β : Type} (f : α → β) (xs : List α), (xs.map f).length = xs.length := fun f xs => by simp
 have l2 : s.pure.sems.length = s.sems.length := mlen _ _
 have l3 : s.pure.onces.length = s.onces.length := mlen _ _
 have l4 : s.pure.groups.length = s.groups.length := mlen _ _
 have l5 : s.pure.barriers.length = s.barriers.length := mlen _ _
 have l6 : s.pure.chans.length = s.chans.length := mlen _ _
 refine calls3 Tryz.func183 rfl tabOk w _ rfl _ rfl _ h ⟨rfl, rfl, trivial⟩ _ _ _ (by decide) ?_
 refine CaseB.mk (fun g => ?_) (fun g2 => ?_)
 · have k2 : o.kind = 2 := by simpa using g
   obtain ⟨⟨o0, o1⟩, _⟩ := (opOk2 (.inl k2)).1 ho
   have hlt : o.on.toNat < s.sems.length := by omega
   have hat : s.pure.sems[o.on.toNat]? = some (s.sems[o.on.toNat]).m := by simp [StateH.pure, hlt]
   have hok := (s6 _ _ hat).1
   have hq := hok.q6
   refine stop_idx encSemH tabOk rfl rfl rfl rfl rfl ⟨rfl, rfl⟩ (rdVia 0 rfl (.trans (.R_R (stateO_sems s)) (.ofR nest_h))) o.on.toNat (by omega) z45 (fun ad => ?_)
   refine stop_call _ cl171 rfl rfl rfl rfl ⟨rfl, rfl⟩ (fun A w hW => l1Find_c _ _ t w ⟨hW.get 0 rfl (.trans (.R_R (stateO_sems s)) (.ofR (semsO_0 _ _ _ hlt))), trivial⟩ (by omega)) ?_
   rintro v L ⟨a, rfl, ha, rfl⟩
   have hin := at_in (f := (·.t)) (by have := hok.dis; simp only [distinct, decide_eq_true_eq] at this; exact this.1) ha (⟨t, o.arg⟩ : Waiter)
   have hQ : WaitsOn s.pure o t ↔ ((s.sems[o.on.toNat]).m.queue[a.toNat]? = some ⟨t, o.arg⟩ ∧ 0 ≤ a) := by
     rw [← hin, WaitsOn, if_pos k2, only hat]; simp
   refine draw_start tabOk z97 z97 z97 200 [((0, 2), .v (s.h2.val s.sems.length)), ((1, 1), .v (.int .i64 o.on)), ((1, 2), .v (.int .i64 o.arg))] [0] [_] z126 z138 ⟨rfl, trivial⟩ rfl ?_
   apply CaseB.mk <;> intro g
   · have a0 : 0 ≤ a := by simpa using g
     have hg := atM_get _ t (ha ▸ a0)
     rw [← ha, List.getElem?_map] at hg
     have hl : a.toNat < (s.sems[o.on.toNat]).m.queue.length := by
       refine Classical.byContradiction fun n => ?_
       rw [List.getElem?_eq_none (by omega)] at hg; simp at hg
     rw [List.getElem?_eq_getElem hl] at hg
     have ht : ((s.sems[o.on.toNat]).m.queue[a.toNat]).t = t := by simpa using hg
     refine d_idx (ti := tiOf tab) encSemH tabOk rfl rfl rfl rfl rfl ⟨rfl, rfl⟩ (rdVia 0 rfl (.trans (.R_R (stateO_sems s)) (.ofR nest_h))) o.on.toNat (by omega) z45 (fun ad1 => ?_)
     refine d_idx (ti := tiOf tab) encWaiter tabOk rfl rfl rfl rfl rfl ⟨rfl, rfl⟩ (rdVia 0 rfl (.trans (.R_R (stateO_sems s)) (.ofR (semsO_0 _ _ _ hlt)))) a.toNat (by omega) z45 (fun ad2 => ?_)
     refine ret0 ⟨_, rfl, ?_, rfl⟩ (fun _ => rfl)
     rw [hQ, List.getElem?_eq_getElem hl, beq_iff_eq]
     constructor
     · intro e
       refine ⟨?_, a0⟩
       rw [← ht, ← e]
     · rintro ⟨e, _⟩
       injection e with e
       rw [e]
   · have a0 : ¬ 0 ≤ a := by simpa using g
     exact ret0 ⟨_, rfl, tno fun e => a0 (hQ.1 e).2, rfl⟩ (fun _ => rfl)
 have n2 : ¬ o.kind = 2 := by simpa using g2
 refine CaseB.mk (fun g => ?_) (fun g4 => ?_)
 · have k4 : o.kind = 4 := by simpa using g
   obtain ⟨o0, o1, _⟩ := (opOk4 k4).1 ho
   have hlt : o.on.toNat < s.onces.length := by omega
   have hat : s.pure.onces[o.on.toNat]? = some (s.onces[o.on.toNat]).m := by simp [StateH.pure, hlt]
   have hq := onceOk_len (s10 _ (List.mem_of_getElem? hat))
   have hQ : WaitsOn s.pure o t ↔ t ∈ (s.onces[o.on.toNat]).m.waits := by
     simp only [WaitsOn, k4]
     exact only hat
   refine stop_idx encOnceH tabOk rfl rfl rfl rfl rfl ⟨rfl, rfl⟩ (rdVia 0 rfl (.trans (.R_R (stateO_onces s)) (.ofR nest_h))) o.on.toNat (by omega) z45 (fun ad => ?_)
   refine stop_call _ cl54 rfl rfl rfl rfl ⟨rfl, rfl⟩ (fun A w hW => l2At_c _ _ t w ⟨hW.get 0 rfl (.trans (.R_R (stateO_onces s)) (.ofR (oncesO_0 _ _ _ hlt))), trivial⟩ (by omega)) ?_
   rintro v L ⟨rfl, rfl⟩
   exact ret0 ⟨_, rfl, by rw [hQ, decide_eq_true_eq]; exact atM_mem _ _, rfl⟩ (fun _ => rfl)
 have n4 : ¬ o.kind = 4 := by simpa using g4
 refine CaseB.mk (fun g => ?_) (fun g6 => ?_)
 · have k6 : o.kind = 6 := by simpa using g
   obtain ⟨⟨o0, o1⟩, _⟩ := (opOk6 k6).1 ho
   have hlt : o.on.toNat < s.groups.length := by omega
   have hat : s.pure.groups[o.on.toNat]? = some (s.groups[o.on.toNat]).m := by simp [StateH.pure, hlt]
   have hq := groupOk_len (s7 _ (List.mem_of_getElem? hat))
   have hQ : WaitsOn s.pure o t ↔ t ∈ (s.groups[o.on.toNat]).m.waits := by
     simp only [WaitsOn, k6]
     exact only hat
   refine stop_idx encGroupH tabOk rfl rfl rfl rfl rfl ⟨rfl, rfl⟩ (rdVia 0 rfl (.trans (.R_R (stateO_groups s)) (.ofR nest_h))) o.on.toNat (by omega) z45 (fun ad => ?_)
   refine stop_call _ cl54 rfl rfl rfl rfl ⟨rfl, rfl⟩ (fun A w hW => l2At_c _ _ t w ⟨hW.get 0 rfl (.trans (.R_R (stateO_groups s)) (.ofR (groupsO_0 _ _ _ hlt))), trivial⟩ (by omega)) ?_
   rintro v L ⟨rfl, rfl⟩
   exact ret0 ⟨_, rfl, by rw [hQ, decide_eq_true_eq]; exact atM_mem _ _, rfl⟩ (fun _ => rfl)
 have n6 : ¬ o.kind = 6 := by simpa using g6
 refine CaseB.mk (fun g => ?_) (fun g7 => ?_)
 · have k7 : o.kind = 7 := by simpa using g
   obtain ⟨⟨o0, o1⟩, _⟩ := (opOk7 k7).1 ho
   have hlt : o.on.toNat < s.barriers.length := by omega
   have hat : s.pure.barriers[o.on.toNat]? = some (s.barriers[o.on.toNat]).m := by simp [StateH.pure, hlt]
   have hq := barrierOk_len (s8 _ _ hat).1
   have hQ : WaitsOn s.pure o t ↔ t ∈ (s.barriers[o.on.toNat]).m.waits := by
     simp only [WaitsOn, k7]
     exact only hat
   refine stop_idx encBarrierH tabOk rfl rfl rfl rfl rfl ⟨rfl, rfl⟩ (rdVia 0 rfl (.trans (.R_R (stateO_barriers s)) (.ofR nest_h))) o.on.toNat (by omega) z45 (fun ad => ?_)
   refine stop_call _ cl54 rfl rfl rfl rfl ⟨rfl, rfl⟩ (fun A w hW => l2At_c _ _ t w ⟨hW.get 0 rfl (.trans (.R_R (stateO_barriers s)) (.ofR (barriersO_0 _ _ _ hlt))), trivial⟩ (by omega)) ?_
   rintro v L ⟨rfl, rfl⟩
   exact ret0 ⟨_, rfl, by rw [hQ, decide_eq_true_eq]; exact atM_mem _ _, rfl⟩ (fun _ => rfl)
 have n7 : ¬ o.kind = 7 := by simpa using g7
 refine CaseB.mk (fun g => ?_) (fun g8 => ?_)
 · have k8 : o.kind = 8 := by simpa using g
   obtain ⟨⟨o0, o1⟩, _⟩ := (opOk8 k8).1 ho
   have hlt : o.on.toNat < s.chans.length := by omega
   have hat : s.pure.chans[o.on.toNat]? = some (s.chans[o.on.toNat]).m := by simp [StateH.pure, hlt]
   have hok := (s9 _ _ hat).1
   have hq := chanOk_len hok
   have hdi : ((s.chans[o.on.toNat]).m.senders.map (·.t)).Nodup := by
     have hv : (s.chans[o.on.toNat]).m.Valid := by simpa [Chan.valid] using hok
     have hd := hv.di
     unfold distinct at hd
     have hd2 := of_decide_eq_true hd
     exact (List.nodup_append.1 hd2.1).1
   refine stop_idx encChanH tabOk rfl rfl rfl rfl rfl ⟨rfl, rfl⟩ (rdVia 0 rfl (.trans (.R_R (stateO_chans s)) (.ofR nest_h))) o.on.toNat (by omega) z45 (fun ad => ?_)
   refine stop_call _ cl182 rfl rfl rfl rfl ⟨rfl, rfl⟩ (fun A w hW => l5Threads_c _ _ w ⟨hW.get 0 rfl (.trans (.R_R (stateO_chans s)) (.ofR (chansO_1 _ _ _ hlt))), trivial⟩ (by omega)) ?_
   rw [List.take_of_length_le (by omega)]
   rintro v L ⟨y, rfl, rfl⟩
   refine stop_call _ cl54 rfl rfl rfl rfl ⟨rfl, rfl⟩ (fun A w hW => l2At_c y _ t w ⟨hW.get 0 rfl .own, trivial⟩ z96) ?_
   rintro v L ⟨rfl, rfl⟩
   obtain ⟨a, ha⟩ : ∃ a, a = atM ((s.chans[o.on.toNat]).m.senders.map Letter.t) t := ⟨_, rfl⟩
   rw [← ha]
   have hin := at_in (f := Letter.t) hdi ha (⟨t, o.arg⟩ : Letter)
   have hQ : WaitsOn s.pure o t ↔ ((s.chans[o.on.toNat]).m.senders[a.toNat]? = some ⟨t, o.arg⟩ ∧ 0 ≤ a) := by
     rw [← hin]
     simp only [WaitsOn, k8]
     exact (only hat).trans (by simp)
   refine draw_start tabOk z97 z97 z97 200 [((0, 6), .v (s.h6.val s.chans.length)), ((1, 1), .v (.int .i64 o.on)), ((1, 2), .v (.int .i64 o.arg))] [1] [_] z126 z138 ⟨rfl, trivial⟩ rfl ?_
   apply CaseB.mk <;> intro g
   · have a0 : 0 ≤ a := by simpa using g
     have hg := atM_get _ t (ha ▸ a0)
     rw [← ha, List.getElem?_map] at hg
     have hl : a.toNat < (s.chans[o.on.toNat]).m.senders.length := by
       refine Classical.byContradiction fun n => ?_
       rw [List.getElem?_eq_none (by omega)] at hg; simp at hg
     rw [List.getElem?_eq_getElem hl] at hg
     have ht : ((s.chans[o.on.toNat]).m.senders[a.toNat]).t = t := by simpa using hg
     refine d_idx (ti := tiOf tab) encChanH tabOk rfl rfl rfl rfl rfl ⟨rfl, rfl⟩ (rdVia 0 rfl (.trans (.R_R (stateO_chans s)) (.ofR nest_h))) o.on.toNat (by omega) z45 (fun ad1 => ?_)
     refine d_idx (ti := tiOf tab) encLet tabOk rfl rfl rfl rfl rfl ⟨rfl, rfl⟩ (rdVia 0 rfl (.trans (.R_R (stateO_chans s)) (.ofR (chansO_1 _ _ _ hlt)))) a.toNat (by omega) z45 (fun ad2 => ?_)
     refine ret0 ⟨_, rfl, ?_, rfl⟩ (fun _ => rfl)
     rw [hQ, List.getElem?_eq_getElem hl, beq_iff_eq]
     constructor
     · intro e
       refine ⟨?_, a0⟩
       rw [← ht, ← e]
     · rintro ⟨e, _⟩
       injection e with e
       rw [e]
   · have a0 : ¬ 0 ≤ a := by simpa using g
     exact ret0 ⟨_, rfl, tno fun e => a0 (hQ.1 e).2, rfl⟩ (fun _ => rfl)
 have n8 : ¬ o.kind = 8 := by simpa using g8
 refine CaseB.mk (fun g => ?_) (fun g9 => ?_)
 · have k9 : o.kind = 9 := by simpa using g
   obtain ⟨⟨o0, o1⟩, _⟩ := (opOk9 (.inl k9)).1 ho
   have hlt : o.on.toNat < s.chans.length := by omega
   have hat : s.pure.chans[o.on.toNat]? = some (s.chans[o.on.toNat]).m := by simp [StateH.pure, hlt]
   have hq := chanOk_len (s9 _ _ hat).1
   have hQ : WaitsOn s.pure o t ↔ t ∈ (s.chans[o.on.toNat]).m.getters := by
     simp only [WaitsOn, k9]
     exact only hat
   refine stop_idx encChanH tabOk rfl rfl rfl rfl rfl ⟨rfl, rfl⟩ (rdVia 0 rfl (.trans (.R_R (stateO_chans s)) (.ofR nest_h))) o.on.toNat (by omega) z45 (fun ad => ?_)
   refine stop_call _ cl54 rfl rfl rfl rfl ⟨rfl, rfl⟩ (fun A w hW => l2At_c _ _ t w ⟨hW.get 0 rfl (.trans (.R_R (stateO_chans s)) (.ofR (chansO_2 _ _ _ hlt))), trivial⟩ (by omega)) ?_
   rintro v L ⟨rfl, rfl⟩
   exact ret0 ⟨_, rfl, by rw [hQ, decide_eq_true_eq]; exact atM_mem _ _, rfl⟩ (fun _ => rfl)
 have n9 : ¬ o.kind = 9 := by simpa using g9
 exact ret0 ⟨_, rfl, tno fun e => (by simp [WaitsOn, n2, n4, n6, n7, n8, n9] at e), rfl⟩ (fun _ => rfl)
set_option maxRecDepth 100000 in
theorem runs_c (m : Once) (q : Sl) (t : Int) (w : World) (h : At w [slo q cInt 1 m.waits]) (hb : m.waits.length ≤ 1048576) :
   Calls Tryz.prog 184 #[onceV m q, .int .i64 t] w (Tells w (OnceOk m ∧ m.state = 1 ∧ m.owner = t)) := by
 refine calls2 Tryz.func184 rfl tabOk w _ rfl _ rfl _ h ⟨rfl, rfl, trivial⟩ _ _ (by decide) ?_
 refine stop_call _ cl180 rfl rfl rfl rfl ⟨rfl, rfl⟩ (fun A w hW => onceValidS_c m q w ⟨hW.get 0 rfl (.refl _), trivial⟩ hb) ?_
 rintro v L ⟨b, rfl, hb2, rfl⟩
 apply CaseB.mk <;> intro g
 · have ok := hb2.1 z94
   apply CaseB.mk <;> intro g
   · have s1 : m.state = 1 := by simpa using g
     exact ret0 ⟨_, rfl, by simp [ok, s1], rfl⟩ (fun _ => rfl)
   · have s1 : ¬ m.state = 1 := by simpa using g
     exact ret0 ⟨_, rfl, tno fun e => s1 e.2.1, rfl⟩ (fun _ => rfl)
 · exact ret0 ⟨_, rfl, tno fun e => (by rw [hb2.2 e.1] at g; cases g), rfl⟩ (fun _ => rfl)
def ThreadS (s : State) (ops : List Op) (t at_ st q : Int) : Prop :=
 0 ≤ at_ ∧ at_ ≤ ops.length ∧ ((at_ = ops.length ∧ st = 3 ∧ q = 0) ∨
   ∃ op, ops[at_.toNat]? = some op ∧ ((st = 0 ∧ q = 0) ∨ (st = 1 ∧ q = 1 ∧ WaitsOn s op t) ∨ (st = 2 ∧ q = 0 ∧ op.kind = 4 ∧ ∃ x, s.onces[op.on.toNat]? = some x ∧ x.state = 1 ∧ x.owner = t)))
set_option maxHeartbeats 8000000 in
set_option maxRecDepth 100000 in
theorem thread_c (p : ProgH) (s : StateH) (t : Nat) (q : Int) (w : World) (h : At w [fR (progO p), fR (stateO s)]) (ok : ProgOk p.pure) (sh : SharedOk p.pure s.pure)
   (c0 : s.places.length = p.threads.length) (c1 : s.status.length = p.threads.length) (ht : t < p.threads.length) :
   Calls Tryz.prog 148 #[progV p, stateV s, .int .i64 t, .int .i64 q] w (Tells w (ThreadS s.pure (p.threads[t]).m t s.places[t] s.status[t] q)) := by
 have l3 : s.pure.onces.length = s.onces.length := by simp [StateH.pure]
 have hmem : (p.threads[t]).m ∈ p.pure.threads := List.mem_map_of_mem (List.getElem_mem ht)
 have l8 := (ok.ops _ hmem).1
 refine calls4 Tryz.func148 rfl tabOk w _ rfl _ rfl _ h ⟨rfl, rfl, rfl, rfl, trivial⟩ _ _ _ _ (by decide) ?_
 refine stop_idx encInt tabOk rfl rfl rfl rfl rfl ⟨rfl, rfl⟩ (rdVia 1 rfl (.ofR (stateO_places s))) t rfl z45 (fun ad0 => ?_)
 apply CaseB.mk <;> intro g
 · have n : ¬ 0 ≤ s.places[t] := by have g' := of_decide_eq_true g; omega
   exact ret0 ⟨_, rfl, tno fun e => n e.1, rfl⟩ (fun _ => rfl)
 have a0 : 0 ≤ s.places[t] := by have g' := of_decide_eq_false g; omega
 refine stop_idx encOpSH tabOk rfl rfl rfl rfl rfl ⟨rfl, rfl⟩ (rdVia 0 rfl (.trans (.R_R (progO_threads p)) (.ofR nest_h))) t rfl z45 (fun ad1 => ?_)
 apply CaseB.mk <;> intro g
 · have n : ¬ s.places[t] ≤ (p.threads[t]).m.length := by have g' := of_decide_eq_true g; omega
   exact ret0 ⟨_, rfl, tno fun e => n e.2.1, rfl⟩ (fun _ => rfl)
 have hz : s.places[t] = ((s.places[t]).toNat : Int) := (Int.toNat_of_nonneg a0).symm
 have a1 : s.places[t] ≤ (p.threads[t]).m.length := by have g' := of_decide_eq_false g; omega
 refine stop_idx encOpSH tabOk rfl rfl rfl rfl rfl ⟨rfl, rfl⟩ (rdVia 0 rfl (.trans (.R_R (progO_threads p)) (.ofR nest_h))) t rfl z45 (fun ad2 => ?_)
 apply CaseB.mk <;> intro g
 · have ae : s.places[t] = (p.threads[t]).m.length := by simpa using g
   have hT : ThreadS s.pure (p.threads[t]).m t s.places[t] s.status[t] q ↔ s.status[t] = 3 ∧ q = 0 := by
     constructor
     · rintro ⟨_, _, h | ⟨op, h, _⟩⟩
       · exact h.2
       · have := (List.getElem?_eq_some_iff.1 h).1; omega
     · intro h; exact ⟨a0, a1, .inl ⟨ae, h⟩⟩
   refine stop_idx encInt tabOk rfl rfl rfl rfl rfl ⟨rfl, rfl⟩ (rdVia 1 rfl (.ofR (stateO_status s))) t rfl z45 (fun ad3 => ?_)
   apply CaseB.mk <;> intro g
   · have s3 : s.status[t] = 3 := by simpa using g
     exact ret0 ⟨_, rfl, by rw [hT]; simp [s3], rfl⟩ (fun _ => rfl)
   · have s3 : ¬ s.status[t] = 3 := by simpa using g
     exact ret0 ⟨_, rfl, tno fun e => s3 (hT.1 e).1, rfl⟩ (fun _ => rfl)
 have ane : ¬ s.places[t] = (p.threads[t]).m.length := by simpa using g
 have hlo : (s.places[t]).toNat < (p.threads[t]).m.length := by omega
 obtain ⟨op, hop⟩ : ∃ op, (p.threads[t]).m[(s.places[t]).toNat]? = some op := ⟨_, List.getElem?_eq_getElem hlo⟩
 have hopg : (p.threads[t]).m[(s.places[t]).toNat] = op := by rw [List.getElem?_eq_getElem hlo] at hop; injection hop
 have hopok : OpOk p.pure op := (ok.ops _ hmem).2 _ (List.mem_of_getElem? hop)
 have hT : ThreadS s.pure (p.threads[t]).m t s.places[t] s.status[t] q ↔ ((s.status[t] = 0 ∧ q = 0) ∨ (s.status[t] = 1 ∧ q = 1 ∧ WaitsOn s.pure op t) ∨ (s.status[t] = 2 ∧ q = 0 ∧ op.kind = 4 ∧ ∃ x, s.pure.onces[op.on.toNat]? = some x ∧ x.state = 1 ∧ x.owner = t)) := by
   constructor
   · rintro ⟨_, _, h | ⟨op', h, h2⟩⟩
     · exact (ane h.1).elim
     · rw [hop] at h; injection h with h; subst h; exact h2
   · intro h; exact ⟨a0, a1, .inr ⟨op, hop, h⟩⟩
 refine stop_idx encOpSH tabOk rfl rfl rfl rfl rfl ⟨rfl, rfl⟩ (rdVia 0 rfl (.trans (.R_R (progO_threads p)) (.ofR nest_h))) t rfl z45 (fun ad3 => ?_)
 refine stop_idx encOp tabOk rfl rfl rfl rfl rfl ⟨rfl, rfl⟩ (rdVia 0 rfl (.trans (.R_R (progO_threads p)) (.ofR (threadsO_0 _ _ t ht)))) (s.places[t]).toNat (by first | exact hz | exact hz.symm | exact congrArg _ hz) z45 (fun ad4 => ?_)
 rw [hopg]
 refine stop_idx encInt tabOk rfl rfl rfl rfl rfl ⟨rfl, rfl⟩ (rdVia 1 rfl (.ofR (stateO_status s))) t rfl z45 (fun ad5 => ?_)
 refine CaseB.mk (fun g => ?_) (fun g0 => ?_)
 · have s0 : s.status[t] = 0 := by simpa using g
   exact ret0 ⟨_, rfl, by rw [hT, s0]; simp, rfl⟩ (fun _ => rfl)
 have n0 : ¬ s.status[t] = 0 := by simpa using g0
 refine CaseB.mk (fun g => ?_) (fun g1 => ?_)
 · have s1 : s.status[t] = 1 := by simpa using g
   apply CaseB.mk <;> intro g
   · have q1 : q = 1 := by simpa using g
     refine stop_call _ cl183 rfl rfl rfl rfl ⟨rfl, rfl⟩ (fun A w hW => waits_c p.pure s op t w ⟨hW.get 1 rfl (.refl _), trivial⟩ sh hopok) ?_
     rintro v L ⟨b, rfl, hb, rfl⟩
     exact ret0 ⟨_, rfl, by rw [hT, s1, q1, hb]; simp, rfl⟩ (fun _ => rfl)
   · have q1 : ¬ q = 1 := by simpa using g
     exact ret0 ⟨_, rfl, tno fun e => (by rcases hT.1 e with h | h | h; exact n0 h.1; exact q1 h.2.1; rw [s1] at h; exact absurd h.1 (by decide)), rfl⟩ (fun _ => rfl)
 have n1 : ¬ s.status[t] = 1 := by simpa using g1
 refine CaseB.mk (fun g => ?_) (fun g2 => ?_)
 · have s2 : s.status[t] = 2 := by simpa using g
   have hT2 : ThreadS s.pure (p.threads[t]).m t s.places[t] s.status[t] q ↔ (q = 0 ∧ op.kind = 4 ∧ ∃ x, s.pure.onces[op.on.toNat]? = some x ∧ x.state = 1 ∧ x.owner = t) := by
     rw [hT, s2]; simp
   apply CaseB.mk <;> intro g
   · have q0 : q = 0 := by simpa using g
     apply CaseB.mk <;> intro g
     · have k4 : op.kind = 4 := by simpa using g
       obtain ⟨o0, o1, _⟩ := (opOk4 k4).1 hopok
       have hl3 := sh.lonces
       have hlt : op.on.toNat < s.onces.length := by omega
       have hat : s.pure.onces[op.on.toNat]? = some (s.onces[op.on.toNat]).m := by simp [StateH.pure, hlt]
       have hok := sh.onces _ (List.mem_of_getElem? hat)
       have hq := onceOk_len hok
       refine stop_idx encOnceH tabOk rfl rfl rfl rfl rfl ⟨rfl, rfl⟩ (rdVia 1 rfl (.trans (.R_R (stateO_onces s)) (.ofR nest_h))) op.on.toNat (by omega) z45 (fun ad6 => ?_)
       refine stop_call _ cl184 rfl rfl rfl rfl ⟨rfl, rfl⟩ (fun A w hW => runs_c _ _ t w ⟨hW.get 1 rfl (.trans (.R_R (stateO_onces s)) (.ofR (oncesO_0 _ _ _ hlt))), trivial⟩ (by omega)) ?_
       rintro v L ⟨b, rfl, hb, rfl⟩
       exact ret0 ⟨_, rfl, by rw [hT2, hb, only hat]; simp [q0, k4, hok], rfl⟩ (fun _ => rfl)
     · have k4 : ¬ op.kind = 4 := by simpa using g
       exact ret0 ⟨_, rfl, tno fun e => k4 (hT2.1 e).2.1, rfl⟩ (fun _ => rfl)
   · have q0 : ¬ q = 0 := by simpa using g
     exact ret0 ⟨_, rfl, tno fun e => q0 (hT2.1 e).1, rfl⟩ (fun _ => rfl)
 have n2 : ¬ s.status[t] = 2 := by simpa using g2
 exact ret0 ⟨_, rfl, tno fun e => (by rcases hT.1 e with h | h | h; exact n0 h.1; exact n1 h.1; exact n2 h.1), rfl⟩ (fun _ => rfl)
def Own1 (p : Prog) (s : State) (i : Nat) (x : Once) : Prop := x.state = 1 → ∃ t : Nat, x.owner = t ∧ ∃ ops at_ op, p.threads[t]? = some ops ∧ s.status[t]? = some 2 ∧ s.places[t]? = some at_ ∧ ops[at_.toNat]? = some op ∧ op.on = i
def OwnersS (p : Prog) (s : State) : Prop := ∀ (i : Nat) x, s.onces[i]? = some x → Own1 p s i x
set_option maxHeartbeats 8000000 in
set_option maxRecDepth 100000 in
theorem owners_c (p : ProgH) (s : StateH) (w : World) (h : At w [fR (progO p), fR (stateO s)]) (ok : ProgOk p.pure) (sh : SharedOk p.pure s.pure)
   (c0 : s.places.length = p.threads.length) (c1 : s.status.length = p.threads.length)
   (hst : ∀ (t : Nat) (ht : t < p.threads.length), s.status[t] = 2 → 0 ≤ s.places[t] ∧ s.places[t] < (p.threads[t]).m.length) :
   Calls Tryz.prog 149 #[progV p, stateV s] w (Tells w (OwnersS p.pure s.pure)) := by
 have l3 : s.pure.onces.length = s.onces.length := by simp [StateH.pure]
 have hl3 := sh.lonces
 have n4 : p.threads.length ≤ 4 := by have := ok.n4; simpa [ProgH.pure] using this
 refine calls2 Tryz.func149 rfl tabOk w _ rfl _ rfl _ h ⟨rfl, rfl, rfl, rfl, trivial⟩ _ _ (by decide) ?_
 refine LoopW.mk ⟨{ k : Nat // k ≤ s.onces.length ∧ ∀ (i : Nat) x, i < k → s.pure.onces[i]? = some x → Own1 p.pure s.pure i x },
   fun k => .mk [(2, .p 0 0), (3, .p 1 0), (5, .v (.int .i64 (k.1 : Int)))] 2 0 [(0, 26, 5), (1, 35, 9)] [((0, 0), .v (p.h0.val p.sems.length)), ((0, 1), .v (p.h1.val p.groups.length)), ((0, 2), .v (p.h2.val p.barriers.length)), ((0, 3), .v (p.h3.val p.rooms.length)), ((0, 4), .v (p.h4.val p.threads.length)), ((1, 0), .v (s.h0.val s.places.length)), ((1, 1), .v (s.h1.val s.status.length)), ((1, 2), .v (s.h2.val s.sems.length)), ((1, 3), .v (s.h3.val s.onces.length)), ((1, 4), .v (s.h4.val s.groups.length)), ((1, 5), .v (s.h5.val s.barriers.length)), ((1, 6), .v (s.h6.val s.chans.length)), ((1, 7), .v (s.h7.val s.said.length)), ((1, 8), .v (.int .i64 s.fault))] [fR (progO p), fR (stateO s)],
   fun k => s.onces.length - k.1, ⟨0, Nat.zero_le _, fun i x hi => by omega⟩, ?_, ?_⟩
 · exact weak_mk [0, 1] zw2 zw0 zw2 zw5 zw4 rfl rfl
 rintro ⟨k, hk, hinv⟩
 apply CaseB.mk <;> intro g
 · have hlt : k < s.onces.length := by simpa using g
   have hw := e_succ k _ hlt (by omega)
   have hat : s.pure.onces[k]? = some (s.onces[k]).m := by simp [StateH.pure, hlt]
   have hok := sh.onces _ (List.mem_of_getElem? hat)
   refine stop_idx encOnceH tabOk rfl rfl rfl rfl rfl ⟨rfl, rfl⟩ (rdVia 1 rfl (.trans (.R_R (stateO_onces s)) (.ofR nest_h))) k rfl z45 (fun ad => ?_)
   apply CaseB.mk <;> intro g
   · have n : ¬ (s.onces[k]).m.state = 1 := by simpa using g
     refine ⟨⟨k + 1, by omega, fun i x hi hx => ?_⟩, ?_, by simp only; omega⟩
     · by_cases e : i < k
       · exact hinv i x e hx
       · obtain rfl : i = k := by omega
         rw [hat] at hx
         injection hx with hx
         subst hx
         exact fun e => (n e).elim
     · exact weak_mk [0, 1] zw1 zw0 zw1 zw5 zw3 rfl rfl
   have r1 : (s.onces[k]).m.state = 1 := by simpa using g
   have w0 : 0 ≤ (s.onces[k]).m.owner := by
     rcases hok with h | h | h
     · omega
     · have h2 := h.2.1; simp [isThread] at h2; omega
     · omega
   obtain ⟨t, hz⟩ : ∃ t : Nat, (s.onces[k]).m.owner = (t : Int) := ⟨_, (Int.toNat_of_nonneg w0).symm⟩
   refine draw_start tabOk z97 z97 z97 200 [((0, 4), .v (p.h4.val p.threads.length)), ((1, 0), .v (s.h0.val s.places.length)), ((1, 1), .v (s.h1.val s.status.length)), ((2, 1), .v (.int .i64 (s.onces[k]).m.owner))] [0, 1] [_, _] z119 z134 ⟨rfl, rfl, trivial⟩ rfl ?_
   apply CaseB.mk <;> intro g
   · have n : ¬ t < p.threads.length := by have g' := of_decide_eq_true g; omega
     refine ret0 ⟨_, rfl, tno fun e => n ?_, rfl⟩ (fun _ => rfl)
     obtain ⟨t', e1, ops, at_, op, e2, _⟩ := e k _ hat r1
     have := (List.getElem?_eq_some_iff.1 e2).1
     have e3 : p.pure.threads.length = p.threads.length := by simp [ProgH.pure]
     omega
   have ht : t < p.threads.length := by have g' := of_decide_eq_false g; omega
   refine d_idx (ti := tiOf tab) encInt tabOk rfl rfl rfl rfl rfl ⟨rfl, rfl⟩ (rdVia 1 rfl (.ofR (stateO_status s))) t hz z45 (fun ad2 => ?_)
   apply CaseB.mk <;> intro g
   · have n : ¬ s.status[t] = 2 := by simpa using g
     refine ret0 ⟨_, rfl, tno fun e => n ?_, rfl⟩ (fun _ => rfl)
     obtain ⟨t', e1, ops, at_, op, e2, e3, _⟩ := e k _ hat r1
     obtain rfl : t' = t := by omega
     have e4 : s.status[t']? = some 2 := e3
     exact (List.getElem?_eq_some_iff.1 e4).2
   have s2 : s.status[t] = 2 := by simpa using g
   obtain ⟨p0, p1⟩ := hst t ht s2
   have hz2 : s.places[t] = ((s.places[t]).toNat : Int) := (Int.toNat_of_nonneg p0).symm
   have hlo : (s.places[t]).toNat < (p.threads[t]).m.length := by omega
   obtain ⟨op, hop⟩ : ∃ op, (p.threads[t]).m[(s.places[t]).toNat]? = some op := ⟨_, List.getElem?_eq_getElem hlo⟩
   have hopg : (p.threads[t]).m[(s.places[t]).toNat] = op := by rw [List.getElem?_eq_getElem hlo] at hop; injection hop
   have hst2 : s.pure.status[t]? = some 2 := by
     show s.status[t]? = some 2
     rw [List.getElem?_eq_getElem (by omega), s2]
   have hth : p.pure.threads[t]? = some (p.threads[t]).m := by simp [ProgH.pure, ht]
   have hpl : s.pure.places[t]? = some s.places[t] := List.getElem?_eq_getElem (show t < s.places.length by omega)
   have hO : Own1 p.pure s.pure k (s.onces[k]).m ↔ op.on = k := by
     constructor
     · intro e
       obtain ⟨t', e1, ops, at_, op', e2, e3, e4, e5, e6⟩ := e r1
       obtain rfl : t' = t := by omega
       rw [hth] at e2; injection e2 with e2; subst e2
       rw [hpl] at e4; injection e4 with e4; subst e4
       rw [hop] at e5; injection e5 with e5; subst e5
       exact e6
     · intro e _
       exact ⟨t, hz, _, _, _, hth, hst2, hpl, hop, e⟩
   refine d_idx (ti := tiOf tab) encOpSH tabOk rfl rfl rfl rfl rfl ⟨rfl, rfl⟩ (rdVia 0 rfl (.trans (.R_R (progO_threads p)) (.ofR nest_h))) t hz z45 (fun ad3 => ?_)
   refine d_idx (ti := tiOf tab) encInt tabOk rfl rfl rfl rfl rfl ⟨rfl, rfl⟩ (rdVia 1 rfl (.ofR (stateO_places s))) t hz z45 (fun ad4 => ?_)
   refine d_idx (ti := tiOf tab) encOp tabOk rfl rfl rfl rfl rfl ⟨rfl, rfl⟩ (rdVia 0 rfl (.trans (.R_R (progO_threads p)) (.ofR (threadsO_0 _ _ t ht)))) (s.places[t]).toNat hz2 z45 (fun ad5 => ?_)
   rw [hopg]
   apply CaseB.mk <;> intro g
   · have n : ¬ op.on = k := by simpa using g
     exact ret0 ⟨_, rfl, tno fun e => n (hO.1 (e k _ hat)), rfl⟩ (fun _ => rfl)
   have q1 := hO.2 z94
   refine ⟨⟨k + 1, by omega, fun i x hi hx => ?_⟩, ?_, by simp only; omega⟩
   · by_cases e : i < k
     · exact hinv i x e hx
     · obtain rfl : i = k := by omega
       rw [hat] at hx
       injection hx with hx
       subst hx
       exact q1
   · exact weak_mk [0, 1] zw1 zw0 zw1 zw5 zw3 rfl rfl
 have hge : s.onces.length ≤ k := by simpa using g
 exact ret0 ⟨_, rfl, tyes fun i x hx => hinv i x z82 hx, rfl⟩ (fun _ => rfl)
end Go.Proofs.YtijmjecehppbfaaGreat
