/- FnStepOthers: texts that its proof stands on, part 6. -/
import Derived.Test.YtjkkoonennpceaaGreatQStepOtherse
namespace Go.Proofs.YtjkkoonennpceaaGreat
open Go Go.Sx Go.RowKit
structure Chan.Valid (m : Chan) : Prop where
 r0 : 0 ≤ m.room
 r1 : m.room ≤ 4
 it : (m.items.length : Int) ≤ m.room
 iv : ∀ x ∈ m.items, isValue x = true
 sv : ∀ l ∈ m.senders, isValue l.v = true
 di : distinct m.threads = true
 se : m.senders ≠ [] → (m.items.length : Int) = m.room ∧ m.getters = [] ∧ m.closed = false
 ge : m.getters ≠ [] → m.items = [] ∧ m.closed = false
instance (m : Chan) : Decidable m.Valid :=
 decidable_of_iff ((0 ≤ m.room ∧ m.room ≤ 4 ∧ (m.items.length : Int) ≤ m.room) ∧ (∀ x ∈ m.items, isValue x = true) ∧ (∀ l ∈ m.senders, isValue l.v = true) ∧ distinct m.threads = true ∧ (m.senders ≠ [] → (m.items.length : Int) = m.room ∧ m.getters = [] ∧ m.closed = false) ∧ (m.getters ≠ [] → m.items = [] ∧ m.closed = false))
   ⟨fun ⟨⟨a, b, c⟩, d, e, f, g, h⟩ => ⟨a, b, c, d, e, f, g, h⟩, fun ⟨a, b, c, d, e, f, g, h⟩ => ⟨⟨a, b, c⟩, d, e, f, g, h⟩⟩
def Chan.valid (m : Chan) : Bool := decide m.Valid
theorem Chan.invalid {m : Chan} (h : ¬ m.Valid) : Value.bool false = Value.bool m.valid := by rw [Chan.valid, decide_eq_false h]
theorem Chan.isvalid {m : Chan} (h : m.Valid) : Value.bool true = Value.bool m.valid := by rw [Chan.valid, decide_eq_true h]
theorem all_take_succ {α : Type} {p : α → Prop} {xs : List α} {k : Nat} (hk : k < xs.length) (h : ∀ x ∈ xs.take k, p x) (h1 : p xs[k]) : ∀ x ∈ xs.take (k + 1), p x := by
 intro x hx
 rw [List.take_succ_eq_append_getElem hk] at hx
 rcases List.mem_append.1 hx with hx | hx
 · exact h x hx
 · simp at hx; subst hx; exact h1
theorem len_pos {α : Type} {xs : List α} : decide ((xs.length : Int) > 0) = true ↔ xs ≠ [] := by
 cases xs <;> simp
set_option maxHeartbeats 2000000 in
set_option maxRecDepth 100000 in
theorem valid_c (m : Chan) (i s g : Sl) (w : World) (h : At w [slo i cInt 1 m.items, slo s cLet 2 m.senders, slo g cInt 1 m.getters]) (hb : m.small) :
   Calls Tryz.prog 61 #[chanV m i s g] w (Ret w fun v L => v = .bool m.valid ∧ L = []) := by
 obtain ⟨b1, b2, b3⟩ := hb
 have bT : m.threads.length ≤ 8589934592 := by simp [Chan.threads]; omega
 have hno : ∀ {P : Prop}, ¬ P → (m.Valid → P) → ∀ A, resV A [SV.lit false] = Value.bool m.valid := fun h1 h2 _ => Chan.invalid fun hv => h1 (h2 hv)
 refine calls1 Tryz.func61 rfl tabOk w _ rfl _ rfl _ h z129 _ (by decide) ?_
 refine CaseB.mk (fun h1 => ?_) (fun h1 => ?_)
 · exact ret0 ⟨rfl, rfl⟩ (hno (by simp at h1; omega) Chan.Valid.r0)
 · have r0 : 0 ≤ m.room := by simp at h1; omega
   refine CaseB.mk (fun h2 => ?_) (fun h2 => ?_)
   · exact ret0 ⟨rfl, rfl⟩ (hno (by simp at h2; omega) Chan.Valid.r1)
   · have r1 : m.room ≤ 4 := by simp at h2; omega
     refine CaseB.mk (fun h3 => ?_) (fun h3 => ?_)
     · exact ret0 ⟨rfl, rfl⟩ (hno (by simp at h3; omega) Chan.Valid.it)
     · have it : (m.items.length : Int) ≤ m.room := by simp at h3; omega
       refine LoopW.mk ⟨{ k : Nat // k ≤ m.items.length ∧ ∀ x ∈ m.items.take k, isValue x = true },
         fun p => .mk [(1, .p 0 0), (24, .v (i.val m.items.length)), (25, .v (.int .i64 m.items.length)), (26, .v (.int .i64 p.1))] 1 0 [(0, 80, 5)] [((0, 0), .v (.int .i64 m.room)), ((0, 1), .v (i.val m.items.length)), ((0, 2), .v (s.val m.senders.length)), ((0, 3), .v (g.val m.getters.length)), ((0, 4), .v (.bool m.closed))] [slo i cInt 1 m.items, slo s cLet 2 m.senders, slo g cInt 1 m.getters],
         fun p => m.items.length - p.1, ⟨0, Nat.zero_le _, by simp⟩, ?_, ?_⟩
       · exact weak_mk [0, 1, 2] zw2 zw0 zw2 zw5 zw4 rfl rfl
       · rintro ⟨k, hk, ha⟩
         refine CaseB.mk (fun h => ?_) (fun h => ?_)
         · have hlt : k < m.items.length := by simpa using h
           refine stop_idx encInt tabOk rfl rfl rfl rfl rfl ⟨rfl, rfl⟩ z30 k rfl z38 (fun ad => ?_)
           refine stop_call _ cl63 rfl rfl rfl rfl ⟨rfl, rfl⟩ (fun A w hW => isValue_c _ w) ?_
           rintro v L ⟨rfl, rfl⟩
           refine CaseB.mk (fun h => ?_) (fun h => ?_)
           · exact ret0 ⟨rfl, rfl⟩ (hno z89 (fun hv => hv.iv _ (List.getElem_mem hlt)))
           · have hw := wrapN k _ hlt b1
             refine ⟨⟨k + 1, by omega, all_take_succ hlt ha z89⟩, ?_, by simp; omega⟩
             exact weak_mk [0, 1, 2] zw1 zw0 zw1 zw5 zw3 rfl rfl
         · have hge : m.items.length ≤ k := by simpa using h
           rw [List.take_of_length_le hge] at ha
           refine LoopW.mk ⟨{ k : Nat // k ≤ m.senders.length ∧ ∀ x ∈ m.senders.take k, isValue x.v = true },
             fun p => .mk [(1, .p 0 0), (35, .v (s.val m.senders.length)), (36, .v (.int .i64 m.senders.length)), (37, .v (.int .i64 p.1))] 1 0 [(0, 80, 5)] [((0, 0), .v (.int .i64 m.room)), ((0, 1), .v (i.val m.items.length)), ((0, 2), .v (s.val m.senders.length)), ((0, 3), .v (g.val m.getters.length)), ((0, 4), .v (.bool m.closed))] [slo i cInt 1 m.items, slo s cLet 2 m.senders, slo g cInt 1 m.getters],
             fun p => m.senders.length - p.1, ⟨0, Nat.zero_le _, by simp⟩, ?_, ?_⟩
           · exact weak_mk [0, 1, 2] zw2 zw0 zw2 zw5 zw4 rfl rfl
           · rintro ⟨k, hk, hs⟩
             refine CaseB.mk (fun h => ?_) (fun h => ?_)
             · have hlt : k < m.senders.length := by simpa using h
               refine stop_idx encLet tabOk rfl rfl rfl rfl rfl ⟨rfl, rfl⟩ z30 k rfl z38 (fun ad => ?_)
               refine stop_call _ cl63 rfl rfl rfl rfl ⟨rfl, rfl⟩ (fun A w hW => isValue_c _ w) ?_
               rintro v L ⟨rfl, rfl⟩
               refine CaseB.mk (fun h => ?_) (fun h => ?_)
               · exact ret0 ⟨rfl, rfl⟩ (hno z89 (fun hv => hv.sv _ (List.getElem_mem hlt)))
               · have hw := wrapN k _ hlt b2
                 refine ⟨⟨k + 1, by omega, all_take_succ (p := fun l : Letter => isValue l.v = true) hlt hs z89⟩, ?_, by simp; omega⟩
                 exact weak_mk [0, 1, 2] zw1 zw0 zw1 zw5 zw3 rfl rfl
             · have hge : m.senders.length ≤ k := by simpa using h
               rw [List.take_of_length_le hge] at hs
               refine stop_call _ cl108 rfl rfl rfl rfl ⟨rfl, rfl⟩ (fun A w hW => threads_c m i s g w ⟨z29, z29, z29, trivial⟩ ⟨b1, b2, b3⟩) ?_
               rintro v L ⟨y, rfl, rfl⟩
               refine stop_call _ cl107 rfl rfl rfl rfl ⟨rfl, rfl⟩ (fun A w hW => distinctThreads_c y m.threads w ⟨z29, trivial⟩ bT) ?_
               rintro v L ⟨rfl, rfl⟩
               refine CaseB.mk (fun h => ?_) (fun h => ?_)
               · exact ret0 ⟨rfl, rfl⟩ (hno z89 Chan.Valid.di)
               · have hd : distinct m.threads = true := by simpa using h
                 have fin : (m.senders ≠ [] → (m.items.length : Int) = m.room ∧ m.getters = [] ∧ m.closed = false) → (m.getters ≠ [] → m.items = [] ∧ m.closed = false) → m.Valid := fun x y => ⟨r0, r1, it, ha, hs, hd, x, y⟩
                 refine CaseB.mk (fun q1 => ?_) (fun q1 => ?_)
                 · have hs1 : m.senders ≠ [] := len_pos.1 q1
                   refine CaseB.mk (fun q2 => ?_) (fun q2 => ?_)
                   · exact ret0 ⟨rfl, rfl⟩ (fun _ => Chan.invalid (fun hv => by have := (hv.se hs1).1; simp at q2; omega))
                   · have e2 : (m.items.length : Int) = m.room := by simpa using q2
                     refine CaseB.mk (fun q3 => ?_) (fun q3 => ?_)
                     · exact ret0 ⟨rfl, rfl⟩ (fun _ => Chan.invalid (fun hv => len_pos.1 q3 (hv.se hs1).2.1))
                     · have e3 : m.getters = [] := by
                         cases hg : m.getters with
                         | nil => rfl
                         | cons a r => rw [hg] at q3; simp at q3
                       refine CaseB.mk (fun q4 => ?_) (fun q4 => ?_)
                       · exact ret0 ⟨rfl, rfl⟩ (fun _ => Chan.invalid (fun hv => by have := (hv.se hs1).2.2; rw [q4] at this; cases this))
                       · have hS : m.senders ≠ [] → (m.items.length : Int) = m.room ∧ m.getters = [] ∧ m.closed = false := fun _ => ⟨e2, e3, q4⟩
                         refine CaseB.mk (fun q5 => ?_) (fun q5 => ?_)
                         · have hg : m.getters = [] := by simpa using q5
                           exact ret0 ⟨rfl, rfl⟩ (fun _ => Chan.isvalid (fin hS (fun hn => absurd hg hn)))
                         · have hg : m.getters ≠ [] := by simpa using q5
                           refine CaseB.mk (fun q6 => ?_) (fun q6 => ?_)
                           · have hi : m.items = [] := by simpa using q6
                             refine ret0 ⟨rfl, rfl⟩ (fun _ => ?_)
                             show Value.bool (!m.closed) = _
                             cases hc : m.closed with
                             | false => exact Chan.isvalid (fin hS (fun _ => ⟨hi, hc⟩))
                             | true => exact Chan.invalid (fun hv => by have := (hv.ge hg).2; rw [hc] at this; cases this)
                           · have hi : m.items ≠ [] := by simpa using q6
                             exact ret0 ⟨rfl, rfl⟩ (fun _ => Chan.invalid (fun hv => hi (hv.ge hg).1))
                 · have hs1 : m.senders = [] := by
                     cases hg : m.senders with
                     | nil => rfl
                     | cons a r => rw [hg] at q1; simp at q1
                   have hS : m.senders ≠ [] → (m.items.length : Int) = m.room ∧ m.getters = [] ∧ m.closed = false := fun hn => absurd hs1 hn
                   refine CaseB.mk (fun q5 => ?_) (fun q5 => ?_)
                   · have hg : m.getters = [] := by simpa using q5
                     exact ret0 ⟨rfl, rfl⟩ (fun _ => Chan.isvalid (fin hS (fun hn => absurd hg hn)))
                   · have hg : m.getters ≠ [] := by simpa using q5
                     refine CaseB.mk (fun q6 => ?_) (fun q6 => ?_)
                     · have hi : m.items = [] := by simpa using q6
                       refine ret0 ⟨rfl, rfl⟩ (fun _ => ?_)
                       show Value.bool (!m.closed) = _
                       cases hc : m.closed with
                       | false => exact Chan.isvalid (fin hS (fun _ => ⟨hi, hc⟩))
                       | true => exact Chan.invalid (fun hv => by have := (hv.ge hg).2; rw [hc] at this; cases this)
                     · have hi : m.items ≠ [] := by simpa using q6
                       exact ret0 ⟨rfl, rfl⟩ (fun _ => Chan.invalid (fun hv => hi (hv.ge hg).1))
theorem length_le_of_sub {xs ys : List Int} (h : xs.Nodup) (hs : ∀ x ∈ xs, x ∈ ys) : xs.length ≤ ys.length := by
 induction xs generalizing ys with
 | nil => simp
 | cons x r ih =>
   have hx := hs x (by simp)
   rw [List.nodup_cons] at h
   have := ih (ys := ys.erase x) h.2 (fun y hy => (List.mem_erase_of_ne (fun e => h.1 (by subst e; exact hy))).2 (hs y (by simp [hy])))
   rw [List.length_erase_of_mem hx] at this
   have : 0 < ys.length := List.length_pos_of_mem hx
   simp only [List.length_cons]
   omega
theorem distinct_len {xs : List Int} (h : distinct xs = true) : xs.length ≤ 6 := by
 simp only [distinct, decide_eq_true_eq] at h
 have hs : ∀ x ∈ xs, x ∈ ([0, 1, 2, 3, 4, 5] : List Int) := fun x hx => by
   have := h.2 x hx
   simp [isThread] at this
   simp
   omega
 exact length_le_of_sub h.1 hs
theorem distinct_take {xs : List Int} (h : (xs.take 7).Nodup ∧ ∀ x ∈ xs.take 7, isThread x = true) : xs.length ≤ 6 := by
 have hd : distinct (xs.take 7) = true := by simpa [distinct] using h
 have := distinct_len hd
 simp at this
 omega
set_option maxRecDepth 100000 in
theorem l2Waits_c (i : Sl) (xs : List Int) (w : World) (h : At w [slo i cInt 1 xs]) (hb : xs.length ≤ 8589934592) :
   Calls Tryz.prog 158 #[i.val xs.length] w (Ret w fun v L => v = .bool (distinct xs) ∧ L = []) := by
 refine calls1 Tryz.func158 rfl tabOk w _ rfl _ rfl _ h ⟨rfl, rfl, trivial⟩ _ (by decide) ?_
 refine LoopW.mk ⟨{ k : Nat // k ≤ xs.length ∧ k ≤ 7 ∧ (xs.take k).Nodup ∧ ∀ x ∈ xs.take k, isThread x = true },
   fun p => .mk [(0, .v (i.val xs.length)), (3, .v (.int .i64 p.1))] 0 0 [] [] [slo i cInt 1 xs],
   fun p => xs.length - p.1, ⟨0, Nat.zero_le _, by omega, by simp, by simp⟩, ?_, ?_⟩
 · exact weak_mk [0] zw2 zw0 zw2 zw5 zw4 rfl rfl
 · rintro ⟨k, hk, hk7, hn, ha⟩
   have hfin : ¬ (k < xs.length ∧ k ≤ 6) → decide ((xs.length : Int) ≤ 6) = distinct xs := by
     intro hc
     rcases Nat.lt_or_ge k xs.length with h1 | h1
     · have e : k = 7 := by omega
       subst e
       have := distinct_take ⟨hn, ha⟩
       omega
     · rw [List.take_of_length_le h1] at hn ha
       have hd : distinct xs = true := by simp only [distinct, decide_eq_true_eq]; exact ⟨hn, ha⟩
       have := distinct_len hd
       rw [hd, decide_eq_true_eq]
       omega
   refine CaseB.mk (fun h => ?_) (fun h => ?_)
   · have hlt : k < xs.length := by simpa using h
     refine CaseB.mk (fun h => ?_) (fun h => ?_)
     · have h6 : k ≤ 6 := by simp at h; omega
       refine draw_start tabOk z95 z95 z95 200 [] [0] [_] trivial trivial ⟨rfl, trivial⟩ rfl ?_
       refine d_idx (ti := tiOf tab) encInt tabOk rfl rfl rfl rfl rfl ⟨rfl, rfl⟩ z30 k rfl z38 (fun ad => ?_)
       refine d_call _ cl157 rfl rfl rfl rfl ⟨rfl, rfl⟩ (fun A w hW => l1Thread_c _ w) ?_
       rintro v L ⟨rfl, rfl⟩
       refine CaseB.mk (fun h => ?_) (fun h => ?_)
       · have h1 : isThread xs[k] = false := by simpa using h
         exact ret0 ⟨congrArg Value.bool (distinct_no hlt (.inl h1)).symm, rfl⟩ (fun _ => rfl)
       · have h1 : isThread xs[k] = true := by simpa using h
         refine d_cut (ti := tiOf tab) tabOk rfl rfl rfl rfl ⟨rfl, rfl⟩ rfl rfl z30 (0) (k) ((xs.take k)).length rfl rfl z38 z38 z38 ?_
         refine d_idx (ti := tiOf tab) encInt tabOk rfl rfl rfl rfl rfl ⟨rfl, rfl⟩ z30 k rfl z38 (fun ad => ?_)
         refine d_call _ cl94 rfl rfl rfl rfl ⟨rfl, rfl⟩ (fun A w hW => l2At_c (i.cut 0 1) (xs.take k) _ w ⟨atCut encInt 0 k (by omega) (by omega) (by simp) (hW.rd 0 rfl), trivial⟩ z94) ?_
         rintro v L ⟨rfl, rfl⟩
         refine CaseB.mk (fun h => ?_) (fun h => ?_)
         · have hm : xs[k] ∈ xs.take k := (atM_mem _ _).1 z89
           exact ret0 ⟨congrArg Value.bool (distinct_no hlt (.inr hm)).symm, rfl⟩ (fun _ => rfl)
         · have hm : ¬ xs[k] ∈ xs.take k := fun hm => by have := (atM_mem _ _).2 hm; simp at h; omega
           have hT : xs.take (k + 1) = xs.take k ++ [xs[k]] := List.take_succ_eq_append_getElem hlt
           have hw := wrapN2 k _ hlt hb
           refine ⟨⟨k + 1, by omega, by omega, (nodup_take_succ hlt).2 ⟨hn, hm⟩, all_take_succ hlt ha h1⟩, ?_, by simp; omega⟩
           exact weak_mk [0] zw1 zw0 zw1 zw5 zw3 rfl rfl
     · have h6 : ¬ k ≤ 6 := by simp at h; omega
       exact ret0 ⟨congrArg Value.bool (hfin (fun h => h6 h.2)), rfl⟩ (fun _ => rfl)
   · have hlt : ¬ k < xs.length := by simpa using h
     exact ret0 ⟨congrArg Value.bool (hfin (fun h => hlt h.1)), rfl⟩ (fun _ => rfl)
set_option maxRecDepth 100000 in
theorem l5Waits_c (m : Chan) (i s g : Sl) (t : Int) (w : World) (h : At w [slo i cInt 1 m.items, slo s cLet 2 m.senders, slo g cInt 1 m.getters]) (hb : m.small) (h7 : m.senders.length ≤ 7) :
   Calls Tryz.prog 175 #[chanV m i s g, .int .i64 t] w (Ret w fun v L => v = .bool (decide (t ∈ m.threads)) ∧ L = []) := by
 obtain ⟨b1, b2, b3⟩ := hb
 have e7 : m.senders.take 7 = m.senders := List.take_of_length_le h7
 refine calls2 Tryz.func175 rfl tabOk w _ rfl _ rfl _ h z129 _ _ (by decide) ?_
 refine stop_call _ cl118 rfl rfl rfl rfl ⟨rfl, rfl⟩ (fun A w hW => l5Threads_c s m.senders w ⟨z29, trivial⟩ b2) ?_
 rw [e7]
 rintro v L ⟨y, rfl, rfl⟩
 refine stop_call _ cl94 rfl rfl rfl rfl ⟨rfl, rfl⟩ (fun A w hW => l2At_c y (m.senders.map Letter.t) t w ⟨z29, trivial⟩ z94) ?_
 rintro v L ⟨rfl, rfl⟩
 refine CaseB.mk (fun h => ?_) (fun h => ?_)
 · have hm : t ∈ m.senders.map Letter.t := (atM_mem _ _).1 z89
   refine ret0 ⟨?_, rfl⟩ (fun _ => rfl)
   simp [Chan.threads]
   exact .inl (by simpa using hm)
 · have hm : ¬ t ∈ m.senders.map Letter.t := fun hm => by have := (atM_mem _ _).2 hm; simp at h; omega
   refine stop_call _ cl94 rfl rfl rfl rfl ⟨rfl, rfl⟩ (fun A w hW => l2At_c g m.getters t w ⟨z29, trivial⟩ b3) ?_
   rintro v L ⟨rfl, rfl⟩
   refine ret0 ⟨?_, rfl⟩ (fun _ => rfl)
   have e : (t ∈ m.threads) ↔ t ∈ m.getters := by simp only [Chan.threads, List.mem_append]; exact ⟨fun h => h.resolve_left hm, .inr⟩
   simp [e, atM_mem]
structure SemOk (m : Sem) : Prop where
 l1 : 1 ≤ m.limit
 l9 : m.limit ≤ 9
 f0 : 0 ≤ m.free
 fl : m.free ≤ m.limit
 q6 : m.queue.length ≤ 6
 cnt : ∀ w ∈ m.queue, 1 ≤ w.n ∧ w.n ≤ m.limit
 dis : distinct (m.queue.map (·.t)) = true
 hd : ∀ w, m.queue[0]? = some w → m.free < w.n
def OnceOk (m : Once) : Prop := (m.state = 0 ∧ m.owner = 0 ∧ m.value = 0 ∧ m.waits = []) ∨ (m.state = 1 ∧ isThread m.owner = true ∧ m.value = 0 ∧ distinct m.waits = true ∧ m.owner ∉ m.waits) ∨ (m.state = 2 ∧ isThread m.owner = true ∧ isValue m.value = true ∧ m.waits = [])
def GroupOk (m : Group) : Prop := isValue m.count = true ∧ distinct m.waits = true ∧ (0 < m.count ∨ m.waits = [])
def BarrierOk (m : Barrier) : Prop := 1 ≤ m.parties ∧ m.parties ≤ 6 ∧ 0 ≤ m.round ∧ m.round ≤ 9999 ∧ (m.waits.length : Int) < m.parties ∧ distinct m.waits = true
theorem onceOk0 {m : Once} (h : m.state = 0) : OnceOk m ↔ m.owner = 0 ∧ m.value = 0 ∧ m.waits = [] := by simp [OnceOk, h]
theorem onceOk1 {m : Once} (h : m.state = 1) : OnceOk m ↔ isThread m.owner = true ∧ m.value = 0 ∧ distinct m.waits = true ∧ m.owner ∉ m.waits := by simp [OnceOk, h]
theorem onceOk2 {m : Once} (h : m.state = 2) : OnceOk m ↔ isThread m.owner = true ∧ isValue m.value = true ∧ m.waits = [] := by simp [OnceOk, h]
theorem onceOkN {m : Once} (h0 : ¬ m.state = 0) (h1 : ¬ m.state = 1) (h2 : ¬ m.state = 2) : ¬ OnceOk m := by simp [OnceOk, h0, h1, h2]
set_option maxHeartbeats 4000000 in
set_option maxRecDepth 100000 in
theorem onceValid_c (m : Once) (q : Sl) (w : World) (h : At w [slo q cInt 1 m.waits]) (hb : m.waits.length ≤ 1048576) :
   Calls Tryz.prog 62 #[onceV m q] w (Tells w (OnceOk m)) := by
 refine calls1 Tryz.func62 rfl tabOk w _ rfl _ rfl _ h ⟨rfl, rfl, trivial⟩ _ (by decide) ?_
 refine CaseB.mk (fun k => ?_) (fun k0 => ?_)
 · have hx := onceOk0 (m := m) z92
   apply CaseB.mk <;> intro g
   rotate_left
   · have q : ¬ (m.owner = 0) := by simpa using g
     exact ret0 ⟨_, rfl, tno fun e => q (hx.1 e).1, rfl⟩ (fun _ => rfl)
   have c1 : m.owner = 0 := by simpa using g
   apply CaseB.mk <;> intro g
   rotate_left
   · have q : ¬ (m.value = 0) := by simpa using g
     exact ret0 ⟨_, rfl, tno fun e => q (hx.1 e).2.1, rfl⟩ (fun _ => rfl)
   have c2 : m.value = 0 := by simpa using g
   exact ret0 ⟨_, rfl, by rw [hx]; simp [c1, c2], rfl⟩ (fun _ => rfl)
 refine CaseB.mk (fun k => ?_) (fun k1 => ?_)
 · have hx := onceOk1 (m := m) z92
   refine stop_call _ cl109 rfl rfl rfl rfl ⟨rfl, rfl⟩ (fun A w hW => isThread_c _ w) ?_
   rintro v L ⟨rfl, rfl⟩
   apply CaseB.mk <;> intro g
   rotate_left
   · have q : ¬ (isThread m.owner = true) := by simpa using g
     exact ret0 ⟨_, rfl, tno fun e => q (hx.1 e).1, rfl⟩ (fun _ => rfl)
   have c1 : isThread m.owner = true := g
   apply CaseB.mk <;> intro g
   rotate_left
   · have q : ¬ (m.value = 0) := by simpa using g
     exact ret0 ⟨_, rfl, tno fun e => q (hx.1 e).2.1, rfl⟩ (fun _ => rfl)
   have c2 : m.value = 0 := by simpa using g
   apply CaseB.mk <;> intro g
   rotate_left
   · have q : ¬ (m.waits.length ≤ 6) := by have g' := of_decide_eq_false g; omega
     exact ret0 ⟨_, rfl, tno fun e => q (distinct_len (hx.1 e).2.2.1), rfl⟩ (fun _ => rfl)
   have c6 : m.waits.length ≤ 6 := by have g' := of_decide_eq_true g; omega
   refine stop_call _ cl107 rfl rfl rfl rfl ⟨rfl, rfl⟩ (fun A w hW => distinctThreads_c q m.waits w ⟨z29, trivial⟩ (by omega)) ?_
   rintro v L ⟨rfl, rfl⟩
   apply CaseB.mk <;> intro g
   rotate_left
   · have q : ¬ (distinct m.waits = true) := by simpa using g
     exact ret0 ⟨_, rfl, tno fun e => q (hx.1 e).2.2.1, rfl⟩ (fun _ => rfl)
   have c3 : distinct m.waits = true := g
   refine stop_call _ cl78 rfl rfl rfl rfl ⟨rfl, rfl⟩ (fun A w hW => contains_c q m.waits m.owner w ⟨z29, trivial⟩ (by omega)) ?_
   rintro v L ⟨rfl, rfl⟩
   exact ret0 ⟨_, rfl, by rw [hx]; simp [c1, c2, c3], rfl⟩ (fun _ => rfl)
 refine CaseB.mk (fun k => ?_) (fun k2 => ?_)
 · have hx := onceOk2 (m := m) z92
   refine stop_call _ cl109 rfl rfl rfl rfl ⟨rfl, rfl⟩ (fun A w hW => isThread_c _ w) ?_
   rintro v L ⟨rfl, rfl⟩
   apply CaseB.mk <;> intro g
   rotate_left
   · have q : ¬ (isThread m.owner = true) := by simpa using g
     exact ret0 ⟨_, rfl, tno fun e => q (hx.1 e).1, rfl⟩ (fun _ => rfl)
   have c1 : isThread m.owner = true := g
   refine stop_call _ cl63 rfl rfl rfl rfl ⟨rfl, rfl⟩ (fun A w hW => isValue_c _ w) ?_
   rintro v L ⟨rfl, rfl⟩
   apply CaseB.mk <;> intro g
   rotate_left
   · have q : ¬ (isValue m.value = true) := by simpa using g
     exact ret0 ⟨_, rfl, tno fun e => q (hx.1 e).2.1, rfl⟩ (fun _ => rfl)
   have c2 : isValue m.value = true := g
   exact ret0 ⟨_, rfl, by rw [hx]; simp [c1, c2], rfl⟩ (fun _ => rfl)
 exact ret0 ⟨_, rfl, tno (onceOkN (by simpa using k0) (by simpa using k1) (by simpa using k2)), rfl⟩ (fun _ => rfl)
set_option maxRecDepth 100000 in
theorem groupValid_c (m : Group) (q : Sl) (w : World) (h : At w [slo q cInt 1 m.waits]) (hb : m.waits.length ≤ 1048576) :
   Calls Tryz.prog 59 #[groupV m q] w (Tells w (GroupOk m)) := by
 refine calls1 Tryz.func59 rfl tabOk w _ rfl _ rfl _ h ⟨rfl, rfl, trivial⟩ _ (by decide) ?_
 refine stop_call _ cl63 rfl rfl rfl rfl ⟨rfl, rfl⟩ (fun A w hW => isValue_c _ w) ?_
 rintro v L ⟨rfl, rfl⟩
 apply CaseB.mk <;> intro g
 rotate_left
 · have q : ¬ (isValue m.count = true) := by simpa using g
   exact ret0 ⟨_, rfl, tno fun e => q e.1, rfl⟩ (fun _ => rfl)
 have c1 : isValue m.count = true := g
 apply CaseB.mk <;> intro g
 rotate_left
 · have q : ¬ (m.waits.length ≤ 6) := by have g' := of_decide_eq_false g; omega
   exact ret0 ⟨_, rfl, tno fun e => q (distinct_len e.2.1), rfl⟩ (fun _ => rfl)
 have c6 : m.waits.length ≤ 6 := by have g' := of_decide_eq_true g; omega
 refine stop_call _ cl107 rfl rfl rfl rfl ⟨rfl, rfl⟩ (fun A w hW => distinctThreads_c q m.waits w ⟨z29, trivial⟩ (by omega)) ?_
 rintro v L ⟨rfl, rfl⟩
 apply CaseB.mk <;> intro g
 rotate_left
 · have q : ¬ (distinct m.waits = true) := by simpa using g
   exact ret0 ⟨_, rfl, tno fun e => q e.2.1, rfl⟩ (fun _ => rfl)
 have c2 : distinct m.waits = true := g
 apply CaseB.mk <;> intro g
 · have c3 : 0 < m.count := by have g' := of_decide_eq_true g; omega
   exact ret0 ⟨_, rfl, tyes ⟨c1, c2, .inl c3⟩, rfl⟩ (fun _ => rfl)
 · have c3 : ¬ 0 < m.count := by have g' := of_decide_eq_false g; omega
   exact ret0 ⟨_, rfl, by simp [GroupOk, c1, c2, c3], rfl⟩ (fun _ => rfl)
set_option maxRecDepth 100000 in
theorem barrierValid_c (m : Barrier) (q : Sl) (w : World) (h : At w [slo q cInt 1 m.waits]) (hb : m.waits.length ≤ 1048576) :
   Calls Tryz.prog 60 #[barrierV m q] w (Tells w (BarrierOk m)) := by
 refine calls1 Tryz.func60 rfl tabOk w _ rfl _ rfl _ h ⟨rfl, rfl, trivial⟩ _ (by decide) ?_
 apply CaseB.mk <;> intro g
 rotate_left
 · have q : ¬ (1 ≤ m.parties) := by have g' := of_decide_eq_false g; omega
   exact ret0 ⟨_, rfl, tno fun e => q e.1, rfl⟩ (fun _ => rfl)
 have c1 : 1 ≤ m.parties := by have g' := of_decide_eq_true g; omega
 apply CaseB.mk <;> intro g
 rotate_left
 · have q : ¬ (m.parties ≤ 6) := by have g' := of_decide_eq_false g; omega
   exact ret0 ⟨_, rfl, tno fun e => q e.2.1, rfl⟩ (fun _ => rfl)
 have c2 : m.parties ≤ 6 := by have g' := of_decide_eq_true g; omega
 apply CaseB.mk <;> intro g
 rotate_left
 · have q : ¬ (0 ≤ m.round) := by have g' := of_decide_eq_false g; omega
   exact ret0 ⟨_, rfl, tno fun e => q e.2.2.1, rfl⟩ (fun _ => rfl)
 have c3 : 0 ≤ m.round := by have g' := of_decide_eq_true g; omega
 apply CaseB.mk <;> intro g
 rotate_left
 · have q : ¬ (m.round ≤ 9999) := by have g' := of_decide_eq_false g; omega
   exact ret0 ⟨_, rfl, tno fun e => q e.2.2.2.1, rfl⟩ (fun _ => rfl)
 have c4 : m.round ≤ 9999 := by have g' := of_decide_eq_true g; omega
 apply CaseB.mk <;> intro g
 rotate_left
 · have q : ¬ ((m.waits.length : Int) < m.parties) := by have g' := of_decide_eq_false g; omega
   exact ret0 ⟨_, rfl, tno fun e => q e.2.2.2.2.1, rfl⟩ (fun _ => rfl)
 have c5 : (m.waits.length : Int) < m.parties := by have g' := of_decide_eq_true g; omega
 refine stop_call _ cl107 rfl rfl rfl rfl ⟨rfl, rfl⟩ (fun A w hW => distinctThreads_c q m.waits w ⟨z29, trivial⟩ (by omega)) ?_
 rintro v L ⟨rfl, rfl⟩
 exact ret0 ⟨_, rfl, by simp [BarrierOk, c1, c2, c3, c4, c5], rfl⟩ (fun _ => rfl)
set_option maxHeartbeats 4000000 in
set_option maxRecDepth 100000 in
theorem semValid_c (m : Sem) (q : Sl) (w : World) (h : At w [slo q cWaiter 2 m.queue]) (hb : m.queue.length ≤ 1048576) :
   Calls Tryz.prog 58 #[semV m q] w (Tells w (SemOk m)) := by
 refine calls1 Tryz.func58 rfl tabOk w _ rfl _ rfl _ h ⟨rfl, rfl, trivial⟩ _ (by decide) ?_
 apply CaseB.mk <;> intro g
 · have q : ¬ (1 ≤ m.limit) := by have g' := of_decide_eq_true g; omega
   exact ret0 ⟨_, rfl, tno fun e => q e.l1, rfl⟩ (fun _ => rfl)
 have c1 : 1 ≤ m.limit := by have g' := of_decide_eq_false g; omega
 apply CaseB.mk <;> intro g
 · have q : ¬ (m.limit ≤ 9) := by have g' := of_decide_eq_true g; omega
   exact ret0 ⟨_, rfl, tno fun e => q e.l9, rfl⟩ (fun _ => rfl)
 have c2 : m.limit ≤ 9 := by have g' := of_decide_eq_false g; omega
 apply CaseB.mk <;> intro g
 · have q : ¬ (0 ≤ m.free) := by have g' := of_decide_eq_true g; omega
   exact ret0 ⟨_, rfl, tno fun e => q e.f0, rfl⟩ (fun _ => rfl)
 have c3 : 0 ≤ m.free := by have g' := of_decide_eq_false g; omega
 apply CaseB.mk <;> intro g
 · have q : ¬ (m.free ≤ m.limit) := by have g' := of_decide_eq_true g; omega
   exact ret0 ⟨_, rfl, tno fun e => q e.fl, rfl⟩ (fun _ => rfl)
 have c4 : m.free ≤ m.limit := by have g' := of_decide_eq_false g; omega
 apply CaseB.mk <;> intro g
 · have q : ¬ (m.queue.length ≤ 6) := by have g' := of_decide_eq_true g; omega
   exact ret0 ⟨_, rfl, tno fun e => q e.q6, rfl⟩ (fun _ => rfl)
 have c5 : m.queue.length ≤ 6 := by have g' := of_decide_eq_false g; omega
 refine LoopW.mk ⟨{ p : Nat × Sl // p.1 ≤ m.queue.length ∧ ∀ w ∈ m.queue.take p.1, 1 ≤ w.n ∧ w.n ≤ m.limit },
   fun p => .mk [(1, .p 0 0), (3, .v (p.1.2.val ((m.queue.map (·.t)).take p.1.1).length)), (33, .v (q.val m.queue.length)), (34, .v (.int .i64 (m.queue.length : Int))), (35, .v (.int .i64 (p.1.1 : Int)))] 1 0 [(0, 57, 3)] [((0, 0), .v (.int .i64 m.free)), ((0, 1), .v (.int .i64 m.limit)), ((0, 2), .v (q.val m.queue.length))] [own p.1.2 3 cInt 1 ((m.queue.map (·.t)).take p.1.1), slo q cWaiter 2 m.queue],
   fun p => m.queue.length - p.1.1, ⟨(0, ⟨none, 0⟩), Nat.zero_le _, by simp⟩, ?_, ?_⟩
 · exact weak_mk [99, 0] zw2 zw0 zw2 zw5 zw4 rfl rfl
 rintro ⟨⟨k, a⟩, hk, hinv⟩
 simp only at hk hinv
 apply CaseB.mk <;> intro g
 · have hlt : k < m.queue.length := by simpa using g
   have hw := wrapN k _ hlt (by omega)
   refine stop_idx encWaiter tabOk rfl rfl rfl rfl rfl ⟨rfl, rfl⟩ (rdAt 1 rfl) k rfl z38 (fun ad => ?_)
   apply CaseB.mk <;> intro g
   · have q : ¬ (1 ≤ (m.queue[k]).n) := by have g' := of_decide_eq_true g; omega
     exact ret0 ⟨_, rfl, tno fun e => q (e.cnt _ (List.getElem_mem hlt)).1, rfl⟩ (fun _ => rfl)
   have d1 : 1 ≤ (m.queue[k]).n := by have g' := of_decide_eq_false g; omega
   apply CaseB.mk <;> intro g
   · have q : ¬ ((m.queue[k]).n ≤ m.limit) := by have g' := of_decide_eq_true g; omega
     exact ret0 ⟨_, rfl, tno fun e => q (e.cnt _ (List.getElem_mem hlt)).2, rfl⟩ (fun _ => rfl)
   have d2 : (m.queue[k]).n ≤ m.limit := by have g' := of_decide_eq_false g; omega
   refine AllSl.mk fun u => ?_
   refine stop_app encInt 1 tabOk (ys := [(m.queue[k]).t]) rfl rfl rfl rfl rfl rfl rfl rfl rfl (by decide) ⟨rfl, rfl⟩ rfl z30 z38 z38 (fun a2 => ?_)
   rw [map_take_succ hlt rfl rfl]
   refine ⟨⟨(k + 1, a2), by omega, fun x hx => ?_⟩, ?_, by simp only; omega⟩
   · rw [List.take_succ_eq_append_getElem hlt] at hx
     rcases List.mem_append.1 hx with hx | hx
     · exact hinv x hx
     · simp at hx; subst hx; exact ⟨d1, d2⟩
   · exact weak_mk [0, 2] zw1 zw0 zw1 zw5 zw3 rfl rfl
 have hge : m.queue.length ≤ k := by simpa using g
 rw [List.take_of_length_le hge] at hinv
 have eT : (m.queue.map (·.t)).take k = m.queue.map (·.t) := List.take_of_length_le z85
 simp only [eT]
 refine draw_start tabOk z95 z95 z95 200 [((0, 0), .v (.int .i64 m.free)), ((0, 1), .v (.int .i64 m.limit)), ((0, 2), .v (q.val m.queue.length))] [1] [_] z118 z130 ⟨rfl, trivial⟩ rfl ?_
 refine d_call _ cl107 rfl rfl rfl rfl ⟨rfl, rfl⟩ (fun A w hW => distinctThreads_c a _ w ⟨hW.rdOwn 0 rfl, trivial⟩ z94) ?_
 rintro v L ⟨rfl, rfl⟩
 apply CaseB.mk <;> intro g
 rotate_left
 · have q : ¬ (distinct (m.queue.map (·.t)) = true) := by simpa using g
   exact ret0 ⟨_, rfl, tno fun e => q e.dis, rfl⟩ (fun _ => rfl)
 have c6 : distinct (m.queue.map (·.t)) = true := g
 apply CaseB.mk <;> intro g
 · have c7 : m.queue = [] := by simpa using g
   exact ret0 ⟨_, rfl, tyes ⟨c1, c2, c3, c4, c5, hinv, c6, by rw [c7]; simp⟩, rfl⟩ (fun _ => rfl)
 have c7 : 0 < m.queue.length := by have g' : ¬ m.queue = [] := by simpa using g
                                    exact List.length_pos_iff.2 g'
 refine d_idx (ti := tiOf tab) encWaiter tabOk rfl rfl rfl rfl rfl ⟨rfl, rfl⟩ (rdAt 0 rfl) 0 rfl z38 (fun ad => ?_)
 refine ret0 ⟨_, rfl, ?_, rfl⟩ (fun _ => rfl)
 have hh : ∀ w, m.queue[0]? = some w → w = m.queue[0] := fun w hw => by rw [List.getElem?_eq_getElem c7] at hw; injection hw with hw; exact hw.symm
 constructor
 · intro g
   have g' := of_decide_eq_true g
   exact ⟨c1, c2, c3, c4, c5, hinv, c6, fun w hw => by rw [hh w hw]; omega⟩
 · intro e
   have := e.hd _ (List.getElem?_eq_getElem c7)
   exact decide_eq_true (by omega)
theorem neWait (x y : Waiting) (w : World) : (binOp .neq 95 (.agg (cWait x).toArray) (.agg (cWait y).toArray)).run Tryz.prog w = .ok (.bool (decide (x ≠ y))) w := by
 have h := neq_ints (P := Tryz.prog) (t := 95) (it := 3) (xs := [x.kind, x.on, x.arg]) (ys := [y.kind, y.on, y.arg]) z95 z95 z95 rfl z95 w
 have e : ([x.kind, x.on, x.arg] ≠ [y.kind, y.on, y.arg]) ↔ x ≠ y := by cases x; cases y; simp
 rw [show decide (x ≠ y) = decide ([x.kind, x.on, x.arg] ≠ [y.kind, y.on, y.arg]) from by simp only [e]]
 exact h
def ofKey {β : Type} (es : List (Int × β)) (t : Int) : List β := (es.filter fun e => e.1 == t).map (·.2)
theorem aget_aset {β : Type} (m : List (Int × β)) (k : Int) (v : β) (t : Int) : aget (aset m k v) t = if k = t then some v else aget m t := by
 induction m with
 | nil => simp only [aset, aget]
 | cons p r ih =>
   obtain ⟨q, u⟩ := p
   simp only [aset]
   by_cases e : q = k
   · subst e
     simp only [if_true, aget]
     by_cases e2 : q = t <;> simp [e2]
   · simp only [e, if_false, aget, ih]
     by_cases e2 : q = t
     · subst e2
       have : ¬ k = q := fun h => e h.symm
       simp [this]
     · simp [e2]
theorem mapOf_get {β : Type} (es : List (Int × β)) (t : Int) : aget (mapOf es) t = if ofKey es t = [] then none else some (ofKey es t) := by
 have : ∀ (es : List (Int × β)) (m : List (Int × List β)) (f : List β), (aget m t = if f = [] then none else some f) → aget (es.foldl addM m) t = if f ++ ofKey es t = [] then none else some (f ++ ofKey es t) := fun es => by
   induction es with
   | nil => intro m f h; simpa [ofKey] using h
   | cons e r ih =>
     intro m f h
     obtain ⟨k, x⟩ := e
     simp only [List.foldl_cons]
     by_cases hk : k = t
     · subst hk
       have h1 : aget (addM m (k, x)) k = some (f ++ [x]) := by
         rw [addM, aget_aset, if_pos rfl, h]
         by_cases hf : f = []
         · simp [hf]
         · simp [hf]
       have := ih (addM m (k, x)) (f ++ [x]) (by rw [h1]; simp)
       rw [this]
       simp [ofKey]
     · have h1 : aget (addM m (k, x)) t = aget m t := by rw [addM, aget_aset, if_neg hk]
       have := ih (addM m (k, x)) f (by rw [h1]; exact h)
       rw [this]
       have e2 : ofKey ((k, x) :: r) t = ofKey r t := by simp [ofKey, hk]
       rw [e2]
 have := this es [] [] (by simp [aget])
 simpa [mapOf] using this
theorem mapOf_getD {β : Type} (es : List (Int × β)) (t : Int) : (aget (mapOf es) t).getD [] = ofKey es t := by
 rw [mapOf_get]
 by_cases h : ofKey es t = [] <;> simp [h]
theorem ofKey_nil {β : Type} {es : List (Int × β)} {t : Int} : ofKey es t = [] ↔ ∀ e ∈ es, e.1 ≠ t := by
 simp [ofKey, List.filter_eq_nil_iff]
def keyed {β : Type} (m : List (Int × β)) : Prop := (m.map (·.1)).Nodup
theorem aset_keys {β : Type} (m : List (Int × β)) (k : Int) (v : β) : (aset m k v).map (·.1) = if k ∈ m.map (·.1) then m.map (·.1) else m.map (·.1) ++ [k] := by
 induction m with
 | nil => simp [aset]
 | cons p r ih =>
   obtain ⟨q, u⟩ := p
   simp only [aset]
   by_cases e : q = k
   · simp [e]
   · have e' : ¬ k = q := fun h => e h.symm
     simp only [e, if_false, List.map_cons, ih, List.mem_cons, e', false_or]
     split <;> simp
theorem mapOf_keyed {β : Type} (es : List (Int × β)) : keyed (mapOf es) := by
 have : ∀ (es : List (Int × β)) (m : List (Int × List β)), keyed m → keyed (es.foldl addM m) := fun es => by
   induction es with
   | nil => intro m h; exact h
   | cons e r ih =>
     intro m h
     refine ih _ ?_
     simp only [keyed, addM, aset_keys] at h ⊢
     split
     · exact h
     · rename_i hn
       rw [List.nodup_append]
       exact ⟨h, by simp, fun a ha b hb => by simp at hb; subst hb; rintro rfl; exact hn ha⟩
 exact this es [] (by simp [keyed])
theorem keyed_pm {β : Type} {ps : List (Int × LH β)} : keyed (pm ps) ↔ keyed ps := by
 simp [keyed, pm, Function.comp_def]
theorem aget_none {β : Type} {m : List (Int × β)} {t : Int} : aget m t = none ↔ t ∉ m.map (·.1) := by
 induction m with
 | nil => simp [aget]
 | cons p r ih =>
   obtain ⟨q, u⟩ := p
   simp only [aget]
   by_cases e : q = t
   · simp [e]
   · have e' : ¬ t = q := fun h => e h.symm
     simp [e, e', ih]
theorem aget_in {β : Type} {m : List (Int × β)} {t : Int} {u : β} (h : aget m t = some u) : (t, u) ∈ m := by
 induction m with
 | nil => simp [aget] at h
 | cons p r ih =>
   obtain ⟨q, v⟩ := p
   simp only [aget] at h
   by_cases e : q = t
   · simp only [e, if_true, Option.some.injEq] at h
     subst h; subst e; simp
   · simp only [e, if_false] at h
     exact List.mem_cons_of_mem _ (ih h)
theorem adel_sub {β : Type} (m : List (Int × β)) (t : Int) : (adel m t).Sublist m := by
 induction m with
 | nil => exact .refl _
 | cons p r ih =>
   obtain ⟨q, v⟩ := p
   simp only [adel]
   split
   · exact List.sublist_cons_self _ _
   · exact ih.cons_cons _
theorem keyed_del {β : Type} {m : List (Int × β)} (h : keyed m) (t : Int) : keyed (adel m t) := h.sublist ((adel_sub m t).map _)
theorem aget_del {β : Type} {m : List (Int × β)} (h : keyed m) (t x : Int) : aget (adel m t) x = if x = t then none else aget m x := by
 induction m with
 | nil => simp [adel, aget]
 | cons p r ih =>
   obtain ⟨q, v⟩ := p
   have hq : q ∉ r.map (·.1) ∧ keyed r := by simpa [keyed] using h
   simp only [adel]
   by_cases e : q = t
   · subst e
     simp only [if_true]
     by_cases ex : x = q
     · subst ex; simp only [if_true]; exact aget_none.2 hq.1
     · have : ¬ q = x := fun h => ex h.symm
       simp [ex, aget, this]
   · simp only [e, if_false, aget, ih hq.2]
     by_cases ex : q = x
     · subst ex; simp [e]
     · simp [ex]
theorem nil_of_none {β : Type} {m : List (Int × β)} (h : ∀ x, aget m x = none) : m = [] := by
 cases m with
 | nil => rfl
 | cons p r =>
   have := h p.1
   simp [aget] at this
theorem rows_in {β : Type} {ty : TypeId} {enc : β → List Value} {sz : Nat} {ps : List (Int × LH β)} {t : Int} {u : LH β} (h : (t, u) ∈ ps) : RdIn (rowsM ty enc sz ps) (slo u.q enc sz u.xs) :=
 RdIn.own (o := false) (e := ty) (List.mem_flatMap.2 ⟨_, h, by simp⟩)
structure Left {β : Type} (ps qs : List (Int × LH β)) (k : Nat) : Prop where
 sub : qs.Sublist ps
 key : keyed qs
 get : ∀ x, aget qs x = if 0 ≤ x ∧ x < k then none else aget ps x
theorem Left.start {β : Type} {ps : List (Int × LH β)} (h : keyed ps) : Left ps ps 0 := ⟨.refl _, h, fun x => by rw [if_neg (by omega)]⟩
theorem Left.next {β : Type} {ps qs : List (Int × LH β)} {k : Nat} (h : Left ps qs k) : Left ps (adel qs (k : Int)) (k + 1) := by
 refine ⟨(adel_sub _ _).trans h.sub, keyed_del h.key _, fun x => ?_⟩
 rw [aget_del h.key, h.get]
 by_cases e : x = k
 · rw [if_pos e, if_pos (by omega)]
 · rw [if_neg e]
   by_cases e2 : 0 ≤ x ∧ x < k
   · rw [if_pos e2, if_pos (by omega)]
   · rw [if_neg e2, if_neg (by omega)]
theorem Left.at {β : Type} {ps qs : List (Int × LH β)} {k : Nat} (h : Left ps qs k) {es : List (Int × β)} (he : pm ps = mapOf es) : ((aget qs (k : Int)).getD LH.nil).xs = ofKey es k := by
 have h1 := h.get k
 rw [if_neg (by omega)] at h1
 have h2 := mapOf_getD es (k : Int)
 rw [← he, pm_aget] at h2
 rw [h1, ← h2]
 cases aget ps (k : Int) <;> rfl
theorem Left.done {β : Type} {ps qs : List (Int × LH β)} {k : Nat} (h : Left ps qs k) {es : List (Int × β)} (he : pm ps = mapOf es) : qs = [] ↔ ∀ e ∈ es, 0 ≤ e.1 ∧ e.1 < k := by
 constructor
 · rintro rfl e hm
   refine Classical.byContradiction fun hn => ?_
   have h1 := h.get e.1
   rw [if_neg hn] at h1
   have h2 := mapOf_get es e.1
   have h3 : ofKey es e.1 ≠ [] := fun h0 => ofKey_nil.1 h0 e hm rfl
   rw [if_neg h3, ← he, pm_aget, ← h1] at h2
   simp [aget] at h2
 · intro hall
   refine nil_of_none fun x => ?_
   rw [h.get]
   split
   · rfl
   · rename_i hn
     have h3 : ofKey es x = [] := ofKey_nil.2 fun e hm hx => hn (hx ▸ hall e hm)
     have h2 := mapOf_get es x
     rw [if_pos h3, ← he, pm_aget] at h2
     cases hq : aget ps x with
     | none => rfl
     | some u => rw [hq] at h2; simp at h2
def want (o : Op) : Waiting := ⟨o.kind, o.on, if o.kind = 2 ∨ o.kind = 8 then o.arg else 0⟩
def ThreadOk (ops : List Op) (at_ st : Int) (w : List Waiting) (o : List Int) : Prop :=
 0 ≤ at_ ∧ at_ ≤ ops.length ∧ ((at_ = ops.length ∧ st = 3 ∧ w = [] ∧ o = []) ∨
   ∃ op, ops[at_.toNat]? = some op ∧ ((st = 0 ∧ w = [] ∧ o = []) ∨ (st = 1 ∧ o = [] ∧ w = [want op]) ∨ (st = 2 ∧ w = [] ∧ op.kind = 4 ∧ o = [op.on])))
structure Fits (p : Prog) (s : State) : Prop where
 prog : ProgOk p
 np : s.places.length = p.threads.length
 ns : s.status.length = p.threads.length
 lsems : s.sems.length = p.sems.length
 lgroups : s.groups.length = p.groups.length
 lbarriers : s.barriers.length = p.barriers.length
 lchans : s.chans.length = p.rooms.length
 lonces : s.onces.length = 3
 lsaid : s.said.length ≤ 64
 f0 : 0 ≤ s.fault
 f4 : s.fault ≤ 4
 sems : ∀ (i : Nat) x, s.sems[i]? = some x → SemOk x ∧ p.sems[i]? = some x.limit
 groups : ∀ x ∈ s.groups, GroupOk x
 barriers : ∀ (i : Nat) x, s.barriers[i]? = some x → BarrierOk x ∧ p.barriers[i]? = some x.parties
 chans : ∀ (i : Nat) x, s.chans[i]? = some x → x.valid = true ∧ p.rooms[i]? = some x.room
 onces : ∀ x ∈ s.onces, OnceOk x
 said : ∀ v ∈ s.said, isValue v = true
 threads : ∀ (t : Nat) ops at_ st, p.threads[t]? = some ops → s.places[t]? = some at_ → s.status[t]? = some st → ThreadOk ops at_ st (ofKey (events s) t) (ofKey (owners s) t)
 ev : ∀ e ∈ events s, 0 ≤ e.1 ∧ e.1 < p.threads.length
 ow : ∀ e ∈ owners s, 0 ≤ e.1 ∧ e.1 < p.threads.length
theorem evL_len {α β : Type} {f : Nat → α → List β} {C : Nat} : ∀ {i : Nat} {xs : List α}, (∀ i x, x ∈ xs → (f i x).length ≤ C) → (evL f i xs).length ≤ xs.length * C
 | i, [], _ => by simp [evL]
 | i, x :: r, h => by
   have h1 := h i x (by simp)
   have h2 := evL_len (i := i + 1) (xs := r) fun i y hy => h i y (by simp [hy])
   have e : (r.length + 1) * C = r.length * C + C := Nat.succ_mul _ _
   simp only [evL, List.length_append, List.length_cons, e]
   omega
theorem onceOk_len {m : Once} (h : OnceOk m) : m.waits.length ≤ 6 := by
 rcases h with h | h | h
 · rw [h.2.2.2]; simp
 · exact distinct_len h.2.2.2.1
 · rw [h.2.2.2]; simp
theorem barrierOk_len {m : Barrier} (h : BarrierOk m) : m.waits.length ≤ 6 := distinct_len h.2.2.2.2.2
theorem groupOk_len {m : Group} (h : GroupOk m) : m.waits.length ≤ 6 := distinct_len h.2.1
theorem chanOk_len {m : Chan} (h : m.valid = true) : m.senders.length + m.getters.length ≤ 6 := by
 have hv : m.Valid := by simpa [Chan.valid] using h
 have := distinct_len hv.di
 simpa [Chan.threads] using this
set_option maxHeartbeats 2000000 in
set_option maxRecDepth 100000 in
theorem validS_c (m : Chan) (i s g : Sl) (w : World) (h : At w [slo i cInt 1 m.items, slo s cLet 2 m.senders, slo g cInt 1 m.getters]) (hb : m.small) :
   Calls Tryz.prog 117 #[chanV m i s g] w (Ret w fun v L => v = .bool m.valid ∧ L = []) := by
 obtain ⟨b1, b2, b3⟩ := hb
 have bT : m.threads.length ≤ 8589934592 := by simp [Chan.threads]; omega
 have hno : ∀ {P : Prop}, ¬ P → (m.Valid → P) → ∀ A, resV A [SV.lit false] = Value.bool m.valid := fun h1 h2 _ => Chan.invalid fun hv => h1 (h2 hv)
 refine calls1 Tryz.func117 rfl tabOk w _ rfl _ rfl _ h z129 _ (by decide) ?_
 refine CaseB.mk (fun h1 => ?_) (fun h1 => ?_)
 · exact ret0 ⟨rfl, rfl⟩ (hno (by simp at h1; omega) Chan.Valid.r0)
 · have r0 : 0 ≤ m.room := by simp at h1; omega
   refine CaseB.mk (fun h2 => ?_) (fun h2 => ?_)
   · exact ret0 ⟨rfl, rfl⟩ (hno (by simp at h2; omega) Chan.Valid.r1)
   · have r1 : m.room ≤ 4 := by simp at h2; omega
     refine CaseB.mk (fun h3 => ?_) (fun h3 => ?_)
     · exact ret0 ⟨rfl, rfl⟩ (hno (by simp at h3; omega) Chan.Valid.it)
     · have it : (m.items.length : Int) ≤ m.room := by simp at h3; omega
       refine CaseB.mk (fun h4 => ?_) (fun h4 => ?_)
       · exact ret0 ⟨rfl, rfl⟩ (hno (P := m.senders.length ≤ 6) (by simp at h4; omega) (fun hv => by have := distinct_len hv.di; simp [Chan.threads] at this; omega))
       refine CaseB.mk (fun h5 => ?_) (fun h5 => ?_)
       · exact ret0 ⟨rfl, rfl⟩ (hno (P := m.getters.length ≤ 6) (by simp at h5; omega) (fun hv => by have := distinct_len hv.di; simp [Chan.threads] at this; omega))
       have e7 : m.senders.take 7 = m.senders := List.take_of_length_le (by simp at h4; omega)
       refine LoopW.mk ⟨{ k : Nat // k ≤ m.items.length ∧ ∀ x ∈ m.items.take k, isValue x = true },
         fun p => .mk [(1, .p 0 0), (3, .v (.int .i64 p.1))] 1 0 [(0, 80, 5)] [((0, 0), .v (.int .i64 m.room)), ((0, 1), .v (i.val m.items.length)), ((0, 2), .v (s.val m.senders.length)), ((0, 3), .v (g.val m.getters.length)), ((0, 4), .v (.bool m.closed))] [slo i cInt 1 m.items, slo s cLet 2 m.senders, slo g cInt 1 m.getters],
         fun p => m.items.length - p.1, ⟨0, Nat.zero_le _, by simp⟩, ?_, ?_⟩
       · exact weak_mk [0, 1, 2] zw2 zw0 zw2 zw5 zw4 rfl rfl
       · rintro ⟨k, hk, ha⟩
         refine CaseB.mk (fun h => ?_) (fun h => ?_)
         · have hlt : k < m.items.length := by simpa using h
           refine stop_idx encInt tabOk rfl rfl rfl rfl rfl ⟨rfl, rfl⟩ z30 k rfl z38 (fun ad => ?_)
           refine stop_call _ cl67 rfl rfl rfl rfl ⟨rfl, rfl⟩ (fun A w hW => l2Value_c _ w) ?_
           rintro v L ⟨rfl, rfl⟩
           refine CaseB.mk (fun h => ?_) (fun h => ?_)
           · exact ret0 ⟨rfl, rfl⟩ (hno z89 (fun hv => hv.iv _ (List.getElem_mem hlt)))
           · have hw := wrapN k _ hlt b1
             refine ⟨⟨k + 1, by omega, all_take_succ hlt ha z89⟩, ?_, by simp; omega⟩
             exact weak_mk [0, 1, 2] zw1 zw0 zw1 zw5 zw3 rfl rfl
         · have hge : m.items.length ≤ k := by simpa using h
           rw [List.take_of_length_le hge] at ha
           refine LoopW.mk ⟨{ k : Nat // k ≤ m.senders.length ∧ ∀ x ∈ m.senders.take k, isValue x.v = true },
             fun p => .mk [(1, .p 0 0), (4, .v (.int .i64 p.1))] 1 0 [(0, 80, 5)] [((0, 0), .v (.int .i64 m.room)), ((0, 1), .v (i.val m.items.length)), ((0, 2), .v (s.val m.senders.length)), ((0, 3), .v (g.val m.getters.length)), ((0, 4), .v (.bool m.closed))] [slo i cInt 1 m.items, slo s cLet 2 m.senders, slo g cInt 1 m.getters],
             fun p => m.senders.length - p.1, ⟨0, Nat.zero_le _, by simp⟩, ?_, ?_⟩
           · exact weak_mk [0, 1, 2] zw2 zw0 zw2 zw5 zw4 rfl rfl
           · rintro ⟨k, hk, hs⟩
             refine CaseB.mk (fun h => ?_) (fun h => ?_)
             · have hlt : k < m.senders.length := by simpa using h
               refine stop_idx encLet tabOk rfl rfl rfl rfl rfl ⟨rfl, rfl⟩ z30 k rfl z38 (fun ad => ?_)
               refine stop_call _ cl67 rfl rfl rfl rfl ⟨rfl, rfl⟩ (fun A w hW => l2Value_c _ w) ?_
               rintro v L ⟨rfl, rfl⟩
               refine CaseB.mk (fun h => ?_) (fun h => ?_)
               · exact ret0 ⟨rfl, rfl⟩ (hno z89 (fun hv => hv.sv _ (List.getElem_mem hlt)))
               · have hw := wrapN k _ hlt b2
                 refine ⟨⟨k + 1, by omega, all_take_succ (p := fun l : Letter => isValue l.v = true) hlt hs z89⟩, ?_, by simp; omega⟩
                 exact weak_mk [0, 1, 2] zw1 zw0 zw1 zw5 zw3 rfl rfl
             · have hge : m.senders.length ≤ k := by simpa using h
               rw [List.take_of_length_le hge] at hs
               refine draw_start tabOk z95 z95 z95 200 [((0, 2), .v (s.val m.senders.length)), ((0, 3), .v (g.val m.getters.length))] [0, 1, 2] [_, _, _] z124 z134 ⟨rfl, rfl, rfl, trivial⟩ rfl ?_
               refine d_call _ cl118 rfl rfl rfl rfl ⟨rfl, rfl⟩ (fun A w hW => l5Threads_c s m.senders w ⟨z29, trivial⟩ b2) ?_
               rw [e7]
               rintro v L ⟨y, rfl, rfl⟩
               refine d_appK (ti := tiOf tab) encInt tabOk  rfl rfl rfl rfl rfl rfl rfl rfl rfl (by decide) ⟨rfl, rfl⟩ z34 z30 z38 z38 z93 (fun z => ?_)
               refine d_call _ cl158 rfl rfl rfl rfl ⟨rfl, rfl⟩ (fun A w hW => l2Waits_c z m.threads w ⟨z29, trivial⟩ bT) ?_
               rintro v L ⟨rfl, rfl⟩
               refine CaseB.mk (fun h => ?_) (fun h => ?_)
               · exact ret0 ⟨rfl, rfl⟩ (hno z89 Chan.Valid.di)
               · have hd : distinct m.threads = true := by simpa using h
                 have fin : (m.senders ≠ [] → (m.items.length : Int) = m.room ∧ m.getters = [] ∧ m.closed = false) → (m.getters ≠ [] → m.items = [] ∧ m.closed = false) → m.Valid := fun x y => ⟨r0, r1, it, ha, hs, hd, x, y⟩
                 refine CaseB.mk (fun q1 => ?_) (fun q1 => ?_)
                 · have hs1 : m.senders ≠ [] := len_pos.1 q1
                   refine CaseB.mk (fun q2 => ?_) (fun q2 => ?_)
                   · exact ret0 ⟨rfl, rfl⟩ (fun _ => Chan.invalid (fun hv => by have := (hv.se hs1).1; simp at q2; omega))
                   · have e2 : (m.items.length : Int) = m.room := by simp at q2; omega
                     refine CaseB.mk (fun q3 => ?_) (fun q3 => ?_)
                     · exact ret0 ⟨rfl, rfl⟩ (fun _ => Chan.invalid (fun hv => len_pos.1 q3 (hv.se hs1).2.1))
                     · have e3 : m.getters = [] := by
                         cases hg : m.getters with
                         | nil => rfl
                         | cons a r => rw [hg] at q3; simp at q3
                       refine CaseB.mk (fun q4 => ?_) (fun q4 => ?_)
                       · exact ret0 ⟨rfl, rfl⟩ (fun _ => Chan.invalid (fun hv => by have := (hv.se hs1).2.2; rw [q4] at this; cases this))
                       · have hS : m.senders ≠ [] → (m.items.length : Int) = m.room ∧ m.getters = [] ∧ m.closed = false := fun _ => ⟨e2, e3, q4⟩
                         refine CaseB.mk (fun q5 => ?_) (fun q5 => ?_)
                         · have hg : m.getters = [] := by simpa using q5
                           exact ret0 ⟨rfl, rfl⟩ (fun _ => Chan.isvalid (fin hS (fun hn => absurd hg hn)))
                         · have hg : m.getters ≠ [] := by simpa using q5
                           refine CaseB.mk (fun q6 => ?_) (fun q6 => ?_)
                           · have hi : m.items = [] := by simpa using q6
                             refine ret0 ⟨rfl, rfl⟩ (fun _ => ?_)
                             show Value.bool (!m.closed) = _
                             cases hc : m.closed with
                             | false => exact Chan.isvalid (fin hS (fun _ => ⟨hi, hc⟩))
                             | true => exact Chan.invalid (fun hv => by have := (hv.ge hg).2; rw [hc] at this; cases this)
                           · have hi : m.items ≠ [] := by simpa using q6
                             exact ret0 ⟨rfl, rfl⟩ (fun _ => Chan.invalid (fun hv => hi (hv.ge hg).1))
                 · have hs1 : m.senders = [] := by
                     cases hg : m.senders with
                     | nil => rfl
                     | cons a r => rw [hg] at q1; simp at q1
                   have hS : m.senders ≠ [] → (m.items.length : Int) = m.room ∧ m.getters = [] ∧ m.closed = false := fun hn => absurd hs1 hn
                   refine CaseB.mk (fun q5 => ?_) (fun q5 => ?_)
                   · have hg : m.getters = [] := by simpa using q5
                     exact ret0 ⟨rfl, rfl⟩ (fun _ => Chan.isvalid (fin hS (fun hn => absurd hg hn)))
                   · have hg : m.getters ≠ [] := by simpa using q5
                     refine CaseB.mk (fun q6 => ?_) (fun q6 => ?_)
                     · have hi : m.items = [] := by simpa using q6
                       refine ret0 ⟨rfl, rfl⟩ (fun _ => ?_)
                       show Value.bool (!m.closed) = _
                       cases hc : m.closed with
                       | false => exact Chan.isvalid (fin hS (fun _ => ⟨hi, hc⟩))
                       | true => exact Chan.invalid (fun hv => by have := (hv.ge hg).2; rw [hc] at this; cases this)
                     · have hi : m.items ≠ [] := by simpa using q6
                       exact ret0 ⟨rfl, rfl⟩ (fun _ => Chan.invalid (fun hv => hi (hv.ge hg).1))
set_option maxHeartbeats 4000000 in
set_option maxRecDepth 100000 in
theorem onceValidS_c (m : Once) (q : Sl) (w : World) (h : At w [slo q cInt 1 m.waits]) (hb : m.waits.length ≤ 1048576) :
   Calls Tryz.prog 114 #[onceV m q] w (Tells w (OnceOk m)) := by
 refine calls1 Tryz.func114 rfl tabOk w _ rfl _ rfl _ h ⟨rfl, rfl, trivial⟩ _ (by decide) ?_
 refine CaseB.mk (fun k => ?_) (fun k0 => ?_)
 · have hx := onceOk0 (m := m) z92
   apply CaseB.mk <;> intro g
   rotate_left
   · have q : ¬ (m.owner = 0) := by simpa using g
     exact ret0 ⟨_, rfl, tno fun e => q (hx.1 e).1, rfl⟩ (fun _ => rfl)
   have c1 : m.owner = 0 := by simpa using g
   apply CaseB.mk <;> intro g
   rotate_left
   · have q : ¬ (m.value = 0) := by simpa using g
     exact ret0 ⟨_, rfl, tno fun e => q (hx.1 e).2.1, rfl⟩ (fun _ => rfl)
   have c2 : m.value = 0 := by simpa using g
   exact ret0 ⟨_, rfl, by rw [hx]; simp [c1, c2], rfl⟩ (fun _ => rfl)
 refine CaseB.mk (fun k => ?_) (fun k1 => ?_)
 · have hx := onceOk1 (m := m) z92
   refine stop_call _ cl157 rfl rfl rfl rfl ⟨rfl, rfl⟩ (fun A w hW => l1Thread_c _ w) ?_
   rintro v L ⟨rfl, rfl⟩
   apply CaseB.mk <;> intro g
   rotate_left
   · have q : ¬ (isThread m.owner = true) := by simpa using g
     exact ret0 ⟨_, rfl, tno fun e => q (hx.1 e).1, rfl⟩ (fun _ => rfl)
   have c1 : isThread m.owner = true := g
   apply CaseB.mk <;> intro g
   rotate_left
   · have q : ¬ (m.value = 0) := by simpa using g
     exact ret0 ⟨_, rfl, tno fun e => q (hx.1 e).2.1, rfl⟩ (fun _ => rfl)
   have c2 : m.value = 0 := by simpa using g
   refine stop_call _ cl158 rfl rfl rfl rfl ⟨rfl, rfl⟩ (fun A w hW => l2Waits_c q m.waits w ⟨z29, trivial⟩ (by omega)) ?_
   rintro v L ⟨rfl, rfl⟩
   apply CaseB.mk <;> intro g
   rotate_left
   · have q : ¬ (distinct m.waits = true) := by simpa using g
     exact ret0 ⟨_, rfl, tno fun e => q (hx.1 e).2.2.1, rfl⟩ (fun _ => rfl)
   have c3 : distinct m.waits = true := g
   refine stop_call _ cl94 rfl rfl rfl rfl ⟨rfl, rfl⟩ (fun A w hW => l2At_c q m.waits m.owner w ⟨z29, trivial⟩ (by omega)) ?_
   rintro v L ⟨rfl, rfl⟩
   have hm := atM_mem m.waits m.owner
   exact ret0 ⟨_, rfl, by rw [hx, ← hm]; simp [c1, c2, c3], rfl⟩ (fun _ => rfl)
 refine CaseB.mk (fun k => ?_) (fun k2 => ?_)
 · have hx := onceOk2 (m := m) z92
   refine stop_call _ cl157 rfl rfl rfl rfl ⟨rfl, rfl⟩ (fun A w hW => l1Thread_c _ w) ?_
   rintro v L ⟨rfl, rfl⟩
   apply CaseB.mk <;> intro g
   rotate_left
   · have q : ¬ (isThread m.owner = true) := by simpa using g
     exact ret0 ⟨_, rfl, tno fun e => q (hx.1 e).1, rfl⟩ (fun _ => rfl)
   have c1 : isThread m.owner = true := g
   refine stop_call _ cl67 rfl rfl rfl rfl ⟨rfl, rfl⟩ (fun A w hW => l2Value_c _ w) ?_
   rintro v L ⟨rfl, rfl⟩
   apply CaseB.mk <;> intro g
   rotate_left
   · have q : ¬ (isValue m.value = true) := by simpa using g
     exact ret0 ⟨_, rfl, tno fun e => q (hx.1 e).2.1, rfl⟩ (fun _ => rfl)
   have c2 : isValue m.value = true := g
   exact ret0 ⟨_, rfl, by rw [hx]; simp [c1, c2], rfl⟩ (fun _ => rfl)
 exact ret0 ⟨_, rfl, tno (onceOkN (by simpa using k0) (by simpa using k1) (by simpa using k2)), rfl⟩ (fun _ => rfl)
set_option maxRecDepth 100000 in
theorem groupValidS_c (m : Group) (q : Sl) (w : World) (h : At w [slo q cInt 1 m.waits]) (hb : m.waits.length ≤ 1048576) :
   Calls Tryz.prog 115 #[groupV m q] w (Tells w (GroupOk m)) := by
 refine calls1 Tryz.func115 rfl tabOk w _ rfl _ rfl _ h ⟨rfl, rfl, trivial⟩ _ (by decide) ?_
 refine stop_call _ cl67 rfl rfl rfl rfl ⟨rfl, rfl⟩ (fun A w hW => l2Value_c _ w) ?_
 rintro v L ⟨rfl, rfl⟩
 apply CaseB.mk <;> intro g
 rotate_left
 · have q : ¬ (isValue m.count = true) := by simpa using g
   exact ret0 ⟨_, rfl, tno fun e => q e.1, rfl⟩ (fun _ => rfl)
 have c1 : isValue m.count = true := g
 refine stop_call _ cl158 rfl rfl rfl rfl ⟨rfl, rfl⟩ (fun A w hW => l2Waits_c q m.waits w ⟨z29, trivial⟩ (by omega)) ?_
 rintro v L ⟨rfl, rfl⟩
 apply CaseB.mk <;> intro g
 rotate_left
 · have q : ¬ (distinct m.waits = true) := by simpa using g
   exact ret0 ⟨_, rfl, tno fun e => q e.2.1, rfl⟩ (fun _ => rfl)
 have c2 : distinct m.waits = true := g
 apply CaseB.mk <;> intro g
 · have c3 : 0 < m.count := by have g' := of_decide_eq_true g; omega
   exact ret0 ⟨_, rfl, tyes ⟨c1, c2, .inl c3⟩, rfl⟩ (fun _ => rfl)
 · have c3 : ¬ 0 < m.count := by have g' := of_decide_eq_false g; omega
   exact ret0 ⟨_, rfl, by simp [GroupOk, c1, c2, c3], rfl⟩ (fun _ => rfl)
set_option maxRecDepth 100000 in
theorem barrierValidS_c (m : Barrier) (q : Sl) (w : World) (h : At w [slo q cInt 1 m.waits]) (hb : m.waits.length ≤ 1048576) :
   Calls Tryz.prog 116 #[barrierV m q] w (Tells w (BarrierOk m)) := by
 refine calls1 Tryz.func116 rfl tabOk w _ rfl _ rfl _ h ⟨rfl, rfl, trivial⟩ _ (by decide) ?_
 apply CaseB.mk <;> intro g
 rotate_left
 · have q : ¬ (1 ≤ m.parties) := by have g' := of_decide_eq_false g; omega
   exact ret0 ⟨_, rfl, tno fun e => q e.1, rfl⟩ (fun _ => rfl)
 have c1 : 1 ≤ m.parties := by have g' := of_decide_eq_true g; omega
 apply CaseB.mk <;> intro g
 rotate_left
 · have q : ¬ (m.parties ≤ 6) := by have g' := of_decide_eq_false g; omega
   exact ret0 ⟨_, rfl, tno fun e => q e.2.1, rfl⟩ (fun _ => rfl)
 have c2 : m.parties ≤ 6 := by have g' := of_decide_eq_true g; omega
 apply CaseB.mk <;> intro g
 rotate_left
 · have q : ¬ (0 ≤ m.round) := by have g' := of_decide_eq_false g; omega
   exact ret0 ⟨_, rfl, tno fun e => q e.2.2.1, rfl⟩ (fun _ => rfl)
 have c3 : 0 ≤ m.round := by have g' := of_decide_eq_true g; omega
 apply CaseB.mk <;> intro g
 rotate_left
 · have q : ¬ (m.round ≤ 9999) := by have g' := of_decide_eq_false g; omega
   exact ret0 ⟨_, rfl, tno fun e => q e.2.2.2.1, rfl⟩ (fun _ => rfl)
 have c4 : m.round ≤ 9999 := by have g' := of_decide_eq_true g; omega
 refine stop_call _ cl158 rfl rfl rfl rfl ⟨rfl, rfl⟩ (fun A w hW => l2Waits_c q m.waits w ⟨z29, trivial⟩ (by omega)) ?_
 rintro v L ⟨rfl, rfl⟩
 apply CaseB.mk <;> intro g
 rotate_left
 · have q : ¬ (distinct m.waits = true) := by simpa using g
   exact ret0 ⟨_, rfl, tno fun e => q e.2.2.2.2.2, rfl⟩ (fun _ => rfl)
 have c6 : distinct m.waits = true := g
 exact ret0 ⟨_, rfl, by simp [BarrierOk, c1, c2, c3, c4, c6], rfl⟩ (fun _ => rfl)
set_option maxHeartbeats 4000000 in
set_option maxRecDepth 100000 in
theorem semValidS_c (m : Sem) (q : Sl) (w : World) (h : At w [slo q cWaiter 2 m.queue]) (hb : m.queue.length ≤ 1048576) :
   Calls Tryz.prog 113 #[semV m q] w (Tells w (SemOk m)) := by
 refine calls1 Tryz.func113 rfl tabOk w _ rfl _ rfl _ h ⟨rfl, rfl, trivial⟩ _ (by decide) ?_
 apply CaseB.mk <;> intro g
 · have q : ¬ (1 ≤ m.limit) := by have g' := of_decide_eq_true g; omega
   exact ret0 ⟨_, rfl, tno fun e => q e.l1, rfl⟩ (fun _ => rfl)
 have c1 : 1 ≤ m.limit := by have g' := of_decide_eq_false g; omega
 apply CaseB.mk <;> intro g
 · have q : ¬ (m.limit ≤ 9) := by have g' := of_decide_eq_true g; omega
   exact ret0 ⟨_, rfl, tno fun e => q e.l9, rfl⟩ (fun _ => rfl)
 have c2 : m.limit ≤ 9 := by have g' := of_decide_eq_false g; omega
 apply CaseB.mk <;> intro g
 · have q : ¬ (0 ≤ m.free) := by have g' := of_decide_eq_true g; omega
   exact ret0 ⟨_, rfl, tno fun e => q e.f0, rfl⟩ (fun _ => rfl)
 have c3 : 0 ≤ m.free := by have g' := of_decide_eq_false g; omega
 apply CaseB.mk <;> intro g
 · have q : ¬ (m.free ≤ m.limit) := by have g' := of_decide_eq_true g; omega
   exact ret0 ⟨_, rfl, tno fun e => q e.fl, rfl⟩ (fun _ => rfl)
 have c4 : m.free ≤ m.limit := by have g' := of_decide_eq_false g; omega
 apply CaseB.mk <;> intro g
 · have q : ¬ (m.queue.length ≤ 6) := by have g' := of_decide_eq_true g; omega
   exact ret0 ⟨_, rfl, tno fun e => q e.q6, rfl⟩ (fun _ => rfl)
 have c5 : m.queue.length ≤ 6 := by have g' := of_decide_eq_false g; omega
 refine LoopW.mk ⟨{ k : Nat // k ≤ m.queue.length ∧ (∀ w ∈ m.queue.take k, 1 ≤ w.n ∧ w.n ≤ m.limit) ∧ distinct ((m.queue.map (·.t)).take k) = true },
   fun p => .mk [(1, .p 0 0), (3, .v (.int .i64 (p.1 : Int)))] 1 0 [(0, 57, 3)] [((0, 0), .v (.int .i64 m.free)), ((0, 1), .v (.int .i64 m.limit)), ((0, 2), .v (q.val m.queue.length))] [slo q cWaiter 2 m.queue],
   fun p => m.queue.length - p.1, ⟨0, Nat.zero_le _, by simp, by simp [distinct]⟩, ?_, ?_⟩
 · exact weak_mk [0] zw2 zw0 zw2 zw5 zw4 rfl rfl
 rintro ⟨k, hk, hinv, hdi⟩
 apply CaseB.mk <;> intro g
 · have hlt : k < m.queue.length := by simpa using g
   have hltm : k < (m.queue.map (·.t)).length := by simpa using hlt
   have hw := wrapN k _ hlt (by omega)
   have hsub : distinct (m.queue.map (·.t)) = true → isThread (m.queue[k]).t = true ∧ (m.queue[k]).t ∉ (m.queue.map (·.t)).take k := fun e => by
     simp only [distinct, decide_eq_true_eq] at e
     refine ⟨e.2 _ (List.mem_map_of_mem (List.getElem_mem hlt)), fun hm => ?_⟩
     have hn := e.1
     rw [← List.take_append_drop k (m.queue.map (·.t)), List.nodup_append] at hn
     refine hn.2.2 _ hm _ ?_ rfl
     rw [List.drop_eq_getElem_cons hltm]
     simp
   refine stop_idx encWaiter tabOk rfl rfl rfl rfl rfl ⟨rfl, rfl⟩ (rdAt 0 rfl) k rfl z38 (fun ad => ?_)
   refine stop_call _ cl157 rfl rfl rfl rfl ⟨rfl, rfl⟩ (fun A w hW => l1Thread_c _ w) ?_
   rintro v L ⟨rfl, rfl⟩
   apply CaseB.mk <;> intro g
   · exact ret0 ⟨_, rfl, tno fun e => (by rw [(hsub e.dis).1] at g; cases g), rfl⟩ (fun _ => rfl)
   have d0 : isThread (m.queue[k]).t = true := by simpa using g
   apply CaseB.mk <;> intro g
   · have q : ¬ (1 ≤ (m.queue[k]).n) := by have g' := of_decide_eq_true g; omega
     exact ret0 ⟨_, rfl, tno fun e => q (e.cnt _ (List.getElem_mem hlt)).1, rfl⟩ (fun _ => rfl)
   have d1 : 1 ≤ (m.queue[k]).n := by have g' := of_decide_eq_false g; omega
   apply CaseB.mk <;> intro g
   · have q : ¬ ((m.queue[k]).n ≤ m.limit) := by have g' := of_decide_eq_true g; omega
     exact ret0 ⟨_, rfl, tno fun e => q (e.cnt _ (List.getElem_mem hlt)).2, rfl⟩ (fun _ => rfl)
   have d2 : (m.queue[k]).n ≤ m.limit := by have g' := of_decide_eq_false g; omega
   refine LoopW.mk ⟨{ j : Nat // j ≤ k ∧ (m.queue[k]).t ∉ (m.queue.map (·.t)).take j },
     fun j => .mk [(1, .p 0 0), (3, .v (.int .i64 (k : Int))), (4, .p 1 0), (5, .v (.int .i64 (j.1 : Int)))] 2 0 [(0, 57, 3), (1, 137, 2)] [((0, 0), .v (.int .i64 m.free)), ((0, 1), .v (.int .i64 m.limit)), ((0, 2), .v (q.val m.queue.length)), ((1, 0), .v (.int .i64 (m.queue[k]).t))] [slo q cWaiter 2 m.queue],
     fun j => k - j.1, ⟨0, Nat.zero_le _, by simp⟩, ?_, ?_⟩
   · exact weak_mk [0] zw2 zw0 zw2 zw5 zw4 rfl rfl
   rintro ⟨j, hj, hnm⟩
   apply CaseB.mk <;> intro g
   · have hlj : j < k := by simpa using g
     have hlj2 : j < m.queue.length := by omega
     have hwj := wrapN j k hlj (by omega)
     refine draw_start tabOk z95 z95 z95 200 [((0, 0), .v (.int .i64 m.free)), ((0, 1), .v (.int .i64 m.limit)), ((0, 2), .v (q.val m.queue.length)), ((1, 0), .v (.int .i64 (m.queue[k]).t))] [0] [_] z111 z125 ⟨rfl, trivial⟩ rfl ?_
     refine d_idx (ti := tiOf tab) encWaiter tabOk rfl rfl rfl rfl rfl ⟨rfl, rfl⟩ (rdAt 0 rfl) j rfl z38 (fun ad2 => ?_)
     apply CaseB.mk <;> intro g
     · have q : (m.queue[j]).t = (m.queue[k]).t := by simpa using g
       refine ret0 ⟨_, rfl, tno fun e => (hsub e.dis).2 ?_, rfl⟩ (fun _ => rfl)
       rw [← q, List.mem_take_iff_getElem]
       exact ⟨j, by simp; omega, by simp⟩
     · have q : ¬ (m.queue[j]).t = (m.queue[k]).t := by simpa using g
       refine ⟨⟨j + 1, by omega, ?_⟩, ?_, by simp only; omega⟩
       · rw [List.take_succ_eq_append_getElem (by simpa using hlj2)]
         simp only [List.mem_append, List.mem_singleton, List.getElem_map, not_or]
         exact ⟨hnm, fun e => q e.symm⟩
       · exact weak_mk [0] zw6 zw0 zw6 zw5 zw12 rfl rfl
   have hjk : j = k := by have : ¬ (j : Int) < k := by simpa using g
                          omega
   subst hjk
   refine ⟨⟨j + 1, by omega, fun x hx => ?_, ?_⟩, ?_, by simp only; omega⟩
   · rw [List.take_succ_eq_append_getElem hlt] at hx
     rcases List.mem_append.1 hx with hx | hx
     · exact hinv x hx
     · simp at hx; subst hx; exact ⟨d1, d2⟩
   · rw [List.take_succ_eq_append_getElem hltm]
     simp only [distinct, decide_eq_true_eq] at hdi ⊢
     refine ⟨?_, fun x hx => ?_⟩
     · rw [List.nodup_append]
       refine ⟨hdi.1, by simp, fun a ha b hb => ?_⟩
       simp at hb; subst hb
       rintro rfl
       exact hnm ha
     · rcases List.mem_append.1 hx with hx | hx
       · exact hdi.2 x hx
       · simp at hx; subst hx; exact d0
   · exact weak_mk [0] zw1 zw0 zw1 zw5 zw3 rfl rfl
 have hge : m.queue.length ≤ k := by simpa using g
 rw [List.take_of_length_le hge] at hinv
 rw [List.take_of_length_le z85] at hdi
 refine draw_start tabOk z95 z95 z95 200 [((0, 0), .v (.int .i64 m.free)), ((0, 1), .v (.int .i64 m.limit)), ((0, 2), .v (q.val m.queue.length))] [0] [_] z118 z130 ⟨rfl, trivial⟩ rfl ?_
 apply CaseB.mk <;> intro g
 · have c7 : m.queue = [] := by simpa using g
   exact ret0 ⟨_, rfl, tyes ⟨c1, c2, c3, c4, c5, hinv, hdi, by rw [c7]; simp⟩, rfl⟩ (fun _ => rfl)
 have c7 : 0 < m.queue.length := by have g' : ¬ m.queue = [] := by simpa using g
                                    exact List.length_pos_iff.2 g'
 refine d_idx (ti := tiOf tab) encWaiter tabOk rfl rfl rfl rfl rfl ⟨rfl, rfl⟩ (rdAt 0 rfl) 0 rfl z38 (fun ad => ?_)
 refine ret0 ⟨_, rfl, ?_, rfl⟩ (fun _ => rfl)
 have hh : ∀ w, m.queue[0]? = some w → w = m.queue[0] := fun w hw => by rw [List.getElem?_eq_getElem c7] at hw; injection hw with hw; exact hw.symm
 constructor
 · intro g
   have g' := of_decide_eq_true g
   exact ⟨c1, c2, c3, c4, c5, hinv, hdi, fun w hw => by rw [hh w hw]; omega⟩
 · intro e
   have := e.hd _ (List.getElem?_eq_getElem c7)
   exact decide_eq_true (by omega)
structure SharedOk (p : Prog) (s : State) : Prop where
 lsems : s.sems.length = p.sems.length
 lgroups : s.groups.length = p.groups.length
 lbarriers : s.barriers.length = p.barriers.length
 lchans : s.chans.length = p.rooms.length
 lonces : s.onces.length = 3
 sems : ∀ (i : Nat) x, s.sems[i]? = some x → SemOk x ∧ p.sems[i]? = some x.limit
 groups : ∀ x ∈ s.groups, GroupOk x
 barriers : ∀ (i : Nat) x, s.barriers[i]? = some x → BarrierOk x ∧ p.barriers[i]? = some x.parties
 chans : ∀ (i : Nat) x, s.chans[i]? = some x → x.valid = true ∧ p.rooms[i]? = some x.room
 onces : ∀ x ∈ s.onces, OnceOk x
theorem Fits.shared {p : Prog} {s : State} (h : Fits p s) : SharedOk p s := ⟨h.lsems, h.lgroups, h.lbarriers, h.lchans, h.lonces, h.sems, h.groups, h.barriers, h.chans, h.onces⟩
set_option maxHeartbeats 40000000 in
set_option maxRecDepth 100000 in
theorem shared_c (p : ProgH) (s : StateH) (w : World) (h : At w [fR (progO p), fR (stateO s)]) (ok : ProgOk p.pure) (hs : s.pure.small20) :
   Calls Tryz.prog 66 #[progV p, stateV s] w (Tells w (SharedOk p.pure s.pure)) := by
 obtain ⟨b0, b1, b2, b3, b4, b5, b6, b7⟩ := hs
 have mlen : ∀ {α β : Type} (f : α → β) (xs : List α), (xs.map f).length = xs.length := fun f xs => by simp
 have m0 : p.sems.length ≤ 3 := ok.sems.1
 have m1 : p.groups.length ≤ 3 := ok.groups.1
 have m2 : p.barriers.length ≤ 3 := ok.barriers.1
 have m3 : p.rooms.length ≤ 3 := ok.rooms.1
 refine calls2 Tryz.func66 rfl tabOk w _ rfl _ rfl _ h ⟨rfl, rfl, rfl, rfl, trivial⟩ _ _ (by decide) ?_
 apply CaseB.mk <;> intro g
 · have q : ¬ s.sems.length = p.sems.length := by simp at g; omega
   exact ret0 ⟨_, rfl, tno fun e => q (by have := e.lsems; simpa [StateH.pure, ProgH.pure] using this), rfl⟩ (fun _ => rfl)
 have c2 : s.sems.length = p.sems.length := by simp at g; omega
 apply CaseB.mk <;> intro g
 · have q : ¬ s.onces.length = 3 := by simp at g; omega
   exact ret0 ⟨_, rfl, tno fun e => q (by have := e.lonces; simpa [StateH.pure, ProgH.pure] using this), rfl⟩ (fun _ => rfl)
 have c3 : s.onces.length = 3 := by simp at g; omega
 apply CaseB.mk <;> intro g
 · have q : ¬ s.groups.length = p.groups.length := by simp at g; omega
   exact ret0 ⟨_, rfl, tno fun e => q (by have := e.lgroups; simpa [StateH.pure, ProgH.pure] using this), rfl⟩ (fun _ => rfl)
 have c4 : s.groups.length = p.groups.length := by simp at g; omega
 apply CaseB.mk <;> intro g
 · have q : ¬ s.barriers.length = p.barriers.length := by simp at g; omega
   exact ret0 ⟨_, rfl, tno fun e => q (by have := e.lbarriers; simpa [StateH.pure, ProgH.pure] using this), rfl⟩ (fun _ => rfl)
 have c5 : s.barriers.length = p.barriers.length := by simp at g; omega
 apply CaseB.mk <;> intro g
 · have q : ¬ s.chans.length = p.rooms.length := by simp at g; omega
   exact ret0 ⟨_, rfl, tno fun e => q (by have := e.lchans; simpa [StateH.pure, ProgH.pure] using this), rfl⟩ (fun _ => rfl)
 have c6 : s.chans.length = p.rooms.length := by simp at g; omega
 refine LoopW.mk ⟨{ k : Nat // k ≤ s.sems.length ∧ ∀ (i : Nat) x, i < k → s.pure.sems[i]? = some x → SemOk x ∧ p.pure.sems[i]? = some x.limit },
   fun k => .mk [(2, .p 0 0), (3, .p 1 0), (5, .v (.int .i64 (k.1 : Int)))] 2 0 [(0, 37, 5), (1, 30, 9)] [((0, 0), .v (p.h0.val p.sems.length)), ((0, 1), .v (p.h1.val p.groups.length)), ((0, 2), .v (p.h2.val p.barriers.length)), ((0, 3), .v (p.h3.val p.rooms.length)), ((0, 4), .v (p.h4.val p.threads.length)), ((1, 0), .v (s.h0.val s.places.length)), ((1, 1), .v (s.h1.val s.status.length)), ((1, 2), .v (s.h2.val s.sems.length)), ((1, 3), .v (s.h3.val s.onces.length)), ((1, 4), .v (s.h4.val s.groups.length)), ((1, 5), .v (s.h5.val s.barriers.length)), ((1, 6), .v (s.h6.val s.chans.length)), ((1, 7), .v (s.h7.val s.said.length)), ((1, 8), .v (.int .i64 s.fault))] [fR (progO p), fR (stateO s)],
   fun k => s.sems.length - k.1, ⟨0, Nat.zero_le _, fun i x hi => by omega⟩, ?_, ?_⟩
 · exact weak_mk [0, 1] zw2 zw0 zw2 zw5 zw4 rfl rfl
 rintro ⟨k, hk, hinv⟩
 apply CaseB.mk <;> intro g
 · have hlt : k < s.sems.length := by simpa using g
   have hw := e_succ k _ hlt (by omega)
   have hat : s.pure.sems[k]? = some (s.sems[k]).m := by simp [StateH.pure, hlt]
   have hsm := (allS_map b2).2 _ (List.getElem_mem hlt)
   unfold Sem.small20 at hsm
   have hlp : k < p.sems.length := by omega
   have hpat : p.pure.sems[k]? = some p.sems[k] := by simp [ProgH.pure, hlp]
   refine draw_start tabOk z95 z95 z95 200 [((0, 0), .v (p.h0.val p.sems.length)), ((1, 2), .v (s.h2.val s.sems.length))] [0, 1] [_, _] z124 z134 ⟨rfl, rfl, trivial⟩ rfl ?_
   refine d_idx (ti := tiOf tab) encSemH tabOk rfl rfl rfl rfl rfl ⟨rfl, rfl⟩ (rdVia 1 rfl (.trans (.R_R (stateO_sems s)) (.ofR nest_h))) k rfl z38 (fun ad => ?_)
   refine d_call _ cl113 rfl rfl rfl rfl ⟨rfl, rfl⟩ (fun A w hW => semValidS_c _ _ w ⟨hW.get 1 rfl (.trans (.R_R (stateO_sems s)) (.ofR (semsO_0 _ _ k hlt))), trivial⟩ (by omega)) ?_
   rintro v L ⟨bb, rfl, hbb, rfl⟩
   apply CaseB.mk <;> intro g
   · exact ret0 ⟨_, rfl, tno fun e => (by rw [hbb.2 ((e.sems k _ hat).1)] at g; cases g), rfl⟩ (fun _ => rfl)
   have q1 := hbb.1 z91
   refine d_idx (ti := tiOf tab) encSemH tabOk rfl rfl rfl rfl rfl ⟨rfl, rfl⟩ (rdVia 1 rfl (.trans (.R_R (stateO_sems s)) (.ofR nest_h))) k rfl z38 (fun ad1 => ?_)
   refine d_idx (ti := tiOf tab) encInt tabOk rfl rfl rfl rfl rfl ⟨rfl, rfl⟩ (rdVia 0 rfl (.ofR (progO_sems p))) k rfl z38 (fun ad2 => ?_)
   apply CaseB.mk <;> intro g
   · have q : ¬ (s.sems[k]).m.limit = p.sems[k] := by simpa using g
     exact ret0 ⟨_, rfl, tno fun e => q z49, rfl⟩ (fun _ => rfl)
   have q2 : (s.sems[k]).m.limit = p.sems[k] := by simpa using g
   refine ⟨⟨k + 1, by omega, fun i x hi hx => ?_⟩, ?_, by simp only; omega⟩
   · by_cases e : i < k
     · exact hinv i x e hx
     · obtain rfl : i = k := by omega
       rw [hat] at hx
       injection hx with hx
       subst hx
       exact ⟨q1, by rw [hpat, q2]⟩
   · exact weak_mk [0, 1] zw1 zw0 zw1 zw5 zw3 rfl rfl
 have hge : s.sems.length ≤ k := by simpa using g
 have vsems : ∀ (i : Nat) x, s.pure.sems[i]? = some x → SemOk x ∧ p.pure.sems[i]? = some x.limit := fun i x hx => hinv i x (by have := (List.getElem?_eq_some_iff.1 hx).1; have e : s.pure.sems.length = s.sems.length := mlen _ _; omega) hx
 refine LoopW.mk ⟨{ k : Nat // k ≤ s.onces.length ∧ ∀ (i : Nat) x, i < k → s.pure.onces[i]? = some x → OnceOk x },
   fun k => .mk [(2, .p 0 0), (3, .p 1 0), (6, .v (.int .i64 (k.1 : Int)))] 2 0 [(0, 37, 5), (1, 30, 9)] [((0, 0), .v (p.h0.val p.sems.length)), ((0, 1), .v (p.h1.val p.groups.length)), ((0, 2), .v (p.h2.val p.barriers.length)), ((0, 3), .v (p.h3.val p.rooms.length)), ((0, 4), .v (p.h4.val p.threads.length)), ((1, 0), .v (s.h0.val s.places.length)), ((1, 1), .v (s.h1.val s.status.length)), ((1, 2), .v (s.h2.val s.sems.length)), ((1, 3), .v (s.h3.val s.onces.length)), ((1, 4), .v (s.h4.val s.groups.length)), ((1, 5), .v (s.h5.val s.barriers.length)), ((1, 6), .v (s.h6.val s.chans.length)), ((1, 7), .v (s.h7.val s.said.length)), ((1, 8), .v (.int .i64 s.fault))] [fR (progO p), fR (stateO s)],
   fun k => s.onces.length - k.1, ⟨0, Nat.zero_le _, fun i x hi => by omega⟩, ?_, ?_⟩
 · exact weak_mk [0, 1] zw2 zw0 zw2 zw5 zw4 rfl rfl
 rintro ⟨k, hk, hinv⟩
 apply CaseB.mk <;> intro g
 · have hlt : k < s.onces.length := by simpa using g
   have hw := e_succ k _ hlt (by omega)
   have hat : s.pure.onces[k]? = some (s.onces[k]).m := by simp [StateH.pure, hlt]
   have hsm := (allS_map b3).2 _ (List.getElem_mem hlt)
   unfold Once.small20 at hsm
   refine stop_idx encOnceH tabOk rfl rfl rfl rfl rfl ⟨rfl, rfl⟩ (rdVia 1 rfl (.trans (.R_R (stateO_onces s)) (.ofR nest_h))) k rfl z38 (fun ad => ?_)
   refine stop_call _ cl114 rfl rfl rfl rfl ⟨rfl, rfl⟩ (fun A w hW => onceValidS_c _ _ w ⟨hW.get 1 rfl (.trans (.R_R (stateO_onces s)) (.ofR (oncesO_0 _ _ k hlt))), trivial⟩ (by omega)) ?_
   rintro v L ⟨bb, rfl, hbb, rfl⟩
   apply CaseB.mk <;> intro g
   · exact ret0 ⟨_, rfl, tno fun e => (by rw [hbb.2 (e.onces _ (List.mem_of_getElem? hat))] at g; cases g), rfl⟩ (fun _ => rfl)
   have q1 := hbb.1 z91
   refine ⟨⟨k + 1, by omega, fun i x hi hx => ?_⟩, ?_, by simp only; omega⟩
   · by_cases e : i < k
     · exact hinv i x e hx
     · obtain rfl : i = k := by omega
       rw [hat] at hx
       injection hx with hx
       subst hx
       exact q1
   · exact weak_mk [0, 1] zw1 zw0 zw1 zw5 zw3 rfl rfl
 have hge : s.onces.length ≤ k := by simpa using g
 have vonces : ∀ (i : Nat) x, s.pure.onces[i]? = some x → OnceOk x := fun i x hx => hinv i x (by have := (List.getElem?_eq_some_iff.1 hx).1; have e : s.pure.onces.length = s.onces.length := mlen _ _; omega) hx
 refine LoopW.mk ⟨{ k : Nat // k ≤ s.groups.length ∧ ∀ (i : Nat) x, i < k → s.pure.groups[i]? = some x → GroupOk x },
   fun k => .mk [(2, .p 0 0), (3, .p 1 0), (7, .v (.int .i64 (k.1 : Int)))] 2 0 [(0, 37, 5), (1, 30, 9)] [((0, 0), .v (p.h0.val p.sems.length)), ((0, 1), .v (p.h1.val p.groups.length)), ((0, 2), .v (p.h2.val p.barriers.length)), ((0, 3), .v (p.h3.val p.rooms.length)), ((0, 4), .v (p.h4.val p.threads.length)), ((1, 0), .v (s.h0.val s.places.length)), ((1, 1), .v (s.h1.val s.status.length)), ((1, 2), .v (s.h2.val s.sems.length)), ((1, 3), .v (s.h3.val s.onces.length)), ((1, 4), .v (s.h4.val s.groups.length)), ((1, 5), .v (s.h5.val s.barriers.length)), ((1, 6), .v (s.h6.val s.chans.length)), ((1, 7), .v (s.h7.val s.said.length)), ((1, 8), .v (.int .i64 s.fault))] [fR (progO p), fR (stateO s)],
   fun k => s.groups.length - k.1, ⟨0, Nat.zero_le _, fun i x hi => by omega⟩, ?_, ?_⟩
 · exact weak_mk [0, 1] zw2 zw0 zw2 zw5 zw4 rfl rfl
 rintro ⟨k, hk, hinv⟩
 apply CaseB.mk <;> intro g
 · have hlt : k < s.groups.length := by simpa using g
   have hw := e_succ k _ hlt (by omega)
   have hat : s.pure.groups[k]? = some (s.groups[k]).m := by simp [StateH.pure, hlt]
   have hsm := (allS_map b4).2 _ (List.getElem_mem hlt)
   unfold Group.small20 at hsm
   refine stop_idx encGroupH tabOk rfl rfl rfl rfl rfl ⟨rfl, rfl⟩ (rdVia 1 rfl (.trans (.R_R (stateO_groups s)) (.ofR nest_h))) k rfl z38 (fun ad => ?_)
   refine stop_call _ cl115 rfl rfl rfl rfl ⟨rfl, rfl⟩ (fun A w hW => groupValidS_c _ _ w ⟨hW.get 1 rfl (.trans (.R_R (stateO_groups s)) (.ofR (groupsO_0 _ _ k hlt))), trivial⟩ (by omega)) ?_
   rintro v L ⟨bb, rfl, hbb, rfl⟩
   apply CaseB.mk <;> intro g
   · exact ret0 ⟨_, rfl, tno fun e => (by rw [hbb.2 (e.groups _ (List.mem_of_getElem? hat))] at g; cases g), rfl⟩ (fun _ => rfl)
   have q1 := hbb.1 z91
   refine ⟨⟨k + 1, by omega, fun i x hi hx => ?_⟩, ?_, by simp only; omega⟩
   · by_cases e : i < k
     · exact hinv i x e hx
     · obtain rfl : i = k := by omega
       rw [hat] at hx
       injection hx with hx
       subst hx
       exact q1
   · exact weak_mk [0, 1] zw1 zw0 zw1 zw5 zw3 rfl rfl
 have hge : s.groups.length ≤ k := by simpa using g
 have vgroups : ∀ (i : Nat) x, s.pure.groups[i]? = some x → GroupOk x := fun i x hx => hinv i x (by have := (List.getElem?_eq_some_iff.1 hx).1; have e : s.pure.groups.length = s.groups.length := mlen _ _; omega) hx
 refine LoopW.mk ⟨{ k : Nat // k ≤ s.barriers.length ∧ ∀ (i : Nat) x, i < k → s.pure.barriers[i]? = some x → BarrierOk x ∧ p.pure.barriers[i]? = some x.parties },
   fun k => .mk [(2, .p 0 0), (3, .p 1 0), (8, .v (.int .i64 (k.1 : Int)))] 2 0 [(0, 37, 5), (1, 30, 9)] [((0, 0), .v (p.h0.val p.sems.length)), ((0, 1), .v (p.h1.val p.groups.length)), ((0, 2), .v (p.h2.val p.barriers.length)), ((0, 3), .v (p.h3.val p.rooms.length)), ((0, 4), .v (p.h4.val p.threads.length)), ((1, 0), .v (s.h0.val s.places.length)), ((1, 1), .v (s.h1.val s.status.length)), ((1, 2), .v (s.h2.val s.sems.length)), ((1, 3), .v (s.h3.val s.onces.length)), ((1, 4), .v (s.h4.val s.groups.length)), ((1, 5), .v (s.h5.val s.barriers.length)), ((1, 6), .v (s.h6.val s.chans.length)), ((1, 7), .v (s.h7.val s.said.length)), ((1, 8), .v (.int .i64 s.fault))] [fR (progO p), fR (stateO s)],
   fun k => s.barriers.length - k.1, ⟨0, Nat.zero_le _, fun i x hi => by omega⟩, ?_, ?_⟩
 · exact weak_mk [0, 1] zw2 zw0 zw2 zw5 zw4 rfl rfl
 rintro ⟨k, hk, hinv⟩
 apply CaseB.mk <;> intro g
 · have hlt : k < s.barriers.length := by simpa using g
   have hw := e_succ k _ hlt (by omega)
   have hat : s.pure.barriers[k]? = some (s.barriers[k]).m := by simp [StateH.pure, hlt]
   have hsm := (allS_map b5).2 _ (List.getElem_mem hlt)
   unfold Barrier.small20 at hsm
   have hlp : k < p.barriers.length := by omega
   have hpat : p.pure.barriers[k]? = some p.barriers[k] := by simp [ProgH.pure, hlp]
   refine draw_start tabOk z95 z95 z95 200 [((0, 2), .v (p.h2.val p.barriers.length)), ((1, 5), .v (s.h5.val s.barriers.length))] [0, 1] [_, _] z124 z134 ⟨rfl, rfl, trivial⟩ rfl ?_
   refine d_idx (ti := tiOf tab) encBarrierH tabOk rfl rfl rfl rfl rfl ⟨rfl, rfl⟩ (rdVia 1 rfl (.trans (.R_R (stateO_barriers s)) (.ofR nest_h))) k rfl z38 (fun ad => ?_)
   refine d_call _ cl116 rfl rfl rfl rfl ⟨rfl, rfl⟩ (fun A w hW => barrierValidS_c _ _ w ⟨hW.get 1 rfl (.trans (.R_R (stateO_barriers s)) (.ofR (barriersO_0 _ _ k hlt))), trivial⟩ (by omega)) ?_
   rintro v L ⟨bb, rfl, hbb, rfl⟩
   apply CaseB.mk <;> intro g
   · exact ret0 ⟨_, rfl, tno fun e => (by rw [hbb.2 ((e.barriers k _ hat).1)] at g; cases g), rfl⟩ (fun _ => rfl)
   have q1 := hbb.1 z91
   refine d_idx (ti := tiOf tab) encBarrierH tabOk rfl rfl rfl rfl rfl ⟨rfl, rfl⟩ (rdVia 1 rfl (.trans (.R_R (stateO_barriers s)) (.ofR nest_h))) k rfl z38 (fun ad1 => ?_)
   refine d_idx (ti := tiOf tab) encInt tabOk rfl rfl rfl rfl rfl ⟨rfl, rfl⟩ (rdVia 0 rfl (.ofR (progO_barriers p))) k rfl z38 (fun ad2 => ?_)
   apply CaseB.mk <;> intro g
   · have q : ¬ (s.barriers[k]).m.parties = p.barriers[k] := by simpa using g
     exact ret0 ⟨_, rfl, tno fun e => q z46, rfl⟩ (fun _ => rfl)
   have q2 : (s.barriers[k]).m.parties = p.barriers[k] := by simpa using g
   refine ⟨⟨k + 1, by omega, fun i x hi hx => ?_⟩, ?_, by simp only; omega⟩
   · by_cases e : i < k
     · exact hinv i x e hx
     · obtain rfl : i = k := by omega
       rw [hat] at hx
       injection hx with hx
       subst hx
       exact ⟨q1, by rw [hpat, q2]⟩
   · exact weak_mk [0, 1] zw1 zw0 zw1 zw5 zw3 rfl rfl
 have hge : s.barriers.length ≤ k := by simpa using g
 have vbarriers : ∀ (i : Nat) x, s.pure.barriers[i]? = some x → BarrierOk x ∧ p.pure.barriers[i]? = some x.parties := fun i x hx => hinv i x (by have := (List.getElem?_eq_some_iff.1 hx).1; have e : s.pure.barriers.length = s.barriers.length := mlen _ _; omega) hx
 refine LoopW.mk ⟨{ k : Nat // k ≤ s.chans.length ∧ ∀ (i : Nat) x, i < k → s.pure.chans[i]? = some x → x.valid = true ∧ p.pure.rooms[i]? = some x.room },
   fun k => .mk [(2, .p 0 0), (3, .p 1 0), (9, .v (.int .i64 (k.1 : Int)))] 2 0 [(0, 37, 5), (1, 30, 9)] [((0, 0), .v (p.h0.val p.sems.length)), ((0, 1), .v (p.h1.val p.groups.length)), ((0, 2), .v (p.h2.val p.barriers.length)), ((0, 3), .v (p.h3.val p.rooms.length)), ((0, 4), .v (p.h4.val p.threads.length)), ((1, 0), .v (s.h0.val s.places.length)), ((1, 1), .v (s.h1.val s.status.length)), ((1, 2), .v (s.h2.val s.sems.length)), ((1, 3), .v (s.h3.val s.onces.length)), ((1, 4), .v (s.h4.val s.groups.length)), ((1, 5), .v (s.h5.val s.barriers.length)), ((1, 6), .v (s.h6.val s.chans.length)), ((1, 7), .v (s.h7.val s.said.length)), ((1, 8), .v (.int .i64 s.fault))] [fR (progO p), fR (stateO s)],
   fun k => s.chans.length - k.1, ⟨0, Nat.zero_le _, fun i x hi => by omega⟩, ?_, ?_⟩
 · exact weak_mk [0, 1] zw2 zw0 zw2 zw5 zw4 rfl rfl
 rintro ⟨k, hk, hinv⟩
 apply CaseB.mk <;> intro g
 · have hlt : k < s.chans.length := by simpa using g
   have hw := e_succ k _ hlt (by omega)
   have hat : s.pure.chans[k]? = some (s.chans[k]).m := by simp [StateH.pure, hlt]
   have hsm := (allS_map b6).2 _ (List.getElem_mem hlt)
   unfold Chan.small20 at hsm
   have hlp : k < p.rooms.length := by omega
   have hpat : p.pure.rooms[k]? = some p.rooms[k] := by simp [ProgH.pure, hlp]
   refine draw_start tabOk z95 z95 z95 200 [((0, 3), .v (p.h3.val p.rooms.length)), ((1, 6), .v (s.h6.val s.chans.length))] [0, 1] [_, _] z124 z134 ⟨rfl, rfl, trivial⟩ rfl ?_
   refine d_idx (ti := tiOf tab) encChanH tabOk rfl rfl rfl rfl rfl ⟨rfl, rfl⟩ (rdVia 1 rfl (.trans (.R_R (stateO_chans s)) (.ofR nest_h))) k rfl z38 (fun ad => ?_)
   refine d_call _ cl117 rfl rfl rfl rfl ⟨rfl, rfl⟩ (fun A w hW => validS_c _ _ _ _ w ⟨hW.get 1 rfl (.trans (.R_R (stateO_chans s)) (.ofR (chansO_0 _ _ k hlt))), hW.get 1 rfl (.trans (.R_R (stateO_chans s)) (.ofR (chansO_1 _ _ k hlt))), hW.get 1 rfl (.trans (.R_R (stateO_chans s)) (.ofR (chansO_2 _ _ k hlt))), trivial⟩ ⟨by omega, by omega, by omega⟩) ?_
   rintro v L ⟨rfl, rfl⟩
   apply CaseB.mk <;> intro g
   · exact ret0 ⟨_, rfl, tno fun e => (by rw [(e.chans k _ hat).1] at g; cases g), rfl⟩ (fun _ => rfl)
   have q1 : (s.chans[k]).m.valid = true := by simpa using g
   refine d_idx (ti := tiOf tab) encChanH tabOk rfl rfl rfl rfl rfl ⟨rfl, rfl⟩ (rdVia 1 rfl (.trans (.R_R (stateO_chans s)) (.ofR nest_h))) k rfl z38 (fun ad1 => ?_)
   refine d_idx (ti := tiOf tab) encInt tabOk rfl rfl rfl rfl rfl ⟨rfl, rfl⟩ (rdVia 0 rfl (.ofR (progO_rooms p))) k rfl z38 (fun ad2 => ?_)
   apply CaseB.mk <;> intro g
   · have q : ¬ (s.chans[k]).m.room = p.rooms[k] := by simpa using g
     exact ret0 ⟨_, rfl, tno fun e => q z48, rfl⟩ (fun _ => rfl)
   have q2 : (s.chans[k]).m.room = p.rooms[k] := by simpa using g
   refine ⟨⟨k + 1, by omega, fun i x hi hx => ?_⟩, ?_, by simp only; omega⟩
   · by_cases e : i < k
     · exact hinv i x e hx
     · obtain rfl : i = k := by omega
       rw [hat] at hx
       injection hx with hx
       subst hx
       exact ⟨q1, by rw [hpat, q2]⟩
   · exact weak_mk [0, 1] zw1 zw0 zw1 zw5 zw3 rfl rfl
 have hge : s.chans.length ≤ k := by simpa using g
 have vchans : ∀ (i : Nat) x, s.pure.chans[i]? = some x → x.valid = true ∧ p.pure.rooms[i]? = some x.room := fun i x hx => hinv i x (by have := (List.getElem?_eq_some_iff.1 hx).1; have e : s.pure.chans.length = s.chans.length := mlen _ _; omega) hx
 have mm : ∀ {α : Type} {xs : List α} {q : α → Prop}, (∀ (i : Nat) x, xs[i]? = some x → q x) → ∀ x ∈ xs, q x := fun h x hx => by
   obtain ⟨i, hi⟩ := List.getElem?_of_mem hx
   exact h i x hi
 have n := fun {α β γ δ : Type} (f : α → β) (g : γ → δ) {xs : List α} {ys : List γ} (e : xs.length = ys.length) => (show (xs.map f).length = (ys.map g).length by simp [e])
 exact ret0 ⟨_, rfl, tyes ⟨by simpa [StateH.pure, ProgH.pure] using c2, by simpa [StateH.pure, ProgH.pure] using c4, by simpa [StateH.pure, ProgH.pure] using c5, by simpa [StateH.pure, ProgH.pure] using c6, by simpa [StateH.pure, ProgH.pure] using c3, vsems, mm vgroups, vbarriers, vchans, mm vonces⟩, rfl⟩ (fun _ => rfl)
theorem atM_get (xs : List Int) (t : Int) (h : 0 ≤ atM xs t) : xs[(atM xs t).toNat]? = some t := by
 induction xs with
 | nil => simp [atM] at h
 | cons x r ih =>
   simp only [atM] at h ⊢
   by_cases e : x = t
   · simp [e]
   · simp only [e, if_false] at h ⊢
     by_cases e2 : atM r t < 0
     · rw [if_pos e2] at h; omega
     · rw [if_neg e2] at h ⊢
       have e3 : (atM r t + 1).toNat = (atM r t).toNat + 1 := by omega
       rw [e3, List.getElem?_cons_succ]
       exact ih (by omega)
theorem at_in {α : Type} {f : α → Int} {l : List α} {t a : Int} (hd : (l.map f).Nodup) (ha : a = atM (l.map f) t) (x : α) : (x ∈ l ∧ f x = t) ↔ (l[a.toNat]? = some x ∧ 0 ≤ a) := by
 subst ha
 constructor
 · rintro ⟨hm, hx⟩
   have h0 : 0 ≤ atM (l.map f) t := (atM_mem _ _).2 (hx ▸ List.mem_map_of_mem hm)
   have h1 := atM_get _ _ h0
   obtain ⟨i, hi, rfl⟩ := List.getElem_of_mem hm
   have h2 : (l.map f)[i]? = some t := by simp [hi, hx]
   have h3 := (List.getElem?_eq_some_iff.1 h1).1
   have := (List.getElem?_inj h3 hd).1 (h1.trans h2.symm)
   rw [this]
   exact ⟨List.getElem?_eq_getElem hi, h0⟩
 · rintro ⟨h1, h0⟩
   refine ⟨List.mem_of_getElem? h1, ?_⟩
   have h2 := atM_get _ _ h0
   rw [List.getElem?_map, h1] at h2
   simpa using h2
set_option maxRecDepth 100000 in
theorem l1Find_c (i : Sl) (xs : List Waiter) (t : Int) (w : World) (h : At w [slo i cWaiter 2 xs]) (hb : xs.length ≤ 1048576) :
   Calls Tryz.prog 159 #[i.val xs.length, .int .i64 t] w (Ret w fun v L => ∃ a : Int, v = .int .i64 a ∧ a = atM (xs.map (·.t)) t ∧ L = []) := by
 refine calls2 Tryz.func159 rfl tabOk w _ rfl _ rfl _ h ⟨rfl, rfl, trivial⟩ _ _ (by decide) ?_
 have hlen : (xs.map (·.t)).length = xs.length := by simp
 refine LoopW.mk ⟨{ k : Nat // k ≤ xs.length ∧ t ∉ (xs.map (·.t)).take k },
   fun p => .mk [(0, .v (i.val xs.length)), (1, .v (.int .i64 t)), (5, .v (.int .i64 p.1))] 0 0 [] [] [slo i cWaiter 2 xs],
   fun p => xs.length - p.1, ⟨0, Nat.zero_le _, by simp⟩, ?_, ?_⟩
 · exact weak_mk [0] zw2 zw0 zw2 zw5 zw4 rfl rfl
 · rintro ⟨k, hk, he⟩
   refine CaseB.mk (fun h => ?_) (fun h => ?_)
   · have hlt : k < xs.length := by simpa using h
     have hlt2 : k < (xs.map (·.t)).length := by rw [hlen]; exact hlt
     refine stop_idx encWaiter tabOk rfl rfl rfl rfl rfl ⟨rfl, rfl⟩ z30 k rfl z38 (fun ad => ?_)
     refine CaseB.mk (fun h => ?_) (fun h => ?_)
     · have heq : (xs[k]).t = t := by simpa using h
       exact ret0 ⟨_, rfl, (atM_at hlt2 he (by simpa using heq)).symm, rfl⟩ (fun _ => rfl)
     · have hne : (xs[k]).t ≠ t := by simpa using h
       have hw := wrapN k _ hlt (by omega)
       refine ⟨⟨k + 1, by omega, not_mem_take_succ hlt2 he (by simpa using hne)⟩, ?_, by simp; omega⟩
       exact weak_mk [0] zw1 zw0 zw1 zw5 zw3 rfl rfl
   · have hge : xs.length ≤ k := by simpa using h
     rw [List.take_of_length_le (by omega)] at he
     exact ret0 ⟨_, rfl, (atM_none he).symm, rfl⟩ (fun _ => rfl)
def WaitsOn (s : State) (o : Op) (t : Int) : Prop :=
 if o.kind = 2 then ∃ x, s.sems[o.on.toNat]? = some x ∧ ⟨t, o.arg⟩ ∈ x.queue
 else if o.kind = 4 then ∃ x, s.onces[o.on.toNat]? = some x ∧ t ∈ x.waits
 else if o.kind = 6 then ∃ x, s.groups[o.on.toNat]? = some x ∧ t ∈ x.waits
 else if o.kind = 7 then ∃ x, s.barriers[o.on.toNat]? = some x ∧ t ∈ x.waits
 else if o.kind = 8 then ∃ x, s.chans[o.on.toNat]? = some x ∧ ⟨t, o.arg⟩ ∈ x.senders
 else if o.kind = 9 then ∃ x, s.chans[o.on.toNat]? = some x ∧ t ∈ x.getters
 else False
theorem only {α : Type} {xs : List α} {n : Nat} {y : α} (h : xs[n]? = some y) {q : α → Prop} : (∃ x, xs[n]? = some x ∧ q x) ↔ q y :=
 ⟨fun ⟨x, hx, hq⟩ => by rw [h] at hx; injection hx with hx; exact hx ▸ hq, fun hq => ⟨y, h, hq⟩⟩
set_option maxHeartbeats 8000000 in
set_option maxRecDepth 100000 in
theorem waits_c (p : Prog) (s : StateH) (o : Op) (t : Int) (w : World) (h : At w [fR (stateO s)]) (hs : SharedOk p s.pure) (ho : OpOk p o) :
   Calls Tryz.prog 119 #[stateV s, .agg (cOp o).toArray, .int .i64 t] w (Tells w (WaitsOn s.pure o t)) := by
 obtain ⟨s1, s2, s3, s4, s5, s6, s7, s8, s9, s10⟩ := hs
 have mlen : ∀ {α β : Type} (f : α → β) (xs : List α), (xs.map f).length = xs.length := fun f xs => by simp
 have l2 : s.pure.sems.length = s.sems.length := mlen _ _
 have l3 : s.pure.onces.length = s.onces.length := mlen _ _
 have l4 : s.pure.groups.length = s.groups.length := mlen _ _
 have l5 : s.pure.barriers.length = s.barriers.length := mlen _ _
 have l6 : s.pure.chans.length = s.chans.length := mlen _ _
 refine calls3 Tryz.func119 rfl tabOk w _ rfl _ rfl _ h ⟨rfl, rfl, trivial⟩ _ _ _ (by decide) ?_
 refine CaseB.mk (fun g => ?_) (fun g2 => ?_)
 · have k2 : o.kind = 2 := by simpa using g
   obtain ⟨⟨o0, o1⟩, _⟩ := (opOk2 (.inl k2)).1 ho
   have hlt : o.on.toNat < s.sems.length := by omega
   have hat : s.pure.sems[o.on.toNat]? = some (s.sems[o.on.toNat]).m := by simp [StateH.pure, hlt]
   have hok := (s6 _ _ hat).1
   have hq := hok.q6
   refine stop_idx encSemH tabOk rfl rfl rfl rfl rfl ⟨rfl, rfl⟩ (rdVia 0 rfl (.trans (.R_R (stateO_sems s)) (.ofR nest_h))) o.on.toNat (by omega) z38 (fun ad => ?_)
   refine stop_call _ cl159 rfl rfl rfl rfl ⟨rfl, rfl⟩ (fun A w hW => l1Find_c _ _ t w ⟨hW.get 0 rfl (.trans (.R_R (stateO_sems s)) (.ofR (semsO_0 _ _ _ hlt))), trivial⟩ (by omega)) ?_
   rintro v L ⟨a, rfl, ha, rfl⟩
   have hin := at_in (f := (·.t)) (by have := hok.dis; simp only [distinct, decide_eq_true_eq] at this; exact this.1) ha (⟨t, o.arg⟩ : Waiter)
   have hQ : WaitsOn s.pure o t ↔ ((s.sems[o.on.toNat]).m.queue[a.toNat]? = some ⟨t, o.arg⟩ ∧ 0 ≤ a) := by
     rw [← hin, WaitsOn, if_pos k2, only hat]; simp
   refine draw_start tabOk z95 z95 z95 200 [((0, 2), .v (s.h2.val s.sems.length)), ((1, 1), .v (.int .i64 o.on)), ((1, 2), .v (.int .i64 o.arg))] [0] [_] z118 z130 ⟨rfl, trivial⟩ rfl ?_
   apply CaseB.mk <;> intro g
   · have a0 : 0 ≤ a := by simpa using g
     have hg := atM_get _ t (ha ▸ a0)
     rw [← ha, List.getElem?_map] at hg
     have hl : a.toNat < (s.sems[o.on.toNat]).m.queue.length := by
       refine Classical.byContradiction fun n => ?_
       rw [List.getElem?_eq_none (by omega)] at hg; simp at hg
     rw [List.getElem?_eq_getElem hl] at hg
     have ht : ((s.sems[o.on.toNat]).m.queue[a.toNat]).t = t := by simpa using hg
     refine d_idx (ti := tiOf tab) encSemH tabOk rfl rfl rfl rfl rfl ⟨rfl, rfl⟩ (rdVia 0 rfl (.trans (.R_R (stateO_sems s)) (.ofR nest_h))) o.on.toNat (by omega) z38 (fun ad1 => ?_)
     refine d_idx (ti := tiOf tab) encWaiter tabOk rfl rfl rfl rfl rfl ⟨rfl, rfl⟩ (rdVia 0 rfl (.trans (.R_R (stateO_sems s)) (.ofR (semsO_0 _ _ _ hlt)))) a.toNat (by omega) z38 (fun ad2 => ?_)
     refine ret0 ⟨_, rfl, ?_, rfl⟩ (fun _ => rfl)
     rw [hQ, List.getElem?_eq_getElem hl, beq_iff_eq]
     constructor
     · intro e
       refine ⟨?_, a0⟩
       rw [← ht, ← e]
     · rintro ⟨e, _⟩
       injection e with e
       rw [e]
   · have a0 : ¬ 0 ≤ a := by simpa using g
     exact ret0 ⟨_, rfl, tno fun e => a0 (hQ.1 e).2, rfl⟩ (fun _ => rfl)
 have n2 : ¬ o.kind = 2 := by simpa using g2
 refine CaseB.mk (fun g => ?_) (fun g4 => ?_)
 · have k4 : o.kind = 4 := by simpa using g
   obtain ⟨o0, o1, _⟩ := (opOk4 k4).1 ho
   have hlt : o.on.toNat < s.onces.length := by omega
   have hat : s.pure.onces[o.on.toNat]? = some (s.onces[o.on.toNat]).m := by simp [StateH.pure, hlt]
   have hq := onceOk_len (s10 _ (List.mem_of_getElem? hat))
   have hQ : WaitsOn s.pure o t ↔ t ∈ (s.onces[o.on.toNat]).m.waits := by
     simp only [WaitsOn, k4]
     exact only hat
   refine stop_idx encOnceH tabOk rfl rfl rfl rfl rfl ⟨rfl, rfl⟩ (rdVia 0 rfl (.trans (.R_R (stateO_onces s)) (.ofR nest_h))) o.on.toNat (by omega) z38 (fun ad => ?_)
   refine stop_call _ cl94 rfl rfl rfl rfl ⟨rfl, rfl⟩ (fun A w hW => l2At_c _ _ t w ⟨hW.get 0 rfl (.trans (.R_R (stateO_onces s)) (.ofR (oncesO_0 _ _ _ hlt))), trivial⟩ (by omega)) ?_
   rintro v L ⟨rfl, rfl⟩
   exact ret0 ⟨_, rfl, by rw [hQ, decide_eq_true_eq]; exact atM_mem _ _, rfl⟩ (fun _ => rfl)
 have n4 : ¬ o.kind = 4 := by simpa using g4
 refine CaseB.mk (fun g => ?_) (fun g6 => ?_)
 · have k6 : o.kind = 6 := by simpa using g
   obtain ⟨⟨o0, o1⟩, _⟩ := (opOk6 k6).1 ho
   have hlt : o.on.toNat < s.groups.length := by omega
   have hat : s.pure.groups[o.on.toNat]? = some (s.groups[o.on.toNat]).m := by simp [StateH.pure, hlt]
   have hq := groupOk_len (s7 _ (List.mem_of_getElem? hat))
   have hQ : WaitsOn s.pure o t ↔ t ∈ (s.groups[o.on.toNat]).m.waits := by
     simp only [WaitsOn, k6]
     exact only hat
   refine stop_idx encGroupH tabOk rfl rfl rfl rfl rfl ⟨rfl, rfl⟩ (rdVia 0 rfl (.trans (.R_R (stateO_groups s)) (.ofR nest_h))) o.on.toNat (by omega) z38 (fun ad => ?_)
   refine stop_call _ cl94 rfl rfl rfl rfl ⟨rfl, rfl⟩ (fun A w hW => l2At_c _ _ t w ⟨hW.get 0 rfl (.trans (.R_R (stateO_groups s)) (.ofR (groupsO_0 _ _ _ hlt))), trivial⟩ (by omega)) ?_
   rintro v L ⟨rfl, rfl⟩
   exact ret0 ⟨_, rfl, by rw [hQ, decide_eq_true_eq]; exact atM_mem _ _, rfl⟩ (fun _ => rfl)
 have n6 : ¬ o.kind = 6 := by simpa using g6
 refine CaseB.mk (fun g => ?_) (fun g7 => ?_)
 · have k7 : o.kind = 7 := by simpa using g
   obtain ⟨⟨o0, o1⟩, _⟩ := (opOk7 k7).1 ho
   have hlt : o.on.toNat < s.barriers.length := by omega
   have hat : s.pure.barriers[o.on.toNat]? = some (s.barriers[o.on.toNat]).m := by simp [StateH.pure, hlt]
   have hq := barrierOk_len (s8 _ _ hat).1
   have hQ : WaitsOn s.pure o t ↔ t ∈ (s.barriers[o.on.toNat]).m.waits := by
     simp only [WaitsOn, k7]
     exact only hat
   refine stop_idx encBarrierH tabOk rfl rfl rfl rfl rfl ⟨rfl, rfl⟩ (rdVia 0 rfl (.trans (.R_R (stateO_barriers s)) (.ofR nest_h))) o.on.toNat (by omega) z38 (fun ad => ?_)
   refine stop_call _ cl94 rfl rfl rfl rfl ⟨rfl, rfl⟩ (fun A w hW => l2At_c _ _ t w ⟨hW.get 0 rfl (.trans (.R_R (stateO_barriers s)) (.ofR (barriersO_0 _ _ _ hlt))), trivial⟩ (by omega)) ?_
   rintro v L ⟨rfl, rfl⟩
   exact ret0 ⟨_, rfl, by rw [hQ, decide_eq_true_eq]; exact atM_mem _ _, rfl⟩ (fun _ => rfl)
 have n7 : ¬ o.kind = 7 := by simpa using g7
 refine CaseB.mk (fun g => ?_) (fun g8 => ?_)
 · have k8 : o.kind = 8 := by simpa using g
   obtain ⟨⟨o0, o1⟩, _⟩ := (opOk8 k8).1 ho
   have hlt : o.on.toNat < s.chans.length := by omega
   have hat : s.pure.chans[o.on.toNat]? = some (s.chans[o.on.toNat]).m := by simp [StateH.pure, hlt]
   have hok := (s9 _ _ hat).1
   have hq := chanOk_len hok
   have hdi : ((s.chans[o.on.toNat]).m.senders.map (·.t)).Nodup := by
     have hv : (s.chans[o.on.toNat]).m.Valid := by simpa [Chan.valid] using hok
     have hd := hv.di
     unfold distinct at hd
     have hd2 := of_decide_eq_true hd
     exact (List.nodup_append.1 hd2.1).1
   refine stop_idx encChanH tabOk rfl rfl rfl rfl rfl ⟨rfl, rfl⟩ (rdVia 0 rfl (.trans (.R_R (stateO_chans s)) (.ofR nest_h))) o.on.toNat (by omega) z38 (fun ad => ?_)
   refine stop_call _ cl118 rfl rfl rfl rfl ⟨rfl, rfl⟩ (fun A w hW => l5Threads_c _ _ w ⟨hW.get 0 rfl (.trans (.R_R (stateO_chans s)) (.ofR (chansO_1 _ _ _ hlt))), trivial⟩ (by omega)) ?_
   rw [List.take_of_length_le (by omega)]
   rintro v L ⟨y, rfl, rfl⟩
   refine stop_call _ cl94 rfl rfl rfl rfl ⟨rfl, rfl⟩ (fun A w hW => l2At_c y _ t w ⟨hW.get 0 rfl .own, trivial⟩ z94) ?_
   rintro v L ⟨rfl, rfl⟩
   obtain ⟨a, ha⟩ : ∃ a, a = atM ((s.chans[o.on.toNat]).m.senders.map Letter.t) t := ⟨_, rfl⟩
   rw [← ha]
   have hin := at_in (f := Letter.t) hdi ha (⟨t, o.arg⟩ : Letter)
   have hQ : WaitsOn s.pure o t ↔ ((s.chans[o.on.toNat]).m.senders[a.toNat]? = some ⟨t, o.arg⟩ ∧ 0 ≤ a) := by
     rw [← hin]
     simp only [WaitsOn, k8]
     exact (only hat).trans (by simp)
   refine draw_start tabOk z95 z95 z95 200 [((0, 6), .v (s.h6.val s.chans.length)), ((1, 1), .v (.int .i64 o.on)), ((1, 2), .v (.int .i64 o.arg))] [1] [_] z118 z130 ⟨rfl, trivial⟩ rfl ?_
   apply CaseB.mk <;> intro g
   · have a0 : 0 ≤ a := by simpa using g
     have hg := atM_get _ t (ha ▸ a0)
     rw [← ha, List.getElem?_map] at hg
     have hl : a.toNat < (s.chans[o.on.toNat]).m.senders.length := by
       refine Classical.byContradiction fun n => ?_
       rw [List.getElem?_eq_none (by omega)] at hg; simp at hg
     rw [List.getElem?_eq_getElem hl] at hg
     have ht : ((s.chans[o.on.toNat]).m.senders[a.toNat]).t = t := by simpa using hg
     refine d_idx (ti := tiOf tab) encChanH tabOk rfl rfl rfl rfl rfl ⟨rfl, rfl⟩ (rdVia 0 rfl (.trans (.R_R (stateO_chans s)) (.ofR nest_h))) o.on.toNat (by omega) z38 (fun ad1 => ?_)
     refine d_idx (ti := tiOf tab) encLet tabOk rfl rfl rfl rfl rfl ⟨rfl, rfl⟩ (rdVia 0 rfl (.trans (.R_R (stateO_chans s)) (.ofR (chansO_1 _ _ _ hlt)))) a.toNat (by omega) z38 (fun ad2 => ?_)
     refine ret0 ⟨_, rfl, ?_, rfl⟩ (fun _ => rfl)
     rw [hQ, List.getElem?_eq_getElem hl, beq_iff_eq]
     constructor
     · intro e
       refine ⟨?_, a0⟩
       rw [← ht, ← e]
     · rintro ⟨e, _⟩
       injection e with e
       rw [e]
   · have a0 : ¬ 0 ≤ a := by simpa using g
     exact ret0 ⟨_, rfl, tno fun e => a0 (hQ.1 e).2, rfl⟩ (fun _ => rfl)
 have n8 : ¬ o.kind = 8 := by simpa using g8
 refine CaseB.mk (fun g => ?_) (fun g9 => ?_)
 · have k9 : o.kind = 9 := by simpa using g
   obtain ⟨⟨o0, o1⟩, _⟩ := (opOk9 (.inl k9)).1 ho
   have hlt : o.on.toNat < s.chans.length := by omega
   have hat : s.pure.chans[o.on.toNat]? = some (s.chans[o.on.toNat]).m := by simp [StateH.pure, hlt]
   have hq := chanOk_len (s9 _ _ hat).1
   have hQ : WaitsOn s.pure o t ↔ t ∈ (s.chans[o.on.toNat]).m.getters := by
     simp only [WaitsOn, k9]
     exact only hat
   refine stop_idx encChanH tabOk rfl rfl rfl rfl rfl ⟨rfl, rfl⟩ (rdVia 0 rfl (.trans (.R_R (stateO_chans s)) (.ofR nest_h))) o.on.toNat (by omega) z38 (fun ad => ?_)
   refine stop_call _ cl94 rfl rfl rfl rfl ⟨rfl, rfl⟩ (fun A w hW => l2At_c _ _ t w ⟨hW.get 0 rfl (.trans (.R_R (stateO_chans s)) (.ofR (chansO_2 _ _ _ hlt))), trivial⟩ (by omega)) ?_
   rintro v L ⟨rfl, rfl⟩
   exact ret0 ⟨_, rfl, by rw [hQ, decide_eq_true_eq]; exact atM_mem _ _, rfl⟩ (fun _ => rfl)
 have n9 : ¬ o.kind = 9 := by simpa using g9
 exact ret0 ⟨_, rfl, tno fun e => (by simp [WaitsOn, n2, n4, n6, n7, n8, n9] at e), rfl⟩ (fun _ => rfl)
set_option maxRecDepth 100000 in
theorem runs_c (m : Once) (q : Sl) (t : Int) (w : World) (h : At w [slo q cInt 1 m.waits]) (hb : m.waits.length ≤ 1048576) :
   Calls Tryz.prog 120 #[onceV m q, .int .i64 t] w (Tells w (OnceOk m ∧ m.state = 1 ∧ m.owner = t)) := by
 refine calls2 Tryz.func120 rfl tabOk w _ rfl _ rfl _ h ⟨rfl, rfl, trivial⟩ _ _ (by decide) ?_
 refine stop_call _ cl114 rfl rfl rfl rfl ⟨rfl, rfl⟩ (fun A w hW => onceValidS_c m q w ⟨hW.get 0 rfl (.refl _), trivial⟩ hb) ?_
 rintro v L ⟨b, rfl, hb2, rfl⟩
 apply CaseB.mk <;> intro g
 · have ok := hb2.1 z91
   apply CaseB.mk <;> intro g
   · have s1 : m.state = 1 := by simpa using g
     exact ret0 ⟨_, rfl, by simp [ok, s1], rfl⟩ (fun _ => rfl)
   · have s1 : ¬ m.state = 1 := by simpa using g
     exact ret0 ⟨_, rfl, tno fun e => s1 e.2.1, rfl⟩ (fun _ => rfl)
 · exact ret0 ⟨_, rfl, tno fun e => (by rw [hb2.2 e.1] at g; cases g), rfl⟩ (fun _ => rfl)
def ThreadS (s : State) (ops : List Op) (t at_ st q : Int) : Prop :=
 0 ≤ at_ ∧ at_ ≤ ops.length ∧ ((at_ = ops.length ∧ st = 3 ∧ q = 0) ∨
   ∃ op, ops[at_.toNat]? = some op ∧ ((st = 0 ∧ q = 0) ∨ (st = 1 ∧ q = 1 ∧ WaitsOn s op t) ∨ (st = 2 ∧ q = 0 ∧ op.kind = 4 ∧ ∃ x, s.onces[op.on.toNat]? = some x ∧ x.state = 1 ∧ x.owner = t)))
set_option maxHeartbeats 8000000 in
set_option maxRecDepth 100000 in
theorem thread_c (p : ProgH) (s : StateH) (t : Nat) (q : Int) (w : World) (h : At w [fR (progO p), fR (stateO s)]) (ok : ProgOk p.pure) (sh : SharedOk p.pure s.pure)
   (c0 : s.places.length = p.threads.length) (c1 : s.status.length = p.threads.length) (ht : t < p.threads.length) :
   Calls Tryz.prog 69 #[progV p, stateV s, .int .i64 t, .int .i64 q] w (Tells w (ThreadS s.pure (p.threads[t]).m t s.places[t] s.status[t] q)) := by
 have l3 : s.pure.onces.length = s.onces.length := by simp [StateH.pure]
 have hmem : (p.threads[t]).m ∈ p.pure.threads := List.mem_map_of_mem (List.getElem_mem ht)
 have l8 := (ok.ops _ hmem).1
 refine calls4 Tryz.func69 rfl tabOk w _ rfl _ rfl _ h ⟨rfl, rfl, rfl, rfl, trivial⟩ _ _ _ _ (by decide) ?_
 refine stop_idx encInt tabOk rfl rfl rfl rfl rfl ⟨rfl, rfl⟩ (rdVia 1 rfl (.ofR (stateO_places s))) t rfl z38 (fun ad0 => ?_)
 apply CaseB.mk <;> intro g
 · have n : ¬ 0 ≤ s.places[t] := by have g' := of_decide_eq_true g; omega
   exact ret0 ⟨_, rfl, tno fun e => n e.1, rfl⟩ (fun _ => rfl)
 have a0 : 0 ≤ s.places[t] := by have g' := of_decide_eq_false g; omega
 refine stop_idx encOpSH tabOk rfl rfl rfl rfl rfl ⟨rfl, rfl⟩ (rdVia 0 rfl (.trans (.R_R (progO_threads p)) (.ofR nest_h))) t rfl z38 (fun ad1 => ?_)
 apply CaseB.mk <;> intro g
 · have n : ¬ s.places[t] ≤ (p.threads[t]).m.length := by have g' := of_decide_eq_true g; omega
   exact ret0 ⟨_, rfl, tno fun e => n e.2.1, rfl⟩ (fun _ => rfl)
 have hz : s.places[t] = ((s.places[t]).toNat : Int) := (Int.toNat_of_nonneg a0).symm
 have a1 : s.places[t] ≤ (p.threads[t]).m.length := by have g' := of_decide_eq_false g; omega
 refine stop_idx encOpSH tabOk rfl rfl rfl rfl rfl ⟨rfl, rfl⟩ (rdVia 0 rfl (.trans (.R_R (progO_threads p)) (.ofR nest_h))) t rfl z38 (fun ad2 => ?_)
 apply CaseB.mk <;> intro g
 · have ae : s.places[t] = (p.threads[t]).m.length := by simpa using g
   have hT : ThreadS s.pure (p.threads[t]).m t s.places[t] s.status[t] q ↔ s.status[t] = 3 ∧ q = 0 := by
     constructor
     · rintro ⟨_, _, h | ⟨op, h, _⟩⟩
       · exact h.2
       · have := (List.getElem?_eq_some_iff.1 h).1; omega
     · intro h; exact ⟨a0, a1, .inl ⟨ae, h⟩⟩
   refine stop_idx encInt tabOk rfl rfl rfl rfl rfl ⟨rfl, rfl⟩ (rdVia 1 rfl (.ofR (stateO_status s))) t rfl z38 (fun ad3 => ?_)
   apply CaseB.mk <;> intro g
   · have s3 : s.status[t] = 3 := by simpa using g
     exact ret0 ⟨_, rfl, by rw [hT]; simp [s3], rfl⟩ (fun _ => rfl)
   · have s3 : ¬ s.status[t] = 3 := by simpa using g
     exact ret0 ⟨_, rfl, tno fun e => s3 (hT.1 e).1, rfl⟩ (fun _ => rfl)
 have ane : ¬ s.places[t] = (p.threads[t]).m.length := by simpa using g
 have hlo : (s.places[t]).toNat < (p.threads[t]).m.length := by omega
 obtain ⟨op, hop⟩ : ∃ op, (p.threads[t]).m[(s.places[t]).toNat]? = some op := ⟨_, List.getElem?_eq_getElem hlo⟩
 have hopg : (p.threads[t]).m[(s.places[t]).toNat] = op := by rw [List.getElem?_eq_getElem hlo] at hop; injection hop
 have hopok : OpOk p.pure op := (ok.ops _ hmem).2 _ (List.mem_of_getElem? hop)
 have hT : ThreadS s.pure (p.threads[t]).m t s.places[t] s.status[t] q ↔ ((s.status[t] = 0 ∧ q = 0) ∨ (s.status[t] = 1 ∧ q = 1 ∧ WaitsOn s.pure op t) ∨ (s.status[t] = 2 ∧ q = 0 ∧ op.kind = 4 ∧ ∃ x, s.pure.onces[op.on.toNat]? = some x ∧ x.state = 1 ∧ x.owner = t)) := by
   constructor
   · rintro ⟨_, _, h | ⟨op', h, h2⟩⟩
     · exact (ane h.1).elim
     · rw [hop] at h; injection h with h; subst h; exact h2
   · intro h; exact ⟨a0, a1, .inr ⟨op, hop, h⟩⟩
 refine stop_idx encOpSH tabOk rfl rfl rfl rfl rfl ⟨rfl, rfl⟩ (rdVia 0 rfl (.trans (.R_R (progO_threads p)) (.ofR nest_h))) t rfl z38 (fun ad3 => ?_)
 refine stop_idx encOp tabOk rfl rfl rfl rfl rfl ⟨rfl, rfl⟩ (rdVia 0 rfl (.trans (.R_R (progO_threads p)) (.ofR (threadsO_0 _ _ t ht)))) (s.places[t]).toNat (by first | exact hz | exact hz.symm | exact congrArg _ hz) z38 (fun ad4 => ?_)
 rw [hopg]
 refine stop_idx encInt tabOk rfl rfl rfl rfl rfl ⟨rfl, rfl⟩ (rdVia 1 rfl (.ofR (stateO_status s))) t rfl z38 (fun ad5 => ?_)
 refine CaseB.mk (fun g => ?_) (fun g0 => ?_)
 · have s0 : s.status[t] = 0 := by simpa using g
   exact ret0 ⟨_, rfl, by rw [hT, s0]; simp, rfl⟩ (fun _ => rfl)
 have n0 : ¬ s.status[t] = 0 := by simpa using g0
 refine CaseB.mk (fun g => ?_) (fun g1 => ?_)
 · have s1 : s.status[t] = 1 := by simpa using g
   apply CaseB.mk <;> intro g
   · have q1 : q = 1 := by simpa using g
     refine stop_call _ cl119 rfl rfl rfl rfl ⟨rfl, rfl⟩ (fun A w hW => waits_c p.pure s op t w ⟨hW.get 1 rfl (.refl _), trivial⟩ sh hopok) ?_
     rintro v L ⟨b, rfl, hb, rfl⟩
     exact ret0 ⟨_, rfl, by rw [hT, s1, q1, hb]; simp, rfl⟩ (fun _ => rfl)
   · have q1 : ¬ q = 1 := by simpa using g
     exact ret0 ⟨_, rfl, tno fun e => (by rcases hT.1 e with h | h | h; exact n0 h.1; exact q1 h.2.1; rw [s1] at h; exact absurd h.1 (by decide)), rfl⟩ (fun _ => rfl)
 have n1 : ¬ s.status[t] = 1 := by simpa using g1
 refine CaseB.mk (fun g => ?_) (fun g2 => ?_)
 · have s2 : s.status[t] = 2 := by simpa using g
   have hT2 : ThreadS s.pure (p.threads[t]).m t s.places[t] s.status[t] q ↔ (q = 0 ∧ op.kind = 4 ∧ ∃ x, s.pure.onces[op.on.toNat]? = some x ∧ x.state = 1 ∧ x.owner = t) := by
     rw [hT, s2]; simp
   apply CaseB.mk <;> intro g
   · have q0 : q = 0 := by simpa using g
     apply CaseB.mk <;> intro g
     · have k4 : op.kind = 4 := by simpa using g
       obtain ⟨o0, o1, _⟩ := (opOk4 k4).1 hopok
       have hl3 := sh.lonces
       have hlt : op.on.toNat < s.onces.length := by omega
       have hat : s.pure.onces[op.on.toNat]? = some (s.onces[op.on.toNat]).m := by simp [StateH.pure, hlt]
       have hok := sh.onces _ (List.mem_of_getElem? hat)
       have hq := onceOk_len hok
       refine stop_idx encOnceH tabOk rfl rfl rfl rfl rfl ⟨rfl, rfl⟩ (rdVia 1 rfl (.trans (.R_R (stateO_onces s)) (.ofR nest_h))) op.on.toNat (by omega) z38 (fun ad6 => ?_)
       refine stop_call _ cl120 rfl rfl rfl rfl ⟨rfl, rfl⟩ (fun A w hW => runs_c _ _ t w ⟨hW.get 1 rfl (.trans (.R_R (stateO_onces s)) (.ofR (oncesO_0 _ _ _ hlt))), trivial⟩ (by omega)) ?_
       rintro v L ⟨b, rfl, hb, rfl⟩
       exact ret0 ⟨_, rfl, by rw [hT2, hb, only hat]; simp [q0, k4, hok], rfl⟩ (fun _ => rfl)
     · have k4 : ¬ op.kind = 4 := by simpa using g
       exact ret0 ⟨_, rfl, tno fun e => k4 (hT2.1 e).2.1, rfl⟩ (fun _ => rfl)
   · have q0 : ¬ q = 0 := by simpa using g
     exact ret0 ⟨_, rfl, tno fun e => q0 (hT2.1 e).1, rfl⟩ (fun _ => rfl)
 have n2 : ¬ s.status[t] = 2 := by simpa using g2
 exact ret0 ⟨_, rfl, tno fun e => (by rcases hT.1 e with h | h | h; exact n0 h.1; exact n1 h.1; exact n2 h.1), rfl⟩ (fun _ => rfl)
end Go.Proofs.YtjkkoonennpceaaGreat
