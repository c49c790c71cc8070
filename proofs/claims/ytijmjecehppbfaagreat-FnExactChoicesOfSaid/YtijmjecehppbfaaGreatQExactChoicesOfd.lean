/- FnExactChoicesOf: texts that its proof stands on, part 4. -/
import Derived.Test.YtijmjecehppbfaaGreatQExactChoicesOfc
namespace Go.Proofs.YtijmjecehppbfaaGreat
open Go Go.Sx Go.RowKit
structure Chan.Valid (m : Chan) : Prop where
 r0 : 0 ≤ m.room
 r1 : m.room ≤ 4
 it : (m.items.length : Int) ≤ m.room
 iv : ∀ x ∈ m.items, isValue x = true
 sv : ∀ l ∈ m.senders, isValue l.v = true
 di : distinct m.threads = true
 se : m.senders ≠ [] → (m.items.length : Int) = m.room ∧ m.getters = [] ∧ m.closed = false
 ge : m.getters ≠ [] → m.items = [] ∧ m.closed = false
instance (m : Chan) : Decidable m.Valid :=
 decidable_of_iff ((0 ≤ m.room ∧ m.room ≤ 4 ∧ (m.items.length : Int) ≤ m.room) ∧ (∀ x ∈ m.items, isValue x = true) ∧ (∀ l ∈ m.senders, isValue l.v = true) ∧ distinct m.threads = true ∧ (m.senders ≠ [] → (m.items.length : Int) = m.room ∧ m.getters = [] ∧ m.closed = false) ∧ (m.getters ≠ [] → m.items = [] ∧ m.closed = false))
   ⟨fun ⟨⟨a, b, c⟩, d, e, f, g, h⟩ => ⟨a, b, c, d, e, f, g, h⟩, fun ⟨a, b, c, d, e, f, g, h⟩ => ⟨⟨a, b, c⟩, d, e, f, g, h⟩⟩
def Chan.valid (m : Chan) : Bool := decide m.Valid
theorem Chan.invalid {m : Chan} (h : ¬ m.Valid) : Value.bool false = Value.bool m.valid := by rw [Chan.valid, decide_eq_false h]
theorem Chan.isvalid {m : Chan} (h : m.Valid) : Value.bool true = Value.bool m.valid := by rw [Chan.valid, decide_eq_true h]
theorem all_take_succ {α : Type} {p : α → Prop} {xs : List α} {k : Nat} (hk : k < xs.length) (h : ∀ x ∈ xs.take k, p x) (h1 : p xs[k]) : ∀ x ∈ xs.take (k + 1), p x := by
 intro x hx
 rw [List.take_succ_eq_append_getElem hk] at hx
 rcases List.mem_append.1 hx with hx | hx
 · exact h x hx
 · simp at hx; subst hx; exact h1
theorem len_pos {α : Type} {xs : List α} : decide ((xs.length : Int) > 0) = true ↔ xs ≠ [] := by
 cases xs <;> simp
set_option maxHeartbeats 2000000 in
set_option maxRecDepth 100000 in
theorem valid_c (m : Chan) (i s g : Sl) (w : World) (h : At w [slo i cInt 1 m.items, slo s cLet 2 m.senders, slo g cInt 1 m.getters]) (hb : m.small) :
   Calls Tryz.prog 122 #[chanV m i s g] w (Ret w fun v L => v = .bool m.valid ∧ L = []) := by
 obtain ⟨b1, b2, b3⟩ := hb
 have bT : m.threads.length ≤ 8589934592 := by simp [Chan.threads]; omega
 have hno : ∀ {P : Prop}, ¬ P → (m.Valid → P) → ∀ A, resV A [SV.lit false] = Value.bool m.valid := fun h1 h2 _ => Chan.invalid fun hv => h1 (h2 hv)
 refine calls1 Tryz.func122 rfl tabOk w _ rfl _ rfl _ h z137 _ (by decide) ?_
 refine CaseB.mk (fun h1 => ?_) (fun h1 => ?_)
 · exact ret0 ⟨rfl, rfl⟩ (hno (by simp at h1; omega) Chan.Valid.r0)
 · have r0 : 0 ≤ m.room := by simp at h1; omega
   refine CaseB.mk (fun h2 => ?_) (fun h2 => ?_)
   · exact ret0 ⟨rfl, rfl⟩ (hno (by simp at h2; omega) Chan.Valid.r1)
   · have r1 : m.room ≤ 4 := by simp at h2; omega
     refine CaseB.mk (fun h3 => ?_) (fun h3 => ?_)
     · exact ret0 ⟨rfl, rfl⟩ (hno (by simp at h3; omega) Chan.Valid.it)
     · have it : (m.items.length : Int) ≤ m.room := by simp at h3; omega
       refine LoopW.mk ⟨{ k : Nat // k ≤ m.items.length ∧ ∀ x ∈ m.items.take k, isValue x = true },
         fun p => .mk [(1, .p 0 0), (24, .v (i.val m.items.length)), (25, .v (.int .i64 m.items.length)), (26, .v (.int .i64 p.1))] 1 0 [(0, 119, 5)] [((0, 0), .v (.int .i64 m.room)), ((0, 1), .v (i.val m.items.length)), ((0, 2), .v (s.val m.senders.length)), ((0, 3), .v (g.val m.getters.length)), ((0, 4), .v (.bool m.closed))] [slo i cInt 1 m.items, slo s cLet 2 m.senders, slo g cInt 1 m.getters],
         fun p => m.items.length - p.1, ⟨0, Nat.zero_le _, by simp⟩, ?_, ?_⟩
       · exact weak_mk [0, 1, 2] zw2 zw0 zw2 zw5 zw4 rfl rfl
       · rintro ⟨k, hk, ha⟩
         refine CaseB.mk (fun h => ?_) (fun h => ?_)
         · have hlt : k < m.items.length := by simpa using h
           refine stop_idx encInt tabOk rfl rfl rfl rfl rfl ⟨rfl, rfl⟩ z38 k rfl z45 (fun ad => ?_)
           refine stop_call _ cl124 rfl rfl rfl rfl ⟨rfl, rfl⟩ (fun A w hW => isValue_c _ w) ?_
           rintro v L ⟨rfl, rfl⟩
           refine CaseB.mk (fun h => ?_) (fun h => ?_)
           · exact ret0 ⟨rfl, rfl⟩ (hno z91 (fun hv => hv.iv _ (List.getElem_mem hlt)))
           · have hw := wrapN k _ hlt b1
             refine ⟨⟨k + 1, by omega, all_take_succ hlt ha z91⟩, ?_, by simp; omega⟩
             exact weak_mk [0, 1, 2] zw1 zw0 zw1 zw5 zw3 rfl rfl
         · have hge : m.items.length ≤ k := by simpa using h
           rw [List.take_of_length_le hge] at ha
           refine LoopW.mk ⟨{ k : Nat // k ≤ m.senders.length ∧ ∀ x ∈ m.senders.take k, isValue x.v = true },
             fun p => .mk [(1, .p 0 0), (35, .v (s.val m.senders.length)), (36, .v (.int .i64 m.senders.length)), (37, .v (.int .i64 p.1))] 1 0 [(0, 119, 5)] [((0, 0), .v (.int .i64 m.room)), ((0, 1), .v (i.val m.items.length)), ((0, 2), .v (s.val m.senders.length)), ((0, 3), .v (g.val m.getters.length)), ((0, 4), .v (.bool m.closed))] [slo i cInt 1 m.items, slo s cLet 2 m.senders, slo g cInt 1 m.getters],
             fun p => m.senders.length - p.1, ⟨0, Nat.zero_le _, by simp⟩, ?_, ?_⟩
           · exact weak_mk [0, 1, 2] zw2 zw0 zw2 zw5 zw4 rfl rfl
           · rintro ⟨k, hk, hs⟩
             refine CaseB.mk (fun h => ?_) (fun h => ?_)
             · have hlt : k < m.senders.length := by simpa using h
               refine stop_idx encLet tabOk rfl rfl rfl rfl rfl ⟨rfl, rfl⟩ z38 k rfl z45 (fun ad => ?_)
               refine stop_call _ cl124 rfl rfl rfl rfl ⟨rfl, rfl⟩ (fun A w hW => isValue_c _ w) ?_
               rintro v L ⟨rfl, rfl⟩
               refine CaseB.mk (fun h => ?_) (fun h => ?_)
               · exact ret0 ⟨rfl, rfl⟩ (hno z91 (fun hv => hv.sv _ (List.getElem_mem hlt)))
               · have hw := wrapN k _ hlt b2
                 refine ⟨⟨k + 1, by omega, all_take_succ (p := fun l : Letter => isValue l.v = true) hlt hs z91⟩, ?_, by simp; omega⟩
                 exact weak_mk [0, 1, 2] zw1 zw0 zw1 zw5 zw3 rfl rfl
             · have hge : m.senders.length ≤ k := by simpa using h
               rw [List.take_of_length_le hge] at hs
               refine stop_call _ cl132 rfl rfl rfl rfl ⟨rfl, rfl⟩ (fun A w hW => threads_c m i s g w ⟨z37, z37, z37, trivial⟩ ⟨b1, b2, b3⟩) ?_
               rintro v L ⟨y, rfl, rfl⟩
               refine stop_call _ cl165 rfl rfl rfl rfl ⟨rfl, rfl⟩ (fun A w hW => distinctThreads_c y m.threads w ⟨z37, trivial⟩ bT) ?_
               rintro v L ⟨rfl, rfl⟩
               refine CaseB.mk (fun h => ?_) (fun h => ?_)
               · exact ret0 ⟨rfl, rfl⟩ (hno z91 Chan.Valid.di)
               · have hd : distinct m.threads = true := by simpa using h
                 have fin : (m.senders ≠ [] → (m.items.length : Int) = m.room ∧ m.getters = [] ∧ m.closed = false) → (m.getters ≠ [] → m.items = [] ∧ m.closed = false) → m.Valid := fun x y => ⟨r0, r1, it, ha, hs, hd, x, y⟩
                 refine CaseB.mk (fun q1 => ?_) (fun q1 => ?_)
                 · have hs1 : m.senders ≠ [] := len_pos.1 q1
                   refine CaseB.mk (fun q2 => ?_) (fun q2 => ?_)
                   · exact ret0 ⟨rfl, rfl⟩ (fun _ => Chan.invalid (fun hv => by have := (hv.se hs1).1; simp at q2; omega))
                   · have e2 : (m.items.length : Int) = m.room := by simpa using q2
                     refine CaseB.mk (fun q3 => ?_) (fun q3 => ?_)
                     · exact ret0 ⟨rfl, rfl⟩ (fun _ => Chan.invalid (fun hv => len_pos.1 q3 (hv.se hs1).2.1))
                     · have e3 : m.getters = [] := by
                         cases hg : m.getters with
                         | nil => rfl
                         | cons a r => rw [hg] at q3; simp at q3
                       refine CaseB.mk (fun q4 => ?_) (fun q4 => ?_)
                       · exact ret0 ⟨rfl, rfl⟩ (fun _ => Chan.invalid (fun hv => by have := (hv.se hs1).2.2; rw [q4] at this; cases this))
                       · have hS : m.senders ≠ [] → (m.items.length : Int) = m.room ∧ m.getters = [] ∧ m.closed = false := fun _ => ⟨e2, e3, q4⟩
                         refine CaseB.mk (fun q5 => ?_) (fun q5 => ?_)
                         · have hg : m.getters = [] := by simpa using q5
                           exact ret0 ⟨rfl, rfl⟩ (fun _ => Chan.isvalid (fin hS (fun hn => absurd hg hn)))
                         · have hg : m.getters ≠ [] := by simpa using q5
                           refine CaseB.mk (fun q6 => ?_) (fun q6 => ?_)
                           · have hi : m.items = [] := by simpa using q6
                             refine ret0 ⟨rfl, rfl⟩ (fun _ => ?_)
                             show Value.bool (!m.closed) = _
                             cases hc : m.closed with
                             | false => exact Chan.isvalid (fin hS (fun _ => ⟨hi, hc⟩))
                             | true => exact Chan.invalid (fun hv => by have := (hv.ge hg).2; rw [hc] at this; cases this)
                           · have hi : m.items ≠ [] := by simpa using q6
                             exact ret0 ⟨rfl, rfl⟩ (fun _ => Chan.invalid (fun hv => hi (hv.ge hg).1))
                 · have hs1 : m.senders = [] := by
                     cases hg : m.senders with
                     | nil => rfl
                     | cons a r => rw [hg] at q1; simp at q1
                   have hS : m.senders ≠ [] → (m.items.length : Int) = m.room ∧ m.getters = [] ∧ m.closed = false := fun hn => absurd hs1 hn
                   refine CaseB.mk (fun q5 => ?_) (fun q5 => ?_)
                   · have hg : m.getters = [] := by simpa using q5
                     exact ret0 ⟨rfl, rfl⟩ (fun _ => Chan.isvalid (fin hS (fun hn => absurd hg hn)))
                   · have hg : m.getters ≠ [] := by simpa using q5
                     refine CaseB.mk (fun q6 => ?_) (fun q6 => ?_)
                     · have hi : m.items = [] := by simpa using q6
                       refine ret0 ⟨rfl, rfl⟩ (fun _ => ?_)
                       show Value.bool (!m.closed) = _
                       cases hc : m.closed with
                       | false => exact Chan.isvalid (fin hS (fun _ => ⟨hi, hc⟩))
                       | true => exact Chan.invalid (fun hv => by have := (hv.ge hg).2; rw [hc] at this; cases this)
                     · have hi : m.items ≠ [] := by simpa using q6
                       exact ret0 ⟨rfl, rfl⟩ (fun _ => Chan.invalid (fun hv => hi (hv.ge hg).1))
theorem length_le_of_sub {xs ys : List Int} (h : xs.Nodup) (hs : ∀ x ∈ xs, x ∈ ys) : xs.length ≤ ys.length := by
 induction xs generalizing ys with
 | nil => simp
 | cons x r ih =>
   have hx := hs x (by simp)
   rw [List.nodup_cons] at h
   have := ih (ys := ys.erase x) h.2 (fun y hy => (List.mem_erase_of_ne (fun e => h.1 (by subst e; exact hy))).2 (hs y (by simp [hy])))
   rw [List.length_erase_of_mem hx] at this
   have : 0 < ys.length := List.length_pos_of_mem hx
   simp only [List.length_cons]
   omega
theorem distinct_len {xs : List Int} (h : distinct xs = true) : xs.length ≤ 6 := by
 simp only [distinct, decide_eq_true_eq] at h
 have hs : ∀ x ∈ xs, x ∈ ([0, 1, 2, 3, 4, 5] : List Int) := fun x hx => by
   have := h.2 x hx
   simp [isThread] at this
   simp
   omega
 exact length_le_of_sub h.1 hs
theorem distinct_take {xs : List Int} (h : (xs.take 7).Nodup ∧ ∀ x ∈ xs.take 7, isThread x = true) : xs.length ≤ 6 := by
 have hd : distinct (xs.take 7) = true := by simpa [distinct] using h
 have := distinct_len hd
 simp at this
 omega
set_option maxRecDepth 100000 in
theorem l2Waits_c (i : Sl) (xs : List Int) (w : World) (h : At w [slo i cInt 1 xs]) (hb : xs.length ≤ 8589934592) :
   Calls Tryz.prog 194 #[i.val xs.length] w (Ret w fun v L => v = .bool (distinct xs) ∧ L = []) := by
 refine calls1 Tryz.func194 rfl tabOk w _ rfl _ rfl _ h ⟨rfl, rfl, trivial⟩ _ (by decide) ?_
 refine LoopW.mk ⟨{ k : Nat // k ≤ xs.length ∧ k ≤ 7 ∧ (xs.take k).Nodup ∧ ∀ x ∈ xs.take k, isThread x = true },
   fun p => .mk [(0, .v (i.val xs.length)), (3, .v (.int .i64 p.1))] 0 0 [] [] [slo i cInt 1 xs],
   fun p => xs.length - p.1, ⟨0, Nat.zero_le _, by omega, by simp, by simp⟩, ?_, ?_⟩
 · exact weak_mk [0] zw2 zw0 zw2 zw5 zw4 rfl rfl
 · rintro ⟨k, hk, hk7, hn, ha⟩
   have hfin : ¬ (k < xs.length ∧ k ≤ 6) → decide ((xs.length : Int) ≤ 6) = distinct xs := by
     intro hc
     rcases Nat.lt_or_ge k xs.length with h1 | h1
     · have e : k = 7 := by omega
       subst e
       have := distinct_take ⟨hn, ha⟩
       omega
     · rw [List.take_of_length_le h1] at hn ha
       have hd : distinct xs = true := by simp only [distinct, decide_eq_true_eq]; exact ⟨hn, ha⟩
       have := distinct_len hd
       rw [hd, decide_eq_true_eq]
       omega
   refine CaseB.mk (fun h => ?_) (fun h => ?_)
   · have hlt : k < xs.length := by simpa using h
     refine CaseB.mk (fun h => ?_) (fun h => ?_)
     · have h6 : k ≤ 6 := by simp at h; omega
       refine draw_start tabOk z97 z97 z97 200 [] [0] [_] trivial trivial ⟨rfl, trivial⟩ rfl ?_
       refine d_idx (ti := tiOf tab) encInt tabOk rfl rfl rfl rfl rfl ⟨rfl, rfl⟩ z38 k rfl z45 (fun ad => ?_)
       refine d_call _ cl170 rfl rfl rfl rfl ⟨rfl, rfl⟩ (fun A w hW => l1Thread_c _ w) ?_
       rintro v L ⟨rfl, rfl⟩
       refine CaseB.mk (fun h => ?_) (fun h => ?_)
       · have h1 : isThread xs[k] = false := by simpa using h
         exact ret0 ⟨congrArg Value.bool (distinct_no hlt (.inl h1)).symm, rfl⟩ (fun _ => rfl)
       · have h1 : isThread xs[k] = true := by simpa using h
         refine d_cut (ti := tiOf tab) tabOk rfl rfl rfl rfl ⟨rfl, rfl⟩ rfl rfl z38 (0) (k) ((xs.take k)).length rfl rfl z45 z45 z45 ?_
         refine d_idx (ti := tiOf tab) encInt tabOk rfl rfl rfl rfl rfl ⟨rfl, rfl⟩ z38 k rfl z45 (fun ad => ?_)
         refine d_call _ cl54 rfl rfl rfl rfl ⟨rfl, rfl⟩ (fun A w hW => l2At_c (i.cut 0 1) (xs.take k) _ w ⟨atCut encInt 0 k (by omega) (by omega) (by simp) (hW.rd 0 rfl), trivial⟩ z96) ?_
         rintro v L ⟨rfl, rfl⟩
         refine CaseB.mk (fun h => ?_) (fun h => ?_)
         · have hm : xs[k] ∈ xs.take k := (atM_mem _ _).1 z91
           exact ret0 ⟨congrArg Value.bool (distinct_no hlt (.inr hm)).symm, rfl⟩ (fun _ => rfl)
         · have hm : ¬ xs[k] ∈ xs.take k := fun hm => by have := (atM_mem _ _).2 hm; simp at h; omega
           have hT : xs.take (k + 1) = xs.take k ++ [xs[k]] := List.take_succ_eq_append_getElem hlt
           have hw := wrapN2 k _ hlt hb
           refine ⟨⟨k + 1, by omega, by omega, (nodup_take_succ hlt).2 ⟨hn, hm⟩, all_take_succ hlt ha h1⟩, ?_, by simp; omega⟩
           exact weak_mk [0] zw1 zw0 zw1 zw5 zw3 rfl rfl
     · have h6 : ¬ k ≤ 6 := by simp at h; omega
       exact ret0 ⟨congrArg Value.bool (hfin (fun h => h6 h.2)), rfl⟩ (fun _ => rfl)
   · have hlt : ¬ k < xs.length := by simpa using h
     exact ret0 ⟨congrArg Value.bool (hfin (fun h => hlt h.1)), rfl⟩ (fun _ => rfl)
set_option maxRecDepth 100000 in
theorem l5Waits_c (m : Chan) (i s g : Sl) (t : Int) (w : World) (h : At w [slo i cInt 1 m.items, slo s cLet 2 m.senders, slo g cInt 1 m.getters]) (hb : m.small) (h7 : m.senders.length ≤ 7) :
   Calls Tryz.prog 195 #[chanV m i s g, .int .i64 t] w (Ret w fun v L => v = .bool (decide (t ∈ m.threads)) ∧ L = []) := by
 obtain ⟨b1, b2, b3⟩ := hb
 have e7 : m.senders.take 7 = m.senders := List.take_of_length_le h7
 refine calls2 Tryz.func195 rfl tabOk w _ rfl _ rfl _ h z137 _ _ (by decide) ?_
 refine stop_call _ cl182 rfl rfl rfl rfl ⟨rfl, rfl⟩ (fun A w hW => l5Threads_c s m.senders w ⟨z37, trivial⟩ b2) ?_
 rw [e7]
 rintro v L ⟨y, rfl, rfl⟩
 refine stop_call _ cl54 rfl rfl rfl rfl ⟨rfl, rfl⟩ (fun A w hW => l2At_c y (m.senders.map Letter.t) t w ⟨z37, trivial⟩ z96) ?_
 rintro v L ⟨rfl, rfl⟩
 refine CaseB.mk (fun h => ?_) (fun h => ?_)
 · have hm : t ∈ m.senders.map Letter.t := (atM_mem _ _).1 z91
   refine ret0 ⟨?_, rfl⟩ (fun _ => rfl)
   simp [Chan.threads]
   exact .inl (by simpa using hm)
 · have hm : ¬ t ∈ m.senders.map Letter.t := fun hm => by have := (atM_mem _ _).2 hm; simp at h; omega
   refine stop_call _ cl54 rfl rfl rfl rfl ⟨rfl, rfl⟩ (fun A w hW => l2At_c g m.getters t w ⟨z37, trivial⟩ b3) ?_
   rintro v L ⟨rfl, rfl⟩
   refine ret0 ⟨?_, rfl⟩ (fun _ => rfl)
   have e : (t ∈ m.threads) ↔ t ∈ m.getters := by simp only [Chan.threads, List.mem_append]; exact ⟨fun h => h.resolve_left hm, .inr⟩
   simp [e, atM_mem]
structure SemOk (m : Sem) : Prop where
 l1 : 1 ≤ m.limit
 l9 : m.limit ≤ 9
 f0 : 0 ≤ m.free
 fl : m.free ≤ m.limit
 q6 : m.queue.length ≤ 6
 cnt : ∀ w ∈ m.queue, 1 ≤ w.n ∧ w.n ≤ m.limit
 dis : distinct (m.queue.map (·.t)) = true
 hd : ∀ w, m.queue[0]? = some w → m.free < w.n
def OnceOk (m : Once) : Prop := (m.state = 0 ∧ m.owner = 0 ∧ m.value = 0 ∧ m.waits = []) ∨ (m.state = 1 ∧ isThread m.owner = true ∧ m.value = 0 ∧ distinct m.waits = true ∧ m.owner ∉ m.waits) ∨ (m.state = 2 ∧ isThread m.owner = true ∧ isValue m.value = true ∧ m.waits = [])
def GroupOk (m : Group) : Prop := isValue m.count = true ∧ distinct m.waits = true ∧ (0 < m.count ∨ m.waits = [])
def BarrierOk (m : Barrier) : Prop := 1 ≤ m.parties ∧ m.parties ≤ 6 ∧ 0 ≤ m.round ∧ m.round ≤ 9999 ∧ (m.waits.length : Int) < m.parties ∧ distinct m.waits = true
theorem onceOk0 {m : Once} (h : m.state = 0) : OnceOk m ↔ m.owner = 0 ∧ m.value = 0 ∧ m.waits = [] := by simp [OnceOk, h]
theorem onceOk1 {m : Once} (h : m.state = 1) : OnceOk m ↔ isThread m.owner = true ∧ m.value = 0 ∧ distinct m.waits = true ∧ m.owner ∉ m.waits := by simp [OnceOk, h]
theorem onceOk2 {m : Once} (h : m.state = 2) : OnceOk m ↔ isThread m.owner = true ∧ isValue m.value = true ∧ m.waits = [] := by simp [OnceOk, h]
theorem onceOkN {m : Once} (h0 : ¬ m.state = 0) (h1 : ¬ m.state = 1) (h2 : ¬ m.state = 2) : ¬ OnceOk m := by simp [OnceOk, h0, h1, h2]
set_option maxHeartbeats 4000000 in
set_option maxRecDepth 100000 in
theorem onceValid_c (m : Once) (q : Sl) (w : World) (h : At w [slo q cInt 1 m.waits]) (hb : m.waits.length ≤ 1048576) :
   Calls Tryz.prog 123 #[onceV m q] w (Tells w (OnceOk m)) := by
 refine calls1 Tryz.func123 rfl tabOk w _ rfl _ rfl _ h ⟨rfl, rfl, trivial⟩ _ (by decide) ?_
 refine CaseB.mk (fun k => ?_) (fun k0 => ?_)
 · have hx := onceOk0 (m := m) z93
   apply CaseB.mk <;> intro g
   rotate_left
   · have q : ¬ (m.owner = 0) := by simpa using g
     exact ret0 ⟨_, rfl, tno fun e => q (hx.1 e).1, rfl⟩ (fun _ => rfl)
   have c1 : m.owner = 0 := by simpa using g
   apply CaseB.mk <;> intro g
   rotate_left
   · have q : ¬ (m.value = 0) := by simpa using g
     exact ret0 ⟨_, rfl, tno fun e => q (hx.1 e).2.1, rfl⟩ (fun _ => rfl)
   have c2 : m.value = 0 := by simpa using g
   exact ret0 ⟨_, rfl, by rw [hx]; simp [c1, c2], rfl⟩ (fun _ => rfl)
 refine CaseB.mk (fun k => ?_) (fun k1 => ?_)
 · have hx := onceOk1 (m := m) z93
   refine stop_call _ cl129 rfl rfl rfl rfl ⟨rfl, rfl⟩ (fun A w hW => isThread_c _ w) ?_
   rintro v L ⟨rfl, rfl⟩
   apply CaseB.mk <;> intro g
   rotate_left
   · have q : ¬ (isThread m.owner = true) := by simpa using g
     exact ret0 ⟨_, rfl, tno fun e => q (hx.1 e).1, rfl⟩ (fun _ => rfl)
   have c1 : isThread m.owner = true := g
   apply CaseB.mk <;> intro g
   rotate_left
   · have q : ¬ (m.value = 0) := by simpa using g
     exact ret0 ⟨_, rfl, tno fun e => q (hx.1 e).2.1, rfl⟩ (fun _ => rfl)
   have c2 : m.value = 0 := by simpa using g
   apply CaseB.mk <;> intro g
   rotate_left
   · have q : ¬ (m.waits.length ≤ 6) := by have g' := of_decide_eq_false g; omega
     exact ret0 ⟨_, rfl, tno fun e => q (distinct_len (hx.1 e).2.2.1), rfl⟩ (fun _ => rfl)
   have c6 : m.waits.length ≤ 6 := by have g' := of_decide_eq_true g; omega
   refine stop_call _ cl165 rfl rfl rfl rfl ⟨rfl, rfl⟩ (fun A w hW => distinctThreads_c q m.waits w ⟨z37, trivial⟩ (by omega)) ?_
   rintro v L ⟨rfl, rfl⟩
   apply CaseB.mk <;> intro g
   rotate_left
   · have q : ¬ (distinct m.waits = true) := by simpa using g
     exact ret0 ⟨_, rfl, tno fun e => q (hx.1 e).2.2.1, rfl⟩ (fun _ => rfl)
   have c3 : distinct m.waits = true := g
   refine stop_call _ cl63 rfl rfl rfl rfl ⟨rfl, rfl⟩ (fun A w hW => contains_c q m.waits m.owner w ⟨z37, trivial⟩ (by omega)) ?_
   rintro v L ⟨rfl, rfl⟩
   exact ret0 ⟨_, rfl, by rw [hx]; simp [c1, c2, c3], rfl⟩ (fun _ => rfl)
 refine CaseB.mk (fun k => ?_) (fun k2 => ?_)
 · have hx := onceOk2 (m := m) z93
   refine stop_call _ cl129 rfl rfl rfl rfl ⟨rfl, rfl⟩ (fun A w hW => isThread_c _ w) ?_
   rintro v L ⟨rfl, rfl⟩
   apply CaseB.mk <;> intro g
   rotate_left
   · have q : ¬ (isThread m.owner = true) := by simpa using g
     exact ret0 ⟨_, rfl, tno fun e => q (hx.1 e).1, rfl⟩ (fun _ => rfl)
   have c1 : isThread m.owner = true := g
   refine stop_call _ cl124 rfl rfl rfl rfl ⟨rfl, rfl⟩ (fun A w hW => isValue_c _ w) ?_
   rintro v L ⟨rfl, rfl⟩
   apply CaseB.mk <;> intro g
   rotate_left
   · have q : ¬ (isValue m.value = true) := by simpa using g
     exact ret0 ⟨_, rfl, tno fun e => q (hx.1 e).2.1, rfl⟩ (fun _ => rfl)
   have c2 : isValue m.value = true := g
   exact ret0 ⟨_, rfl, by rw [hx]; simp [c1, c2], rfl⟩ (fun _ => rfl)
 exact ret0 ⟨_, rfl, tno (onceOkN (by simpa using k0) (by simpa using k1) (by simpa using k2)), rfl⟩ (fun _ => rfl)
set_option maxRecDepth 100000 in
theorem groupValid_c (m : Group) (q : Sl) (w : World) (h : At w [slo q cInt 1 m.waits]) (hb : m.waits.length ≤ 1048576) :
   Calls Tryz.prog 120 #[groupV m q] w (Tells w (GroupOk m)) := by
 refine calls1 Tryz.func120 rfl tabOk w _ rfl _ rfl _ h ⟨rfl, rfl, trivial⟩ _ (by decide) ?_
 refine stop_call _ cl124 rfl rfl rfl rfl ⟨rfl, rfl⟩ (fun A w hW => isValue_c _ w) ?_
 rintro v L ⟨rfl, rfl⟩
 apply CaseB.mk <;> intro g
 rotate_left
 · have q : ¬ (isValue m.count = true) := by simpa using g
   exact ret0 ⟨_, rfl, tno fun e => q e.1, rfl⟩ (fun _ => rfl)
 have c1 : isValue m.count = true := g
 apply CaseB.mk <;> intro g
 rotate_left
 · have q : ¬ (m.waits.length ≤ 6) := by have g' := of_decide_eq_false g; omega
   exact ret0 ⟨_, rfl, tno fun e => q (distinct_len e.2.1), rfl⟩ (fun _ => rfl)
 have c6 : m.waits.length ≤ 6 := by have g' := of_decide_eq_true g; omega
 refine stop_call _ cl165 rfl rfl rfl rfl ⟨rfl, rfl⟩ (fun A w hW => distinctThreads_c q m.waits w ⟨z37, trivial⟩ (by omega)) ?_
 rintro v L ⟨rfl, rfl⟩
 apply CaseB.mk <;> intro g
 rotate_left
 · have q : ¬ (distinct m.waits = true) := by simpa using g
   exact ret0 ⟨_, rfl, tno fun e => q e.2.1, rfl⟩ (fun _ => rfl)
 have c2 : distinct m.waits = true := g
 apply CaseB.mk <;> intro g
 · have c3 : 0 < m.count := by have g' := of_decide_eq_true g; omega
   exact ret0 ⟨_, rfl, tyes ⟨c1, c2, .inl c3⟩, rfl⟩ (fun _ => rfl)
 · have c3 : ¬ 0 < m.count := by have g' := of_decide_eq_false g; omega
   exact ret0 ⟨_, rfl, by simp [GroupOk, c1, c2, c3], rfl⟩ (fun _ => rfl)
set_option maxRecDepth 100000 in
theorem barrierValid_c (m : Barrier) (q : Sl) (w : World) (h : At w [slo q cInt 1 m.waits]) (hb : m.waits.length ≤ 1048576) :
   Calls Tryz.prog 121 #[barrierV m q] w (Tells w (BarrierOk m)) := by
 refine calls1 Tryz.func121 rfl tabOk w _ rfl _ rfl _ h ⟨rfl, rfl, trivial⟩ _ (by decide) ?_
 apply CaseB.mk <;> intro g
 rotate_left
 · have q : ¬ (1 ≤ m.parties) := by have g' := of_decide_eq_false g; omega
   exact ret0 ⟨_, rfl, tno fun e => q e.1, rfl⟩ (fun _ => rfl)
 have c1 : 1 ≤ m.parties := by have g' := of_decide_eq_true g; omega
 apply CaseB.mk <;> intro g
 rotate_left
 · have q : ¬ (m.parties ≤ 6) := by have g' := of_decide_eq_false g; omega
   exact ret0 ⟨_, rfl, tno fun e => q e.2.1, rfl⟩ (fun _ => rfl)
 have c2 : m.parties ≤ 6 := by have g' := of_decide_eq_true g; omega
 apply CaseB.mk <;> intro g
 rotate_left
 · have q : ¬ (0 ≤ m.round) := by have g' := of_decide_eq_false g; omega
   exact ret0 ⟨_, rfl, tno fun e => q e.2.2.1, rfl⟩ (fun _ => rfl)
 have c3 : 0 ≤ m.round := by have g' := of_decide_eq_true g; omega
 apply CaseB.mk <;> intro g
 rotate_left
 · have q : ¬ (m.round ≤ 9999) := by have g' := of_decide_eq_false g; omega
   exact ret0 ⟨_, rfl, tno fun e => q e.2.2.2.1, rfl⟩ (fun _ => rfl)
 have c4 : m.round ≤ 9999 := by have g' := of_decide_eq_true g; omega
 apply CaseB.mk <;> intro g
 rotate_left
 · have q : ¬ ((m.waits.length : Int) < m.parties) := by have g' := of_decide_eq_false g; omega
   exact ret0 ⟨_, rfl, tno fun e => q e.2.2.2.2.1, rfl⟩ (fun _ => rfl)
 have c5 : (m.waits.length : Int) < m.parties := by have g' := of_decide_eq_true g; omega
 refine stop_call _ cl165 rfl rfl rfl rfl ⟨rfl, rfl⟩ (fun A w hW => distinctThreads_c q m.waits w ⟨z37, trivial⟩ (by omega)) ?_
 rintro v L ⟨rfl, rfl⟩
 exact ret0 ⟨_, rfl, by simp [BarrierOk, c1, c2, c3, c4, c5], rfl⟩ (fun _ => rfl)
set_option maxHeartbeats 4000000 in
set_option maxRecDepth 100000 in
theorem semValid_c (m : Sem) (q : Sl) (w : World) (h : At w [slo q cWaiter 2 m.queue]) (hb : m.queue.length ≤ 1048576) :
   Calls Tryz.prog 119 #[semV m q] w (Tells w (SemOk m)) := by
 refine calls1 Tryz.func119 rfl tabOk w _ rfl _ rfl _ h ⟨rfl, rfl, trivial⟩ _ (by decide) ?_
 apply CaseB.mk <;> intro g
 · have q : ¬ (1 ≤ m.limit) := by have g' := of_decide_eq_true g; omega
   exact ret0 ⟨_, rfl, tno fun e => q e.l1, rfl⟩ (fun _ => rfl)
 have c1 : 1 ≤ m.limit := by have g' := of_decide_eq_false g; omega
 apply CaseB.mk <;> intro g
 · have q : ¬ (m.limit ≤ 9) := by have g' := of_decide_eq_true g; omega
   exact ret0 ⟨_, rfl, tno fun e => q e.l9, rfl⟩ (fun _ => rfl)
 have c2 : m.limit ≤ 9 := by have g' := of_decide_eq_false g; omega
 apply CaseB.mk <;> intro g
 · have q : ¬ (0 ≤ m.free) := by have g' := of_decide_eq_true g; omega
   exact ret0 ⟨_, rfl, tno fun e => q e.f0, rfl⟩ (fun _ => rfl)
 have c3 : 0 ≤ m.free := by have g' := of_decide_eq_false g; omega
 apply CaseB.mk <;> intro g
 · have q : ¬ (m.free ≤ m.limit) := by have g' := of_decide_eq_true g; omega
   exact ret0 ⟨_, rfl, tno fun e => q e.fl, rfl⟩ (fun _ => rfl)
 have c4 : m.free ≤ m.limit := by have g' := of_decide_eq_false g; omega
 apply CaseB.mk <;> intro g
 · have q : ¬ (m.queue.length ≤ 6) := by have g' := of_decide_eq_true g; omega
   exact ret0 ⟨_, rfl, tno fun e => q e.q6, rfl⟩ (fun _ => rfl)
 have c5 : m.queue.length ≤ 6 := by have g' := of_decide_eq_false g; omega
 refine LoopW.mk ⟨{ p : Nat × Sl // p.1 ≤ m.queue.length ∧ ∀ w ∈ m.queue.take p.1, 1 ≤ w.n ∧ w.n ≤ m.limit },
   fun p => .mk [(1, .p 0 0), (3, .v (p.1.2.val ((m.queue.map (·.t)).take p.1.1).length)), (33, .v (q.val m.queue.length)), (34, .v (.int .i64 (m.queue.length : Int))), (35, .v (.int .i64 (p.1.1 : Int)))] 1 0 [(0, 95, 3)] [((0, 0), .v (.int .i64 m.free)), ((0, 1), .v (.int .i64 m.limit)), ((0, 2), .v (q.val m.queue.length))] [own p.1.2 3 cInt 1 ((m.queue.map (·.t)).take p.1.1), slo q cWaiter 2 m.queue],
   fun p => m.queue.length - p.1.1, ⟨(0, ⟨none, 0⟩), Nat.zero_le _, by simp⟩, ?_, ?_⟩
 · exact weak_mk [99, 0] zw2 zw0 zw2 zw5 zw4 rfl rfl
 rintro ⟨⟨k, a⟩, hk, hinv⟩
 simp only at hk hinv
 apply CaseB.mk <;> intro g
 · have hlt : k < m.queue.length := by simpa using g
   have hw := wrapN k _ hlt (by omega)
   refine stop_idx encWaiter tabOk rfl rfl rfl rfl rfl ⟨rfl, rfl⟩ (rdAt 1 rfl) k rfl z45 (fun ad => ?_)
   apply CaseB.mk <;> intro g
   · have q : ¬ (1 ≤ (m.queue[k]).n) := by have g' := of_decide_eq_true g; omega
     exact ret0 ⟨_, rfl, tno fun e => q (e.cnt _ (List.getElem_mem hlt)).1, rfl⟩ (fun _ => rfl)
   have d1 : 1 ≤ (m.queue[k]).n := by have g' := of_decide_eq_false g; omega
   apply CaseB.mk <;> intro g
   · have q : ¬ ((m.queue[k]).n ≤ m.limit) := by have g' := of_decide_eq_true g; omega
     exact ret0 ⟨_, rfl, tno fun e => q (e.cnt _ (List.getElem_mem hlt)).2, rfl⟩ (fun _ => rfl)
   have d2 : (m.queue[k]).n ≤ m.limit := by have g' := of_decide_eq_false g; omega
   refine AllSl.mk fun u => ?_
   refine stop_app encInt 1 tabOk (ys := [(m.queue[k]).t]) rfl rfl rfl rfl rfl rfl rfl rfl rfl (by decide) ⟨rfl, rfl⟩ rfl z38 z45 z45 (fun a2 => ?_)
   rw [map_take_succ hlt rfl rfl]
   refine ⟨⟨(k + 1, a2), by omega, fun x hx => ?_⟩, ?_, by simp only; omega⟩
   · rw [List.take_succ_eq_append_getElem hlt] at hx
     rcases List.mem_append.1 hx with hx | hx
     · exact hinv x hx
     · simp at hx; subst hx; exact ⟨d1, d2⟩
   · exact weak_mk [0, 2] zw1 zw0 zw1 zw5 zw3 rfl rfl
 have hge : m.queue.length ≤ k := by simpa using g
 rw [List.take_of_length_le hge] at hinv
 have eT : (m.queue.map (·.t)).take k = m.queue.map (·.t) := List.take_of_length_le z90
 simp only [eT]
 refine draw_start tabOk z97 z97 z97 200 [((0, 0), .v (.int .i64 m.free)), ((0, 1), .v (.int .i64 m.limit)), ((0, 2), .v (q.val m.queue.length))] [1] [_] z126 z138 ⟨rfl, trivial⟩ rfl ?_
 refine d_call _ cl165 rfl rfl rfl rfl ⟨rfl, rfl⟩ (fun A w hW => distinctThreads_c a _ w ⟨hW.rdOwn 0 rfl, trivial⟩ z96) ?_
 rintro v L ⟨rfl, rfl⟩
 apply CaseB.mk <;> intro g
 rotate_left
 · have q : ¬ (distinct (m.queue.map (·.t)) = true) := by simpa using g
   exact ret0 ⟨_, rfl, tno fun e => q e.dis, rfl⟩ (fun _ => rfl)
 have c6 : distinct (m.queue.map (·.t)) = true := g
 apply CaseB.mk <;> intro g
 · have c7 : m.queue = [] := by simpa using g
   exact ret0 ⟨_, rfl, tyes ⟨c1, c2, c3, c4, c5, hinv, c6, by rw [c7]; simp⟩, rfl⟩ (fun _ => rfl)
 have c7 : 0 < m.queue.length := by have g' : ¬ m.queue = [] := by simpa using g
                                    exact List.length_pos_iff.2 g'
 refine d_idx (ti := tiOf tab) encWaiter tabOk rfl rfl rfl rfl rfl ⟨rfl, rfl⟩ (rdAt 0 rfl) 0 rfl z45 (fun ad => ?_)
 refine ret0 ⟨_, rfl, ?_, rfl⟩ (fun _ => rfl)
 have hh : ∀ w, m.queue[0]? = some w → w = m.queue[0] := fun w hw => by rw [List.getElem?_eq_getElem c7] at hw; injection hw with hw; exact hw.symm
 constructor
 · intro g
   have g' := of_decide_eq_true g
   exact ⟨c1, c2, c3, c4, c5, hinv, c6, fun w hw => by rw [hh w hw]; omega⟩
 · intro e
   have := e.hd _ (List.getElem?_eq_getElem c7)
   exact decide_eq_true (by omega)
set_option maxHeartbeats 16000000 in
set_option maxRecDepth 100000 in
theorem opValid_c (p : ProgH) (o : Op) (w : World) (h : At w [fR (progO p)]) :
   Calls Tryz.prog 164 #[progV p, .agg (cOp o).toArray] w (Tells w (OpOk p.pure o)) := by
 refine calls2 Tryz.func164 rfl tabOk w _ rfl _ rfl _ h ⟨rfl, rfl, trivial⟩ _ _ (by decide) ?_
 refine CaseB.mk (fun k1 => ?_) (fun k1 => ?_)
 · have hx := opOk1 (p := p.pure) (o := o) (by simpa using k1)
   apply CaseB.mk <;> intro g
   · have g' : o.on = 0 := by simpa using g
     refine stop_call _ cl124 rfl rfl rfl rfl ⟨rfl, rfl⟩ (fun A w hW => isValue_c _ w) ?_
     rintro v L ⟨rfl, rfl⟩
     exact ret0 ⟨_, rfl, by rw [hx]; simp [g'], rfl⟩ (fun _ => rfl)
   · have g' : ¬ o.on = 0 := by simpa using g
     exact ret0 ⟨_, rfl, tno fun e => g' (hx.1 e).1, rfl⟩ (fun _ => rfl)
 refine CaseB.mk (fun k2 => ?_) (fun k2 => ?_)
 · refine CaseB.mk (fun _ => ?_) (fun g => by rw [k2] at g; cases g)
   have hx := opOk2 (p := p.pure) (o := o) (.inl (by simpa using k2))
   refine draw_start tabOk z97 z97 z97 200 [((0, 0), .v (p.h0.val p.sems.length)), ((1, 0), .v (.int .i64 o.kind)), ((1, 1), .v (.int .i64 o.on)), ((1, 2), .v (.int .i64 o.arg))] [0] [_] z119 z134 ⟨rfl, trivial⟩ rfl ?_
   refine d_call _ cl193 rfl rfl rfl rfl ⟨rfl, rfl⟩ (fun A w hW => opOn_c p.h0 p.sems.length o (A 1) w ⟨hW.var rfl rfl, trivial⟩) ?_
   rintro v L ⟨b, rfl, hb, rfl⟩
   refine CaseB.mk (fun g1 => ?_) (fun g1 => ?_)
   · obtain ⟨c1, c2⟩ := hb.1 g1
     have hlt : o.on.toNat < p.sems.length := by omega
     have e : p.pure.sems.getD o.on.toNat 0 = p.sems[o.on.toNat] := by simp [ProgH.pure, List.getD, hlt]
     refine CaseB.mk (fun g2 => ?_) (fun g2 => ?_)
     · have c3 : 1 ≤ o.arg := by simp at g2; omega
       refine d_idx (ti := tiOf tab) encInt tabOk rfl rfl rfl rfl rfl ⟨rfl, rfl⟩ (rdVia 0 rfl (.ofR (progO_sems p))) o.on.toNat (by omega) z45 (fun ad => ?_)
       refine ret0 ⟨_, rfl, ?_, rfl⟩ (fun _ => rfl)
       rw [hx, e]
       show _ ↔ (0 ≤ o.on ∧ o.on < (p.sems.length : Int)) ∧ _
       simp [c1, c2, c3]
     · have c3 : ¬ 1 ≤ o.arg := by simp at g2; omega
       exact ret0 ⟨_, rfl, tno fun e => c3 (hx.1 e).2.1, rfl⟩ (fun _ => rfl)
   · exact ret0 ⟨_, rfl, tno fun e => z85, rfl⟩ (fun _ => rfl)
 refine CaseB.mk (fun k3 => ?_) (fun k3 => ?_)
 · skip
   have hx := opOk2 (p := p.pure) (o := o) (.inr (by simpa using k3))
   refine draw_start tabOk z97 z97 z97 200 [((0, 0), .v (p.h0.val p.sems.length)), ((1, 0), .v (.int .i64 o.kind)), ((1, 1), .v (.int .i64 o.on)), ((1, 2), .v (.int .i64 o.arg))] [0] [_] z119 z134 ⟨rfl, trivial⟩ rfl ?_
   refine d_call _ cl193 rfl rfl rfl rfl ⟨rfl, rfl⟩ (fun A w hW => opOn_c p.h0 p.sems.length o (A 1) w ⟨hW.var rfl rfl, trivial⟩) ?_
   rintro v L ⟨b, rfl, hb, rfl⟩
   refine CaseB.mk (fun g1 => ?_) (fun g1 => ?_)
   · obtain ⟨c1, c2⟩ := hb.1 g1
     have hlt : o.on.toNat < p.sems.length := by omega
     have e : p.pure.sems.getD o.on.toNat 0 = p.sems[o.on.toNat] := by simp [ProgH.pure, List.getD, hlt]
     refine CaseB.mk (fun g2 => ?_) (fun g2 => ?_)
     · have c3 : 1 ≤ o.arg := by simp at g2; omega
       refine d_idx (ti := tiOf tab) encInt tabOk rfl rfl rfl rfl rfl ⟨rfl, rfl⟩ (rdVia 0 rfl (.ofR (progO_sems p))) o.on.toNat (by omega) z45 (fun ad => ?_)
       refine ret0 ⟨_, rfl, ?_, rfl⟩ (fun _ => rfl)
       rw [hx, e]
       show _ ↔ (0 ≤ o.on ∧ o.on < (p.sems.length : Int)) ∧ _
       simp [c1, c2, c3]
     · have c3 : ¬ 1 ≤ o.arg := by simp at g2; omega
       exact ret0 ⟨_, rfl, tno fun e => c3 (hx.1 e).2.1, rfl⟩ (fun _ => rfl)
   · exact ret0 ⟨_, rfl, tno fun e => z85, rfl⟩ (fun _ => rfl)
 refine CaseB.mk (fun k4 => ?_) (fun k4 => ?_)
 · have hx := opOk4 (p := p.pure) (o := o) (by simpa using k4)
   apply CaseB.mk <;> intro g
   · have g1 : 0 ≤ o.on := by simp at g; omega
     apply CaseB.mk <;> intro g
     · have g2 : o.on ≤ 2 := by simp at g; omega
       refine stop_call _ cl124 rfl rfl rfl rfl ⟨rfl, rfl⟩ (fun A w hW => isValue_c _ w) ?_
       rintro v L ⟨rfl, rfl⟩
       exact ret0 ⟨_, rfl, by rw [hx]; simp [g1, g2], rfl⟩ (fun _ => rfl)
     · have g2 : ¬ o.on ≤ 2 := by simp at g; omega
       exact ret0 ⟨_, rfl, tno fun e => g2 (hx.1 e).2.1, rfl⟩ (fun _ => rfl)
   · have g1 : ¬ 0 ≤ o.on := by simp at g; omega
     exact ret0 ⟨_, rfl, tno fun e => g1 (hx.1 e).1, rfl⟩ (fun _ => rfl)
 refine CaseB.mk (fun k5 => ?_) (fun k5 => ?_)
 · skip
   have hx := opOk5 (p := p.pure) (o := o) (by simpa using k5)
   refine stop_call _ cl193 rfl rfl rfl rfl ⟨rfl, rfl⟩ (fun A w hW => opOn_c p.h1 p.groups.length o (A 1) w ⟨hW.var rfl rfl, trivial⟩) ?_
   rintro v L ⟨b, rfl, hb, rfl⟩
   refine CaseB.mk (fun g1 => ?_) (fun g1 => ?_)
   rotate_left
   · exact ret0 ⟨_, rfl, tno fun e => z85, rfl⟩ (fun _ => rfl)
   have c := hb.1 g1
   have c' : 0 ≤ o.on ∧ o.on < (p.pure.groups.length : Int) := c
   refine CaseB.mk (fun g2 => ?_) (fun g2 => ?_)
   · have c3 : -9 ≤ o.arg := by simp at g2; omega
     exact ret0 ⟨_, rfl, by rw [hx]; simp only [c', c3, true_and, and_self]; simp, rfl⟩ (fun _ => rfl)
   · have c3 : ¬ -9 ≤ o.arg := by simp at g2; omega
     exact ret0 ⟨_, rfl, tno fun e => c3 (hx.1 e).2.1, rfl⟩ (fun _ => rfl)
 refine CaseB.mk (fun k6 => ?_) (fun k6 => ?_)
 · skip
   have hx := opOk6 (p := p.pure) (o := o) (by simpa using k6)
   refine stop_call _ cl193 rfl rfl rfl rfl ⟨rfl, rfl⟩ (fun A w hW => opOn_c p.h1 p.groups.length o (A 1) w ⟨hW.var rfl rfl, trivial⟩) ?_
   rintro v L ⟨b, rfl, hb, rfl⟩
   refine CaseB.mk (fun g1 => ?_) (fun g1 => ?_)
   rotate_left
   · exact ret0 ⟨_, rfl, tno fun e => z85, rfl⟩ (fun _ => rfl)
   have c := hb.1 g1
   have c' : 0 ≤ o.on ∧ o.on < (p.pure.groups.length : Int) := c
   exact ret0 ⟨_, rfl, by rw [hx]; simp only [c', true_and, and_self]; simp, rfl⟩ (fun _ => rfl)
 refine CaseB.mk (fun k7 => ?_) (fun k7 => ?_)
 · skip
   have hx := opOk7 (p := p.pure) (o := o) (by simpa using k7)
   refine stop_call _ cl193 rfl rfl rfl rfl ⟨rfl, rfl⟩ (fun A w hW => opOn_c p.h2 p.barriers.length o (A 1) w ⟨hW.var rfl rfl, trivial⟩) ?_
   rintro v L ⟨b, rfl, hb, rfl⟩
   refine CaseB.mk (fun g1 => ?_) (fun g1 => ?_)
   rotate_left
   · exact ret0 ⟨_, rfl, tno fun e => z85, rfl⟩ (fun _ => rfl)
   have c := hb.1 g1
   have c' : 0 ≤ o.on ∧ o.on < (p.pure.barriers.length : Int) := c
   exact ret0 ⟨_, rfl, by rw [hx]; simp only [c', true_and, and_self]; simp, rfl⟩ (fun _ => rfl)
 refine CaseB.mk (fun k8 => ?_) (fun k8 => ?_)
 · skip
   have hx := opOk8 (p := p.pure) (o := o) (by simpa using k8)
   refine stop_call _ cl193 rfl rfl rfl rfl ⟨rfl, rfl⟩ (fun A w hW => opOn_c p.h3 p.rooms.length o (A 1) w ⟨hW.var rfl rfl, trivial⟩) ?_
   rintro v L ⟨b, rfl, hb, rfl⟩
   refine CaseB.mk (fun g1 => ?_) (fun g1 => ?_)
   rotate_left
   · exact ret0 ⟨_, rfl, tno fun e => z85, rfl⟩ (fun _ => rfl)
   have c := hb.1 g1
   have c' : 0 ≤ o.on ∧ o.on < (p.pure.rooms.length : Int) := c
   refine stop_call _ cl124 rfl rfl rfl rfl ⟨rfl, rfl⟩ (fun A w hW => isValue_c _ w) ?_
   rintro v L ⟨rfl, rfl⟩
   exact ret0 ⟨_, rfl, by rw [hx]; simp only [c', true_and, and_self], rfl⟩ (fun _ => rfl)
 refine CaseB.mk (fun k9 => ?_) (fun k9 => ?_)
 · refine CaseB.mk (fun _ => ?_) (fun g => by rw [k9] at g; cases g)
   have hx := opOk9 (p := p.pure) (o := o) (.inl (by simpa using k9))
   refine stop_call _ cl193 rfl rfl rfl rfl ⟨rfl, rfl⟩ (fun A w hW => opOn_c p.h3 p.rooms.length o (A 1) w ⟨hW.var rfl rfl, trivial⟩) ?_
   rintro v L ⟨b, rfl, hb, rfl⟩
   refine CaseB.mk (fun g1 => ?_) (fun g1 => ?_)
   rotate_left
   · exact ret0 ⟨_, rfl, tno fun e => z85, rfl⟩ (fun _ => rfl)
   have c := hb.1 g1
   have c' : 0 ≤ o.on ∧ o.on < (p.pure.rooms.length : Int) := c
   exact ret0 ⟨_, rfl, by rw [hx]; simp only [c', true_and, and_self]; simp, rfl⟩ (fun _ => rfl)
 refine CaseB.mk (fun k10 => ?_) (fun k10 => ?_)
 · skip
   have hx := opOk9 (p := p.pure) (o := o) (.inr (by simpa using k10))
   refine stop_call _ cl193 rfl rfl rfl rfl ⟨rfl, rfl⟩ (fun A w hW => opOn_c p.h3 p.rooms.length o (A 1) w ⟨hW.var rfl rfl, trivial⟩) ?_
   rintro v L ⟨b, rfl, hb, rfl⟩
   refine CaseB.mk (fun g1 => ?_) (fun g1 => ?_)
   rotate_left
   · exact ret0 ⟨_, rfl, tno fun e => z85, rfl⟩ (fun _ => rfl)
   have c := hb.1 g1
   have c' : 0 ≤ o.on ∧ o.on < (p.pure.rooms.length : Int) := c
   exact ret0 ⟨_, rfl, by rw [hx]; simp only [c', true_and, and_self]; simp, rfl⟩ (fun _ => rfl)
 have hno : ¬ OpOk p.pure o := opOk0 (by simp at k1 k2 k3 k4 k5 k6 k7 k8 k9 k10; omega)
 exact ret0 ⟨_, rfl, tno hno, rfl⟩ (fun _ => rfl)
set_option maxHeartbeats 16000000 in
set_option maxRecDepth 100000 in
theorem progValid_c (p : ProgH) (w : World) (h : At w [fR (progO p)]) (hs : p.sems.length ≤ 1048576 ∧ p.groups.length ≤ 1048576 ∧ p.barriers.length ≤ 1048576 ∧ p.rooms.length ≤ 1048576) :
   Calls Tryz.prog 118 #[progV p] w (Tells w (ProgOk p.pure)) := by
 refine calls1 Tryz.func118 rfl tabOk w _ rfl _ rfl _ h ⟨rfl, rfl, trivial⟩ _ (by decide) ?_
 refine stop_call _ cl163 rfl rfl rfl rfl ⟨rfl, rfl⟩ (fun A w hW => within_c p.h0 p.sems 1 9 w ⟨hW.get 0 rfl (.ofR (progO_sems p)), trivial⟩ (by omega)) ?_
 rintro v L ⟨b0, rfl, hb0, rfl⟩
 apply CaseB.mk <;> intro g
 · exact ret0 ⟨_, rfl, tno fun e => (by have := hb0.2 e.sems; rw [this] at g; cases g), rfl⟩ (fun _ => rfl)
 have w0 := hb0.1 z94
 refine stop_call _ cl163 rfl rfl rfl rfl ⟨rfl, rfl⟩ (fun A w hW => within_c p.h1 p.groups 0 9 w ⟨hW.get 0 rfl (.ofR (progO_groups p)), trivial⟩ (by omega)) ?_
 rintro v L ⟨b1, rfl, hb1, rfl⟩
 apply CaseB.mk <;> intro g
 · exact ret0 ⟨_, rfl, tno fun e => (by have := hb1.2 e.groups; rw [this] at g; cases g), rfl⟩ (fun _ => rfl)
 have w1 := hb1.1 z94
 refine stop_call _ cl163 rfl rfl rfl rfl ⟨rfl, rfl⟩ (fun A w hW => within_c p.h2 p.barriers 1 6 w ⟨hW.get 0 rfl (.ofR (progO_barriers p)), trivial⟩ (by omega)) ?_
 rintro v L ⟨b2, rfl, hb2, rfl⟩
 apply CaseB.mk <;> intro g
 · exact ret0 ⟨_, rfl, tno fun e => (by have := hb2.2 e.barriers; rw [this] at g; cases g), rfl⟩ (fun _ => rfl)
 have w2 := hb2.1 z94
 refine stop_call _ cl163 rfl rfl rfl rfl ⟨rfl, rfl⟩ (fun A w hW => within_c p.h3 p.rooms 0 4 w ⟨hW.get 0 rfl (.ofR (progO_rooms p)), trivial⟩ (by omega)) ?_
 rintro v L ⟨b3, rfl, hb3, rfl⟩
 apply CaseB.mk <;> intro g
 · exact ret0 ⟨_, rfl, tno fun e => (by have := hb3.2 e.rooms; rw [this] at g; cases g), rfl⟩ (fun _ => rfl)
 have w3 := hb3.1 z94
 have hlen : p.pure.threads.length = p.threads.length := by simp [ProgH.pure]
 apply CaseB.mk <;> intro g
 · have q : ¬ 1 ≤ p.threads.length := by have g' := of_decide_eq_true g; omega
   exact ret0 ⟨_, rfl, tno fun e => q (hlen ▸ e.n1), rfl⟩ (fun _ => rfl)
 have n1 : 1 ≤ p.threads.length := by have g' := of_decide_eq_false g; omega
 apply CaseB.mk <;> intro g
 · have q : ¬ p.threads.length ≤ 4 := by simp at g; omega
   exact ret0 ⟨_, rfl, tno fun e => q (hlen ▸ e.n4), rfl⟩ (fun _ => rfl)
 have n4 : p.threads.length ≤ 4 := by simp at g; omega
 have hmem : ∀ (k : Nat) (hk : k < p.threads.length), (p.threads[k]).m ∈ p.pure.threads := fun k hk => List.mem_map_of_mem (List.getElem_mem hk)
 refine LoopW.mk ⟨{ k : Nat // k ≤ p.threads.length ∧ ∀ t ∈ p.pure.threads.take k, t.length ≤ 8 ∧ ∀ o ∈ t, OpOk p.pure o },
   fun k => .mk [(1, .p 0 0), (42, .v (p.h4.val p.threads.length)), (43, .v (.int .i64 (p.threads.length : Int))), (44, .v (.int .i64 (k.1 : Int)))] 1 0 [(0, 26, 5)] [((0, 0), .v (p.h0.val p.sems.length)), ((0, 1), .v (p.h1.val p.groups.length)), ((0, 2), .v (p.h2.val p.barriers.length)), ((0, 3), .v (p.h3.val p.rooms.length)), ((0, 4), .v (p.h4.val p.threads.length))] [fR (progO p)],
   fun k => p.threads.length - k.1, ⟨0, Nat.zero_le _, by simp⟩, ?_, ?_⟩
 · exact weak_mk [0] zw2 zw0 zw2 zw5 zw4 rfl rfl
 rintro ⟨k, hk, hinv⟩
 apply CaseB.mk <;> intro g
 · have hlt : k < p.threads.length := by simpa using g
   have hget : p.pure.threads[k]'(by rw [hlen]; exact hlt) = (p.threads[k]).m := by simp [ProgH.pure]
   refine stop_idx encOpSH tabOk rfl rfl rfl rfl rfl ⟨rfl, rfl⟩ (rdVia 0 rfl (.trans (.R_R (progO_threads p)) (.ofR nest_h))) k rfl z45 (fun ad => ?_)
   apply CaseB.mk <;> intro g
   · have q : ¬ (p.threads[k]).m.length ≤ 8 := by simp at g; omega
     exact ret0 ⟨_, rfl, tno fun e => q (e.ops _ (hmem k hlt)).1, rfl⟩ (fun _ => rfl)
   have n8 : (p.threads[k]).m.length ≤ 8 := by simp at g; omega
   refine LoopW.mk ⟨{ j : Nat // j ≤ (p.threads[k]).m.length ∧ ∀ o ∈ (p.threads[k]).m.take j, OpOk p.pure o },
     fun j => .mk [(1, .p 0 0), (42, .v (p.h4.val p.threads.length)), (43, .v (.int .i64 (p.threads.length : Int))), (44, .v (.int .i64 (k : Int))), (51, .v ((p.threads[k]).q.val (p.threads[k]).m.length)), (52, .v (.int .i64 ((p.threads[k]).m.length : Int))), (53, .v (.int .i64 (j.1 : Int)))] 1 0 [(0, 26, 5)] [((0, 0), .v (p.h0.val p.sems.length)), ((0, 1), .v (p.h1.val p.groups.length)), ((0, 2), .v (p.h2.val p.barriers.length)), ((0, 3), .v (p.h3.val p.rooms.length)), ((0, 4), .v (p.h4.val p.threads.length))] [fR (progO p)],
     fun j => (p.threads[k]).m.length - j.1, ⟨0, Nat.zero_le _, by simp⟩, ?_, ?_⟩
   · exact weak_mk [0] zw2 zw0 zw2 zw5 zw4 rfl rfl
   rintro ⟨j, hj, hinv2⟩
   apply CaseB.mk <;> intro g
   · have hlj : j < (p.threads[k]).m.length := by simpa using g
     refine stop_idx encOp tabOk rfl rfl rfl rfl rfl ⟨rfl, rfl⟩ (rdVia 0 rfl (.trans (.R_R (progO_threads p)) (.ofR (threadsO_0 _ _ k hlt)))) j rfl z45 (fun ad2 => ?_)
     refine stop_call _ cl164 rfl rfl rfl rfl ⟨rfl, rfl⟩ (fun A w hW => opValid_c p _ w ⟨hW.get 0 rfl (.refl _), trivial⟩) ?_
     rintro v L ⟨b, rfl, hb, rfl⟩
     apply CaseB.mk <;> intro g
     · exact ret0 ⟨_, rfl, tno fun e => z54, rfl⟩ (fun _ => rfl)
     have hw := e_succ j _ hlj (by omega)
     refine ⟨⟨j + 1, by omega, fun o ho => ?_⟩, ?_, by simp; omega⟩
     · rw [List.take_succ_eq_append_getElem hlj] at ho
       rcases List.mem_append.1 ho with ho | ho
       · exact hinv2 o ho
       · simp at ho; subst ho; exact hb.1 z94
     · exact weak_mk [0] zw1 zw0 zw1 zw5 zw3 rfl rfl
   have hge2 : (p.threads[k]).m.length ≤ j := by simpa using g
   have hw := e_succ k _ hlt (by omega)
   refine ⟨⟨k + 1, by omega, fun t ht => ?_⟩, ?_, by simp; omega⟩
   · rw [List.take_succ_eq_append_getElem (by rw [hlen]; exact hlt)] at ht
     rcases List.mem_append.1 ht with ht | ht
     · exact hinv t ht
     · simp only [List.mem_singleton] at ht
       rw [hget] at ht
       subst ht
       exact ⟨n8, by rw [List.take_of_length_le hge2] at hinv2; exact hinv2⟩
   · exact weak_mk [0] zw1 zw0 zw1 zw5 zw3 rfl rfl
 have hge : p.threads.length ≤ k := by simpa using g
 refine ret0 ⟨_, rfl, tyes ⟨w0, w1, w2, w3, by rw [hlen]; exact n1, by rw [hlen]; exact n4, fun t ht => ?_⟩, rfl⟩ (fun _ => rfl)
 rw [List.take_of_length_le (by rw [hlen]; exact hge)] at hinv
 exact hinv t ht
def onceZ : OnceH := ⟨⟨0, 0, 0, []⟩, ⟨none, 0⟩⟩
def rest (ops : List Op) : Int := if ops.length = 0 then 3 else 0
def start (p : Prog) : State := ⟨p.threads.map fun _ => 0, p.threads.map rest, p.sems.map fun n => ⟨n, n, []⟩, [⟨0, 0, 0, []⟩, ⟨0, 0, 0, []⟩, ⟨0, 0, 0, []⟩], p.groups.map fun n => ⟨n, []⟩, p.barriers.map fun n => ⟨n, 0, []⟩, p.rooms.map fun n => ⟨n, [], [], [], false⟩, [], 0⟩
def State.zero : State := ⟨[], [], [], [], [], [], [], [], 0⟩
def StateH.zero : StateH := ⟨[], [], [], [], [], [], [], [], 0, ⟨none, 0⟩, ⟨none, 0⟩, ⟨none, 0⟩, ⟨none, 0⟩, ⟨none, 0⟩, ⟨none, 0⟩, ⟨none, 0⟩, ⟨none, 0⟩⟩
theorem zero_nil : ∀ g ∈ stateO StateH.zero, nilFact g := by
 intro g hg
 simp [stateO, StateH.zero, semsO, oncesO, groupsO, barriersO, chansO, nestO] at hg
 rcases hg with rfl | rfl | rfl | rfl | rfl | rfl | rfl | rfl <;> exact ⟨rfl, rfl, rfl, rfl⟩
def Started (p : Prog) (v : Value) (L : List Fct) : Prop := ∃ (y : StateH) (b : Bool), v = .tuple #[stateV y, .bool b] ∧ (b = true ↔ ProgOk p) ∧ (b = true → y.pure = start p) ∧ (b = false → y.pure = State.zero) ∧ L = [fO (stateO y)]
theorem nilOf {α : Type} {inner : α → List Fct} {xs : List α} (h : ∀ x ∈ xs, ∀ g ∈ inner x, nilFact g) : ∀ g ∈ xs.flatMap inner, nilFact g := fun g hg => by
 obtain ⟨x, hx, hg⟩ := List.mem_flatMap.1 hg
 exact h x hx g hg
set_option maxHeartbeats 16000000 in
set_option maxRecDepth 100000 in
theorem startProg_c (p : ProgH) (w : World) (h : At w [fR (progO p)]) (hs : p.sems.length ≤ 1048576 ∧ p.groups.length ≤ 1048576 ∧ p.barriers.length ≤ 1048576 ∧ p.rooms.length ≤ 1048576) :
   Calls Tryz.prog 104 #[progV p] w (Ret w (Started p.pure)) := by
 refine calls1 Tryz.func104 rfl tabOk w _ rfl _ rfl _ h ⟨rfl, rfl, trivial⟩ _ (by decide) ?_
 refine stop_call _ cl118 rfl rfl rfl rfl ⟨rfl, rfl⟩ (fun A w hW => progValid_c p w ⟨hW.get 0 rfl (.refl _), trivial⟩ hs) ?_
 rintro v L ⟨b, rfl, hb, rfl⟩
 apply CaseB.mk <;> intro g
 · have hn : ¬ ProgOk p.pure := fun e => by rw [hb.2 e] at g; cases g
   refine ret_shift (.joinO [90] (Gs := [_]) ⟨.inr ⟨Nat.le_of_ble_eq_true rfl, zero_nil⟩, trivial⟩ rfl (G := stateO StateH.zero) (.of_eq (by simp))) ?_
   exact retw [0] ⟨StateH.zero, false, rfl, tno hn, fun e => z100, fun _ => rfl, rfl⟩ z140 rfl ⟨rfl, trivial⟩ (fun _ => rfl)
 have ok := hb.1 z94
 have n4 : p.threads.length ≤ 4 := by have := ok.n4; simpa [ProgH.pure] using this
 have m0 : p.sems.length ≤ 3 := ok.sems.1
 have m1 : p.groups.length ≤ 3 := ok.groups.1
 have m2 : p.barriers.length ≤ 3 := ok.barriers.1
 have m3 : p.rooms.length ≤ 3 := ok.rooms.1
 refine stop_make encOnceH onceZ tabOk rfl rfl rfl rfl rfl (by decide) ⟨rfl, rfl⟩ 3 rfl z45 z45 (fun y => ?_)
 obtain ⟨LP, hLP⟩ : ∃ l, l = p.threads.map (fun _ => (0 : Int)) := ⟨_, rfl⟩
 obtain ⟨LS, hLS⟩ : ∃ l, l = p.threads.map (fun x => rest x.m) := ⟨_, rfl⟩
 have lP : LP.length = p.threads.length := by rw [hLP]; simp
 have lS : LS.length = p.threads.length := by rw [hLS]; simp
 refine LoopW.mk ⟨{ q : Nat × Sl × Sl // q.1 ≤ p.threads.length },
   fun q => .mk [(1, .p 0 0), (2, .p 1 0), (4, .p 2 0), (23, .v (p.h4.val p.threads.length)), (24, .v (.int .i64 (p.threads.length : Int))), (25, .v (.int .i64 (q.1.1 : Int)))] 3 0 [(0, 26, 5), (1, 35, 9), (2, 35, 9)]
     [((0, 0), .v (p.h0.val p.sems.length)), ((0, 1), .v (p.h1.val p.groups.length)), ((0, 2), .v (p.h2.val p.barriers.length)), ((0, 3), .v (p.h3.val p.rooms.length)), ((0, 4), .v (p.h4.val p.threads.length)), ((2, 0), .v (q.1.2.1.val (LP.take q.1.1).length)), ((2, 1), .v (q.1.2.2.val (LS.take q.1.1).length)), ((2, 2), .v (.slice none 0 0)), ((2, 3), .v (y.val 3)), ((2, 4), .v (.slice none 0 0)), ((2, 5), .v (.slice none 0 0)), ((2, 6), .v (.slice none 0 0)), ((2, 7), .v (.slice none 0 0)), ((2, 8), .v (.int .i64 0))]
     [own q.1.2.1 3 cInt 1 (LP.take q.1.1), own q.1.2.2 3 cInt 1 (LS.take q.1.1), own y 102 cOnceH 4 [onceZ, onceZ, onceZ], fR (progO p)],
   fun q => p.threads.length - q.1.1, ⟨(0, ⟨none, 0⟩, ⟨none, 0⟩), Nat.zero_le _⟩, ?_, ?_⟩
 · exact weak_mk [99, 98, 0, 1] zw2 zw0 zw2 zw5 zw4 rfl rfl
 rintro ⟨⟨k, a, s⟩, hk⟩
 simp only at hk
 apply CaseB.mk <;> intro g
 · have hlt : k < p.threads.length := by simpa using g
   have eP : LP.take k ++ [0] = LP.take (k + 1) := by rw [hLP]; exact map_take_succ hlt rfl rfl
   have eS : ∀ x, x = rest (p.threads[k]).m → LS.take k ++ [x] = LS.take (k + 1) := fun x hx => by rw [hLS]; exact map_take_succ hlt rfl hx
   have hw := e_succ k _ hlt (by omega)
   refine stop_idx encOpSH tabOk rfl rfl rfl rfl rfl ⟨rfl, rfl⟩ (rdVia 3 rfl (.trans (.R_R (progO_threads p)) (.ofR nest_h))) k rfl z45 (fun ad => ?_)
   refine AllSl.mk fun u => ?_
   refine stop_app encInt 1 tabOk (ys := [0]) rfl rfl rfl rfl rfl rfl rfl rfl rfl (by decide) ⟨rfl, rfl⟩ rfl z38 z45 z45 (fun a2 => ?_)
   rw [eP]
   apply CaseB.mk <;> intro g
   · have q : (p.threads[k]).m.length = 0 := by simp at g; simp [g]
     refine AllSl.mk fun u2 => ?_
     refine stop_app encInt 3 tabOk (ys := [3]) rfl rfl rfl rfl rfl rfl rfl rfl rfl (by decide) ⟨rfl, rfl⟩ rfl z38 z45 z45 (fun s2 => ?_)
     rw [eS 3 (by simp [rest, q])]
     refine ⟨⟨(k + 1, a2, s2), by omega⟩, ?_, by simp only; omega⟩
     exact weak_mk [2, 0, 4, 5] zw1 zw0 zw1 zw5 zw3 rfl rfl
   · have q : ¬ (p.threads[k]).m.length = 0 := by simp at g; simp [g]
     refine AllSl.mk fun u2 => ?_
     refine stop_app encInt 3 tabOk (ys := [0]) rfl rfl rfl rfl rfl rfl rfl rfl rfl (by decide) ⟨rfl, rfl⟩ rfl z38 z45 z45 (fun s2 => ?_)
     rw [eS 0 (by simp [rest, q])]
     refine ⟨⟨(k + 1, a2, s2), by omega⟩, ?_, by simp only; omega⟩
     exact weak_mk [2, 0, 4, 5] zw1 zw0 zw1 zw5 zw3 rfl rfl
 have hge : p.threads.length ≤ k := by simpa using g
 have eP : LP.take k = LP := List.take_of_length_le (by omega)
 have eS : LS.take k = LS := List.take_of_length_le (by omega)
 obtain ⟨L0, hL0⟩ : ∃ l, l = p.sems.map (fun n => (⟨⟨n, n, []⟩, ⟨none, 0⟩⟩ : SemH)) := ⟨_, rfl⟩
 have lenL0 : L0.length = p.sems.length := by rw [hL0]; simp
 refine LoopW.mk ⟨{ q : Nat × Sl // q.1 ≤ p.sems.length },
   fun q => .mk [(1, .p 0 0), (2, .p 1 0), (4, .p 2 0), (45, .v (p.h0.val p.sems.length)), (46, .v (.int .i64 (p.sems.length : Int))), (47, .v (.int .i64 (q.1.1 : Int)))] 3 0 [(0, 26, 5), (1, 35, 9), (2, 35, 9)]
     [((0, 0), .v (p.h0.val p.sems.length)), ((0, 1), .v (p.h1.val p.groups.length)), ((0, 2), .v (p.h2.val p.barriers.length)), ((0, 3), .v (p.h3.val p.rooms.length)), ((0, 4), .v (p.h4.val p.threads.length)), ((2, 0), .v (a.val LP.length)), ((2, 1), .v (s.val LS.length)), ((2, 2), .v (q.1.2.val (L0.take q.1.1).length)), ((2, 3), .v (y.val 3)), ((2, 4), .v (.slice none 0 0)), ((2, 5), .v (.slice none 0 0)), ((2, 6), .v (.slice none 0 0)), ((2, 7), .v (.slice none 0 0)), ((2, 8), .v (.int .i64 0))]
     [own q.1.2 95 cSemH 3 (L0.take q.1.1), own a 3 cInt 1 LP, own s 3 cInt 1 LS, own y 102 cOnceH 4 [onceZ, onceZ, onceZ], fR (progO p)],
   fun q => p.sems.length - q.1.1, ⟨(0, ⟨none, 0⟩), Nat.zero_le _⟩, ?_, ?_⟩
 · exact weak_mk [99, 0, 1, 2, 3] zw14 zw0 zw14 zw5 zw34 rfl rfl
 rintro ⟨⟨k0, c0⟩, hk⟩
 simp only at hk
 apply CaseB.mk <;> intro g
 · have hlt : k0 < p.sems.length := by simpa using g
   have e : ∀ x, x = (⟨⟨p.sems[k0], p.sems[k0], []⟩, ⟨none, 0⟩⟩ : SemH) → L0.take k0 ++ [x] = L0.take (k0 + 1) := fun x hx => by rw [hL0]; exact map_take_succ hlt rfl hx
   have hw := e_succ k0 _ hlt (by omega)
   refine stop_idx encInt tabOk rfl rfl rfl rfl rfl ⟨rfl, rfl⟩ (rdVia 4 rfl (.ofR (progO_sems p))) k0 rfl z45 (fun ad => ?_)
   refine AllSl.mk fun u => ?_
   refine stop_app encSemH 1 tabOk (ys := [⟨⟨p.sems[k0], p.sems[k0], []⟩, ⟨none, 0⟩⟩]) rfl rfl rfl rfl rfl rfl rfl rfl rfl (by decide) ⟨rfl, rfl⟩ rfl z38 z45 z45 (fun c0' => ?_)
   rw [e _ rfl]
   refine ⟨⟨(k0 + 1, c0'), by omega⟩, ?_, by simp only; omega⟩
   exact weak_mk [0, 2, 3, 4, 5] zw1 zw0 zw1 zw5 zw3 rfl rfl
 have hge0 : p.sems.length ≤ k0 := by simpa using g
 have e0 : L0.take k0 = L0 := List.take_of_length_le (by omega)
 obtain ⟨L1, hL1⟩ : ∃ l, l = p.groups.map (fun n => (⟨⟨n, []⟩, ⟨none, 0⟩⟩ : GroupH)) := ⟨_, rfl⟩
 have lenL1 : L1.length = p.groups.length := by rw [hL1]; simp
 refine LoopW.mk ⟨{ q : Nat × Sl // q.1 ≤ p.groups.length },
   fun q => .mk [(1, .p 0 0), (2, .p 1 0), (4, .p 2 0), (61, .v (p.h1.val p.groups.length)), (62, .v (.int .i64 (p.groups.length : Int))), (63, .v (.int .i64 (q.1.1 : Int)))] 3 0 [(0, 26, 5), (1, 35, 9), (2, 35, 9)]
     [((0, 0), .v (p.h0.val p.sems.length)), ((0, 1), .v (p.h1.val p.groups.length)), ((0, 2), .v (p.h2.val p.barriers.length)), ((0, 3), .v (p.h3.val p.rooms.length)), ((0, 4), .v (p.h4.val p.threads.length)), ((2, 0), .v (a.val LP.length)), ((2, 1), .v (s.val LS.length)), ((2, 2), .v (c0.val L0.length)), ((2, 3), .v (y.val 3)), ((2, 4), .v (q.1.2.val (L1.take q.1.1).length)), ((2, 5), .v (.slice none 0 0)), ((2, 6), .v (.slice none 0 0)), ((2, 7), .v (.slice none 0 0)), ((2, 8), .v (.int .i64 0))]
     [own q.1.2 108 cGroupH 2 (L1.take q.1.1), own c0 95 cSemH 3 L0, own a 3 cInt 1 LP, own s 3 cInt 1 LS, own y 102 cOnceH 4 [onceZ, onceZ, onceZ], fR (progO p)],
   fun q => p.groups.length - q.1.1, ⟨(0, ⟨none, 0⟩), Nat.zero_le _⟩, ?_, ?_⟩
 · refine weak_mk [99, 0, 1, 2, 3, 4] ?_ ?_ ?_ ?_ ?_ rfl rfl
   · exact zw27
   · exact zw0
   · exact zw27
   · exact zw5
   · repeat (first | exact trivial | refine ⟨.inl ⟨_, rfl, (by first | rfl | ((first | (rw [e0]; done))))⟩, ?_⟩ | refine ⟨.inr z136, ?_⟩)
 rintro ⟨⟨k1, c1⟩, hk⟩
 simp only at hk
 apply CaseB.mk <;> intro g
 · have hlt : k1 < p.groups.length := by simpa using g
   have e : ∀ x, x = (⟨⟨p.groups[k1], []⟩, ⟨none, 0⟩⟩ : GroupH) → L1.take k1 ++ [x] = L1.take (k1 + 1) := fun x hx => by rw [hL1]; exact map_take_succ hlt rfl hx
   have hw := e_succ k1 _ hlt (by omega)
   refine stop_idx encInt tabOk rfl rfl rfl rfl rfl ⟨rfl, rfl⟩ (rdVia 5 rfl (.ofR (progO_groups p))) k1 rfl z45 (fun ad => ?_)
   refine AllSl.mk fun u => ?_
   refine stop_app encGroupH 1 tabOk (ys := [⟨⟨p.groups[k1], []⟩, ⟨none, 0⟩⟩]) rfl rfl rfl rfl rfl rfl rfl rfl rfl (by decide) ⟨rfl, rfl⟩ rfl z38 z45 z45 (fun c1' => ?_)
   rw [e _ rfl]
   refine ⟨⟨(k1 + 1, c1'), by omega⟩, ?_, by simp only; omega⟩
   exact weak_mk [0, 2, 3, 4, 5, 6] zw1 zw0 zw1 zw5 zw3 rfl rfl
 have hge1 : p.groups.length ≤ k1 := by simpa using g
 have e1 : L1.take k1 = L1 := List.take_of_length_le (by omega)
 obtain ⟨L2, hL2⟩ : ∃ l, l = p.barriers.map (fun n => (⟨⟨n, 0, []⟩, ⟨none, 0⟩⟩ : BarrierH)) := ⟨_, rfl⟩
 have lenL2 : L2.length = p.barriers.length := by rw [hL2]; simp
 refine LoopW.mk ⟨{ q : Nat × Sl // q.1 ≤ p.barriers.length },
   fun q => .mk [(1, .p 0 0), (2, .p 1 0), (4, .p 2 0), (76, .v (p.h2.val p.barriers.length)), (77, .v (.int .i64 (p.barriers.length : Int))), (78, .v (.int .i64 (q.1.1 : Int)))] 3 0 [(0, 26, 5), (1, 35, 9), (2, 35, 9)]
     [((0, 0), .v (p.h0.val p.sems.length)), ((0, 1), .v (p.h1.val p.groups.length)), ((0, 2), .v (p.h2.val p.barriers.length)), ((0, 3), .v (p.h3.val p.rooms.length)), ((0, 4), .v (p.h4.val p.threads.length)), ((2, 0), .v (a.val LP.length)), ((2, 1), .v (s.val LS.length)), ((2, 2), .v (c0.val L0.length)), ((2, 3), .v (y.val 3)), ((2, 4), .v (c1.val L1.length)), ((2, 5), .v (q.1.2.val (L2.take q.1.1).length)), ((2, 6), .v (.slice none 0 0)), ((2, 7), .v (.slice none 0 0)), ((2, 8), .v (.int .i64 0))]
     [own q.1.2 114 cBarrierH 3 (L2.take q.1.1), own c1 108 cGroupH 2 L1, own c0 95 cSemH 3 L0, own a 3 cInt 1 LP, own s 3 cInt 1 LS, own y 102 cOnceH 4 [onceZ, onceZ, onceZ], fR (progO p)],
   fun q => p.barriers.length - q.1.1, ⟨(0, ⟨none, 0⟩), Nat.zero_le _⟩, ?_, ?_⟩
 · exact weak_mk [99, 0, 1, 2, 3, 4, 5] zw16 zw0 zw16 zw5 zw35 rfl rfl
 rintro ⟨⟨k2, c2⟩, hk⟩
 simp only at hk
 apply CaseB.mk <;> intro g
 · have hlt : k2 < p.barriers.length := by simpa using g
   have e : ∀ x, x = (⟨⟨p.barriers[k2], 0, []⟩, ⟨none, 0⟩⟩ : BarrierH) → L2.take k2 ++ [x] = L2.take (k2 + 1) := fun x hx => by rw [hL2]; exact map_take_succ hlt rfl hx
   have hw := e_succ k2 _ hlt (by omega)
   refine stop_idx encInt tabOk rfl rfl rfl rfl rfl ⟨rfl, rfl⟩ (rdVia 6 rfl (.ofR (progO_barriers p))) k2 rfl z45 (fun ad => ?_)
   refine AllSl.mk fun u => ?_
   refine stop_app encBarrierH 1 tabOk (ys := [⟨⟨p.barriers[k2], 0, []⟩, ⟨none, 0⟩⟩]) rfl rfl rfl rfl rfl rfl rfl rfl rfl (by decide) ⟨rfl, rfl⟩ rfl z38 z45 z45 (fun c2' => ?_)
   rw [e _ rfl]
   refine ⟨⟨(k2 + 1, c2'), by omega⟩, ?_, by simp only; omega⟩
   exact weak_mk [0, 2, 3, 4, 5, 6, 7] zw1 zw0 zw1 zw5 zw3 rfl rfl
 have hge2 : p.barriers.length ≤ k2 := by simpa using g
 have e2 : L2.take k2 = L2 := List.take_of_length_le (by omega)
 obtain ⟨L3, hL3⟩ : ∃ l, l = p.rooms.map (fun n => (⟨⟨n, [], [], [], false⟩, ⟨none, 0⟩, ⟨none, 0⟩, ⟨none, 0⟩⟩ : ChanH)) := ⟨_, rfl⟩
 have lenL3 : L3.length = p.rooms.length := by rw [hL3]; simp
 refine LoopW.mk ⟨{ q : Nat × Sl // q.1 ≤ p.rooms.length },
   fun q => .mk [(1, .p 0 0), (2, .p 1 0), (4, .p 2 0), (91, .v (p.h3.val p.rooms.length)), (92, .v (.int .i64 (p.rooms.length : Int))), (93, .v (.int .i64 (q.1.1 : Int)))] 3 0 [(0, 26, 5), (1, 35, 9), (2, 35, 9)]
     [((0, 0), .v (p.h0.val p.sems.length)), ((0, 1), .v (p.h1.val p.groups.length)), ((0, 2), .v (p.h2.val p.barriers.length)), ((0, 3), .v (p.h3.val p.rooms.length)), ((0, 4), .v (p.h4.val p.threads.length)), ((2, 0), .v (a.val LP.length)), ((2, 1), .v (s.val LS.length)), ((2, 2), .v (c0.val L0.length)), ((2, 3), .v (y.val 3)), ((2, 4), .v (c1.val L1.length)), ((2, 5), .v (c2.val L2.length)), ((2, 6), .v (q.1.2.val (L3.take q.1.1).length)), ((2, 7), .v (.slice none 0 0)), ((2, 8), .v (.int .i64 0))]
     [own q.1.2 119 cChanH 5 (L3.take q.1.1), own c2 114 cBarrierH 3 L2, own c1 108 cGroupH 2 L1, own c0 95 cSemH 3 L0, own a 3 cInt 1 LP, own s 3 cInt 1 LS, own y 102 cOnceH 4 [onceZ, onceZ, onceZ], fR (progO p)],
   fun q => p.rooms.length - q.1.1, ⟨(0, ⟨none, 0⟩), Nat.zero_le _⟩, ?_, ?_⟩
 · exact weak_mk [99, 0, 1, 2, 3, 4, 5, 6] zw17 zw0 zw17 zw5 zw36 rfl rfl
 rintro ⟨⟨k3, c3⟩, hk⟩
 simp only at hk
 apply CaseB.mk <;> intro g
 · have hlt : k3 < p.rooms.length := by simpa using g
   have e : ∀ x, x = (⟨⟨p.rooms[k3], [], [], [], false⟩, ⟨none, 0⟩, ⟨none, 0⟩, ⟨none, 0⟩⟩ : ChanH) → L3.take k3 ++ [x] = L3.take (k3 + 1) := fun x hx => by rw [hL3]; exact map_take_succ hlt rfl hx
   have hw := e_succ k3 _ hlt (by omega)
   refine stop_idx encInt tabOk rfl rfl rfl rfl rfl ⟨rfl, rfl⟩ (rdVia 7 rfl (.ofR (progO_rooms p))) k3 rfl z45 (fun ad => ?_)
   refine AllSl.mk fun u => ?_
   refine stop_app encChanH 1 tabOk (ys := [⟨⟨p.rooms[k3], [], [], [], false⟩, ⟨none, 0⟩, ⟨none, 0⟩, ⟨none, 0⟩⟩]) rfl rfl rfl rfl rfl rfl rfl rfl rfl (by decide) ⟨rfl, rfl⟩ rfl z38 z45 z45 (fun c3' => ?_)
   rw [e _ rfl]
   refine ⟨⟨(k3 + 1, c3'), by omega⟩, ?_, by simp only; omega⟩
   exact weak_mk [0, 2, 3, 4, 5, 6, 7, 8] zw1 zw0 zw1 zw5 zw3 rfl rfl
 have hge3 : p.rooms.length ≤ k3 := by simpa using g
 have e3 : L3.take k3 = L3 := List.take_of_length_le (by omega)
 simp only [e3]
 generalize hy : (⟨LP, LS, L0, [onceZ, onceZ, onceZ], L1, L2, L3, [], 0, a, s, c0, y, c1, c2, c3, ⟨none, 0⟩⟩ : StateH) = Y
 have nil0 : ∀ g ∈ L0.flatMap semO, nilFact g := nilOf fun x hx g hg => by
   rw [hL0] at hx; obtain ⟨n, _, rfl⟩ := List.mem_map.1 hx; simp [semO] at hg; subst hg; exact ⟨rfl, rfl, rfl, rfl⟩
 have nil1 : ∀ g ∈ L1.flatMap groupO, nilFact g := nilOf fun x hx g hg => by
   rw [hL1] at hx; obtain ⟨n, _, rfl⟩ := List.mem_map.1 hx; simp [groupO] at hg; subst hg; exact ⟨rfl, rfl, rfl, rfl⟩
 have nil2 : ∀ g ∈ L2.flatMap barrierO, nilFact g := nilOf fun x hx g hg => by
   rw [hL2] at hx; obtain ⟨n, _, rfl⟩ := List.mem_map.1 hx; simp [barrierO] at hg; subst hg; exact ⟨rfl, rfl, rfl, rfl⟩
 have nil3 : ∀ g ∈ L3.flatMap chanO, nilFact g := nilOf fun x hx g hg => by
   rw [hL3] at hx; obtain ⟨n, _, rfl⟩ := List.mem_map.1 hx; simp [chanO] at hg; rcases hg with rfl | rfl | rfl <;> exact ⟨rfl, rfl, rfl, rfl⟩
 have nil4 : ∀ g ∈ [onceZ, onceZ, onceZ].flatMap onceO, nilFact g := nilOf fun x hx g hg => by
   simp at hx; subst hx; simp [onceO, onceZ] at hg; subst hg; exact ⟨rfl, rfl, rfl, rfl⟩
 have nil5 : ∀ g ∈ [own ⟨none, 0⟩ 3 cInt 1 ([] : List Int)], nilFact g := fun g hg => by
   simp at hg; subst hg; exact ⟨rfl, rfl, rfl, rfl⟩
 refine ret_shift (.joinO [4, 5, 3, 90, 6, 91, 2, 92, 1, 93, 0, 94, 95] (Gs := [[_], [_], [_], _, [_], _, [_], _, [_], _, [_], _, _])
   ⟨.inl ⟨_, rfl, .own⟩, .inl ⟨_, rfl, .own⟩, .inl ⟨_, rfl, .own⟩, .inr ⟨Nat.le_of_ble_eq_true rfl, nil0⟩, .inl ⟨_, rfl, .own⟩, .inr ⟨Nat.le_of_ble_eq_true rfl, nil4⟩, .inl ⟨_, rfl, .own⟩, .inr ⟨Nat.le_of_ble_eq_true rfl, nil1⟩, .inl ⟨_, rfl, .own⟩, .inr ⟨Nat.le_of_ble_eq_true rfl, nil2⟩, .inl ⟨_, rfl, .own⟩, .inr ⟨Nat.le_of_ble_eq_true rfl, nil3⟩, .inr ⟨Nat.le_of_ble_eq_true rfl, nil5⟩, trivial⟩ rfl (G := stateO Y) (.of_eq z59)) ?_
 have hYp : Y.pure = start p.pure := by
   rw [← hy]
   simp [StateH.pure, start, ProgH.pure, hLP, hLS, hL0, hL1, hL2, hL3, onceZ]
 exact retw [0] ⟨Y, true, by rw [← hy], tyes ok, fun _ => hYp, fun e => z100, rfl⟩ z140 rfl ⟨rfl, trivial⟩ (fun _ => rfl)
def Sem.small20 (m : Sem) : Prop := m.queue.length ≤ 1048576
def Once.small20 (m : Once) : Prop := m.waits.length ≤ 1048576
def Group.small20 (m : Group) : Prop := m.waits.length ≤ 1048576
def Barrier.small20 (m : Barrier) : Prop := m.waits.length ≤ 1048576
def Chan.small20 (m : Chan) : Prop := m.items.length ≤ 1048576 ∧ m.senders.length ≤ 1048576 ∧ m.getters.length ≤ 1048576
def State.small20 (s : State) : Prop := s.places.length ≤ 1048576 ∧ s.status.length ≤ 1048576 ∧ allS Sem.small20 s.sems ∧ allS Once.small20 s.onces ∧ allS Group.small20 s.groups ∧ allS Barrier.small20 s.barriers ∧ allS Chan.small20 s.chans ∧ s.said.length ≤ 1048576
set_option maxRecDepth 100000 in
theorem szOpS_c (i : Sl) (xs : List Op) (left : Int) (w : World) (h : At w [slo i cOp 3 xs]) (h0 : -1 ≤ left) (h1 : left ≤ 1048576) :
   Calls Tryz.prog 111 #[i.val xs.length, .int .i64 left] w (Ret w fun v L => v = .int .i64 (szN xs.length left) ∧ L = []) := by
 obtain ⟨⟨⟨_, b1, b2, _⟩, _⟩, _⟩ := h
 unfold maxLen at b2
 have e : IntKind.i64.wrap (left - (xs.length : Int)) = left - xs.length := e_wrap (by omega) (by omega)
 refine calls2 Tryz.func111 rfl tabOk w _ rfl _ rfl [] trivial trivial _ _ (by decide) ?_
 refine CaseB.mk (fun h => ?_) (fun h => ?_)
 · rw [e] at h
   have h2 : left - (xs.length : Int) < 0 := by simpa using h
   exact ret0 ⟨by rw [szN, if_pos h2], rfl⟩ (fun _ => rfl)
 · rw [e] at h
   have h2 : ¬ left - (xs.length : Int) < 0 := by simpa using h
   refine ret0 ⟨by rw [szN, if_neg h2], rfl⟩ (fun _ => ?_)
   simp only [resV, SV.den, e]
set_option maxRecDepth 100000 in
theorem toOp_c (x : Op) (w : World) : Calls Tryz.prog 159 #[.agg (cOp x).toArray] w (Ret w fun v L => v = .agg (cOp x).toArray ∧ L = []) := by
 refine calls1 Tryz.func159 rfl tabOk w _ rfl _ rfl [] trivial trivial _ (by decide) ?_
 exact ret0 ⟨rfl, rfl⟩ (fun _ => rfl)
set_option maxRecDepth 100000 in
theorem toOpS_c (i : Sl) (xs : List Op) (w : World) (h : At w [slo i cOp 3 xs]) (hb : xs.length ≤ 1048576) :
   Calls Tryz.prog 112 #[i.val xs.length] w (Ret w fun v L => ∃ y : Sl, v = y.val xs.length ∧ L = [own y 65 cOp 3 xs]) := by
 refine calls1 Tryz.func112 rfl tabOk w _ rfl _ rfl _ h ⟨rfl, rfl, trivial⟩ _ (by decide) ?_
 refine stop_make encOp Op0 tabOk rfl rfl rfl rfl rfl (by decide) ⟨rfl, rfl⟩ xs.length rfl z45 z45 (fun y => ?_)
 refine LoopW.mk ⟨{ k : Nat // k ≤ xs.length },
   fun k => .mk [(0, .v (i.val xs.length)), (3, .v (y.val (xs.take k.1 ++ List.replicate (xs.length - k.1) Op0).length)), (4, .v (.int .i64 (k.1 : Int)))] 0 0 [] [] [own y 65 cOp 3 (xs.take k.1 ++ List.replicate (xs.length - k.1) Op0), slo i cOp 3 xs],
   fun k => xs.length - k.1, ⟨0, Nat.zero_le _⟩, ?_, ?_⟩
 · exact weak_mk [0, 1] zw8 zw0 zw8 zw5 zw26 rfl rfl
 · rintro ⟨k, hk⟩
   refine CaseB.mk (fun h => ?_) (fun h => ?_)
   · have hlt : k < xs.length := by simpa using h
     have hT : (xs.take k ++ List.replicate (xs.length - k) Op0).set k xs[k] = xs.take (k + 1) ++ List.replicate (xs.length - (k + 1)) Op0 := by
       rw [List.set_append_right _ _ z96, List.take_succ_eq_append_getElem hlt, show k - (List.take k xs).length = 0 by simp; omega, show xs.length - k = (xs.length - (k + 1)) + 1 by omega, List.replicate_succ, List.append_assoc]
       rfl
     refine stop_idx encOp tabOk rfl rfl rfl rfl rfl ⟨rfl, rfl⟩ z38 k rfl z45 (fun ad => ?_)
     refine stop_call _ cl159 rfl rfl rfl rfl ⟨rfl, rfl⟩ (fun A w hW => toOp_c _ w) ?_
     rintro v L ⟨rfl, rfl⟩
     refine stop_idxW encOp 0 tabOk rfl rfl rfl rfl rfl ⟨rfl, rfl⟩ rfl z88 k rfl z45 (fun g hg => ?_)
     refine stop_storeW encOp 0 tabOk rfl rfl rfl rfl rfl rfl rfl rfl hg k 0 (xs[k]) rfl z45 rfl (cOp xs[k]) (fun _ => rfl) rfl ?_
     have hw := e_succ k _ hlt (by omega)
     refine ⟨⟨k + 1, by omega⟩, ?_, by simp; omega⟩
     exact weak_mk [0, 1] zw7 zw0 zw7 zw5 zw23 rfl rfl
   · have hge : xs.length ≤ k := by simpa using h
     have hT : xs.take k ++ List.replicate (xs.length - k) Op0 = xs := by rw [List.take_of_length_le hge, show xs.length - k = 0 by omega]; simp
     exact retw [0] ⟨y, rfl, rfl⟩ z141 rfl ⟨rfl, trivial⟩ (fun _ => z83)
set_option maxRecDepth 100000 in
theorem eqOp_c (x y : Op) (w : World) : Calls Tryz.prog 160 #[.agg (cOp x).toArray, .agg (cOp y).toArray] w (Ret w fun v L => v = .bool (decide (x = y)) ∧ L = []) := by
 have hx : ∀ {a b : Op}, a = b ↔ a.kind = b.kind ∧ a.on = b.on ∧ a.arg = b.arg := fun {a b} => ⟨fun h => by subst h; exact ⟨rfl, rfl, rfl⟩, fun h => by cases a; cases b; simp_all⟩
 refine calls2 Tryz.func160 rfl tabOk w _ rfl _ rfl [] trivial trivial _ _ (by decide) ?_
 refine CaseB.mk (fun h0 => ?_) (fun h0 => ?_)
 · have g : ¬ x = y := fun e => by subst e; simp at h0
   exact ret0 ⟨by simp [g], rfl⟩ (fun _ => rfl)
 refine CaseB.mk (fun h1 => ?_) (fun h1 => ?_)
 · have g : ¬ x = y := fun e => by subst e; simp at h1
   exact ret0 ⟨by simp [g], rfl⟩ (fun _ => rfl)
 refine CaseB.mk (fun h2 => ?_) (fun h2 => ?_)
 · have g : ¬ x = y := fun e => by subst e; simp at h2
   exact ret0 ⟨by simp [g], rfl⟩ (fun _ => rfl)
 · have g : x = y := hx.2 ⟨by simpa using h0, by simpa using h1, by simpa using h2⟩
   exact ret0 ⟨by simp [g], rfl⟩ (fun _ => rfl)
set_option maxRecDepth 100000 in
theorem eqOpS_c (i j : Sl) (xs ys : List Op) (w : World) (h : At w [slo i cOp 3 xs, slo j cOp 3 ys]) (hb : xs.length ≤ 4294967296) (hb2 : ys.length ≤ 4294967296) :
   Calls Tryz.prog 114 #[i.val xs.length, j.val ys.length] w (Ret w fun v L => v = .bool (decide (xs = ys)) ∧ L = []) := by
 refine calls2 Tryz.func114 rfl tabOk w _ rfl _ rfl _ h ⟨rfl, rfl, rfl, rfl, trivial⟩ _ _ (by decide) ?_
 refine CaseB.mk (fun h => ?_) (fun h => ?_)
 · have hne : xs ≠ ys := by rintro rfl; simp at h
   refine ret0 ⟨?_, rfl⟩ (fun _ => rfl)
   simp [hne]
 · have hl : xs.length = ys.length := by simp at h; omega
   refine LoopW.mk ⟨{ k : Nat // k ≤ xs.length ∧ xs.take k = ys.take k },
     fun p => .mk [(0, .v (i.val xs.length)), (1, .v (j.val ys.length)), (5, .v (.int .i64 p.1))] 0 0 [] [] [slo i cOp 3 xs, slo j cOp 3 ys],
     fun p => xs.length - p.1, ⟨0, Nat.zero_le _, rfl⟩, ?_, ?_⟩
   · exact weak_mk [0, 1] zw2 zw0 zw2 zw5 zw4 rfl rfl
   · rintro ⟨k, hk, he⟩
     refine CaseB.mk (fun h => ?_) (fun h => ?_)
     · have hlt : k < xs.length := by simpa using h
       have hlt2 : k < ys.length := by omega
       obtain ⟨q1, q2⟩ := e_take he hlt hlt2
       refine draw_start tabOk z97 z97 z97 200 [] [0, 1] [_, _] trivial trivial ⟨rfl, rfl, trivial⟩ rfl ?_
       refine d_idx (ti := tiOf tab) encOp tabOk rfl rfl rfl rfl rfl ⟨rfl, rfl⟩ z38 k rfl z45 (fun ad => ?_)
       refine d_idx (ti := tiOf tab) encOp tabOk rfl rfl rfl rfl rfl ⟨rfl, rfl⟩ z38 k rfl z45 (fun ad2 => ?_)
       refine d_call _ cl160 rfl rfl rfl rfl ⟨rfl, rfl⟩ (fun A w hW => eqOp_c _ _ w) ?_
       rintro v L ⟨rfl, rfl⟩
       refine CaseB.mk (fun h => ?_) (fun h => ?_)
       · have hne := q2 z91
         refine ret0 ⟨?_, rfl⟩ (fun _ => rfl)
         simp [hne]
       · have heq := q1 z91
         have hw := e_succ k _ hlt (by omega)
         refine ⟨⟨k + 1, by omega, heq⟩, ?_, by simp; omega⟩
         exact weak_mk [0, 1] zw1 zw0 zw1 zw5 zw3 rfl rfl
     · have hge : xs.length ≤ k := by simpa using h
       have heq : xs = ys := by rw [List.take_of_length_le hge, List.take_of_length_le (by omega)] at he; exact he
       refine ret0 ⟨?_, rfl⟩ (fun _ => rfl)
       simp [heq]
def markOp (k : Nat) : Op := ⟨((k : Nat) : Int), ((k + 1 : Nat) : Int), ((k + 2 : Nat) : Int)⟩
def marksOp (k : Nat) : Nat → List Op
 | 0 => []
 | n + 1 => markOp k :: marksOp (k + 3) n
theorem marksOp_len (k n : Nat) : (marksOp k n).length = n := by
 induction n generalizing k with
 | zero => rfl
 | succ n ih => simp [marksOp, ih]
theorem marksOp_get (k n j : Nat) (hj : j < n) : (marksOp k n)[j]? = some (markOp (k + 3 * j)) := by
 induction n generalizing k j with
 | zero => omega
 | succ n ih =>
   cases j with
   | zero => simp [marksOp]
   | succ j => simp only [marksOp, List.getElem?_cons_succ]; rw [ih (k + 3) j (by omega)]; congr 2; omega
theorem marksOp_set (xs : List Op) (k j : Nat) (hj : j < xs.length) : (marksOp k j ++ xs.drop j).set j (markOp (k + 3 * j)) = marksOp k (j + 1) ++ xs.drop (j + 1) := by
 have h1 : marksOp k (j + 1) = marksOp k j ++ [markOp (k + 3 * j)] := by
   apply List.ext_getElem?
   intro q
   rcases Nat.lt_or_ge q j with hq | hq
   · rw [List.getElem?_append_left (by rw [marksOp_len]; exact hq), marksOp_get _ _ _ hq, marksOp_get _ _ _ (by omega)]
   · rcases Nat.eq_or_lt_of_le hq with rfl | hq
     · rw [marksOp_get _ _ _ (by omega), List.getElem?_append_right (by rw [marksOp_len]; exact Nat.le_refl _), marksOp_len]; simp
     · rw [List.getElem?_eq_none (by rw [marksOp_len]; omega), List.getElem?_eq_none (by simp [marksOp_len]; omega)]
 rw [List.set_append_right _ _ (by rw [marksOp_len]; exact Nat.le_refl _), marksOp_len, Nat.sub_self, List.drop_eq_getElem_cons hj, h1, List.append_assoc]
 rfl
set_option maxHeartbeats 4000000 in
set_option maxRecDepth 100000 in
theorem markOpS_c (i : Sl) (xs : List Op) (k : Nat) (w : World) (h : AtG w [own i 65 cOp 3 xs] []) (hb : xs.length ≤ 1048576) (hk : k ≤ 1152921504606846976) :
   Calls Tryz.prog 115 #[i.val xs.length, .int .i64 (k : Int)] w (RetG w [own i 65 cOp 3 xs] fun v L => v = .int .i64 ((k + 3 * xs.length : Nat) : Int) ∧ L = [own i 65 cOp 3 (marksOp k xs.length)]) := by
 refine callsG_fn Tryz.func115 rfl tabOk w _ rfl _ rfl _ _ h trivial _ _ rfl rfl ?_
 refine LoopW.mk ⟨{ j : Nat // j ≤ xs.length },
   fun j => .mk [(0, .v (i.val (marksOp k j.1 ++ xs.drop j.1).length)), (1, .v (.int .i64 ((k + 3 * j.1 : Nat) : Int))), (5, .v (.int .i64 (j.1 : Int)))] 0 0 [] [] [own i 65 cOp 3 (marksOp k j.1 ++ xs.drop j.1)],
   fun j => xs.length - j.1, ⟨0, Nat.zero_le _⟩, ?_, ?_⟩
 · refine weak_mk [0] ?_ ?_ ?_ ?_ ?_ rfl rfl
   · exact zw28
   · exact zw0
   · exact zw28
   · exact zw5
   · repeat (first | exact trivial | refine ⟨.inl ⟨_, rfl, (by first | rfl | ((simp [marksOp])))⟩, ?_⟩ | refine ⟨.inr z136, ?_⟩)
 · rintro ⟨j, hj⟩
   have hl : (marksOp k j ++ xs.drop j).length = xs.length := by rw [List.length_append, marksOp_len, List.length_drop]; omega
   refine CaseB.mk (fun h => ?_) (fun h => ?_)
   · have hlt : j < xs.length := by simp only [hl] at h; simpa using h
     have hT := marksOp_set xs k j hlt
     have hw := e_succ j _ hlt (by omega)
     have hl2 := Nat.lt_of_lt_of_eq hlt hl.symm
     generalize hq : (marksOp k j ++ xs.drop j) = Q at hl hT hl2
     have hw0 : IntKind.i64.wrap (((k + 3 * j : Nat) : Int) + 1) = ((k + 3 * j + 1 : Nat) : Int) := e_succ (k + 3 * j) (k + 3 * xs.length) (by omega) (by omega)
     have hw1 : IntKind.i64.wrap (((k + 3 * j + 1 : Nat) : Int) + 1) = ((k + 3 * j + 2 : Nat) : Int) := e_succ (k + 3 * j + 1) (k + 3 * xs.length) (by omega) (by omega)
     have hw2 : IntKind.i64.wrap (((k + 3 * j + 2 : Nat) : Int) + 1) = ((k + 3 * j + 3 : Nat) : Int) := e_succ (k + 3 * j + 2) (k + 3 * xs.length) (by omega) (by omega)
     have hwf : IntKind.i64.wrap (IntKind.i64.wrap (IntKind.i64.wrap (((k + 3 * j : Nat) : Int) + 1) + 1) + 1) = ((k + 3 * (j + 1) : Nat) : Int) := by rw [hw0, hw1, hw2]; congr 1
     refine stop_idxW encOp 0 tabOk rfl rfl rfl rfl rfl ⟨rfl, rfl⟩ rfl z88 j rfl hl2 (fun g0 hg0 => ?_)
     refine stop_fldW tabOk rfl rfl rfl rfl ⟨rfl, rfl⟩ ?_
     refine stop_storeW encOp 0 tabOk rfl rfl rfl rfl rfl rfl rfl rfl hg0 j 0 (⟨((k + 3 * j : Nat) : Int), Q[j].on, Q[j].arg⟩ : Op) rfl hl2 rfl [.int .i64 ((k + 3 * j : Nat) : Int)] (fun _ => rfl) (by simp [cOp]) ?_
     refine stop_idxW encOp 0 tabOk rfl rfl rfl rfl rfl ⟨rfl, rfl⟩ rfl z88 j rfl (by simpa using hl2) (fun g1 hg1 => ?_)
     refine stop_fldW tabOk rfl rfl rfl rfl ⟨rfl, rfl⟩ ?_
     refine stop_storeW encOp 0 tabOk rfl rfl rfl rfl rfl rfl rfl rfl hg1 j 1 (⟨((k + 3 * j : Nat) : Int), ((k + 3 * j + 1 : Nat) : Int), Q[j].arg⟩ : Op) rfl (by simpa using hl2) rfl [.int .i64 ((k + 3 * j + 1 : Nat) : Int)] (fun _ => by simp only [List.map_cons, List.map_nil, SV.den, hw0]) (by simp [cOp]) ?_
     refine stop_idxW encOp 0 tabOk rfl rfl rfl rfl rfl ⟨rfl, rfl⟩ rfl z88 j rfl (by simpa using hl2) (fun g2 hg2 => ?_)
     refine stop_fldW tabOk rfl rfl rfl rfl ⟨rfl, rfl⟩ ?_
     refine stop_storeW encOp 0 tabOk rfl rfl rfl rfl rfl rfl rfl rfl hg2 j 2 (⟨((k + 3 * j : Nat) : Int), ((k + 3 * j + 1 : Nat) : Int), ((k + 3 * j + 2 : Nat) : Int)⟩ : Op) rfl (by simpa using hl2) rfl [.int .i64 ((k + 3 * j + 2 : Nat) : Int)] (fun _ => by simp only [List.map_cons, List.map_nil, SV.den, hw0, hw1]) (by simp [cOp]) ?_
     have hT2 : (((Q.set j (⟨((k + 3 * j : Nat) : Int), Q[j].on, Q[j].arg⟩ : Op)).set j (⟨((k + 3 * j : Nat) : Int), ((k + 3 * j + 1 : Nat) : Int), Q[j].arg⟩ : Op)).set j (⟨((k + 3 * j : Nat) : Int), ((k + 3 * j + 1 : Nat) : Int), ((k + 3 * j + 2 : Nat) : Int)⟩ : Op)) = marksOp k (j + 1) ++ xs.drop (j + 1) := by simp only [List.set_set]; exact hT
     refine ⟨⟨j + 1, by omega⟩, ?_, by simp; omega⟩
     refine weak_mk [0] ?_ ?_ ?_ ?_ ?_ rfl rfl
     · exact zw12
     · exact zw0
     · exact zw12
     · exact zw5
     · repeat (first | exact trivial | refine ⟨.inl ⟨_, rfl, (by first | rfl | ((first | (rw [hT2]; done) | (simp only [hT2]; done) | exact congrArg (fun z => SV.v (Value.int .i64 z)) hw | exact congrArg (fun z => SV.v (Value.int .i64 z)) hwf | (rw [← hT2]; simp; done) | (simp only [← hT2, List.length_set]; done))))⟩, ?_⟩ | refine ⟨.inr z136, ?_⟩)
   · have hge : xs.length ≤ j := by simp only [hl] at h; simpa using h
     have hje : j = xs.length := by omega
     have hT : marksOp k j ++ xs.drop j = marksOp k xs.length := by rw [hje]; simp
     exact retG [0] ⟨rfl, rfl⟩ ⟨.inl ⟨_, rfl, z58⟩, trivial⟩ rfl ⟨rfl, trivial⟩ (fun _ => z58)
def OpS.small20 (m : List Op) : Prop := m.length ≤ 1048576
def szOpSM (m : List Op) (left : Int) : Int := szN m.length left
theorem szOpSM_gen (m : List Op) (l : Int) (hl : l ≤ 1048576) (h : ¬ szOpSM m l < 0) : OpS.small20 m ∧ szOpSM m l ≤ l := szN_gen hl h
set_option maxRecDepth 100000 in
theorem szOpSS_c (h : Sl) (xs : List OpSH) (left : Int) (w : World) (hh : At w [fR (threadsO h xs)]) (h0 : -1 ≤ left) (h1 : left ≤ 1048576) :
   Calls Tryz.prog 52 #[h.val xs.length, .int .i64 left] w (Ret w fun v L => v = .int .i64 (szAll szOpSM (xs.map (·.m)) left) ∧ L = []) := by
 have hrd := (Rd.ofR (nest_h (xs := xs))).p w hh.1.1
 obtain ⟨_, b1, b2, _⟩ := hrd
 unfold maxLen at b2
 have e : IntKind.i64.wrap (left - (xs.length : Int)) = left - xs.length := e_wrap (by omega) (by omega)
 refine calls2 Tryz.func52 rfl tabOk w _ rfl _ rfl _ hh ⟨rfl, rfl, trivial⟩ _ _ (by decide) ?_
 apply CaseB.mk <;> intro g
 · rw [e] at g
   have g2 : left - (xs.length : Int) < 0 := by simpa using g
   exact ret0 ⟨by simp [szAll, g2], rfl⟩ (fun _ => rfl)
 · rw [e] at g
   have g2 : ¬ left - (xs.length : Int) < 0 := by simpa using g
   refine LoopW.mk ⟨{ p : Nat × Int // p.1 ≤ xs.length ∧ szList szOpSM ((xs.map (·.m)).drop p.1) p.2 = szAll szOpSM (xs.map (·.m)) left ∧ -1 ≤ p.2 ∧ p.2 ≤ 1048576 },
     fun p => .mk [(0, .v (h.val xs.length)), (1, .v (.int .i64 p.1.2)), (5, .v (.int .i64 (p.1.1 : Int)))] 0 0 [] [] [fR (threadsO h xs)],
     fun p => xs.length - p.1.1, ⟨(0, left - xs.length), Nat.zero_le _, by simp [szAll, g2], by omega, by omega⟩, ?_, ?_⟩
   · refine weak_mk [0] ?_ ?_ ?_ ?_ ?_ rfl rfl
     · exact zw29
     · exact zw0
     · exact zw29
     · exact zw5
     · repeat (first | exact trivial | refine ⟨.inl ⟨_, rfl, (by first | rfl | ((simp only [e])))⟩, ?_⟩ | refine ⟨.inr z136, ?_⟩)
   · rintro ⟨⟨k, l⟩, hk, hl, hl0, hl1⟩
     simp only at hk hl hl0 hl1
     refine CaseB.mk (fun g3 => ?_) (fun g3 => ?_)
     · have hlt : k < xs.length := by simpa using g3
       rw [List.drop_eq_getElem_cons (by simpa using hlt)] at hl
       simp only [szList, List.getElem_map] at hl
       refine stop_idx encOpSH tabOk rfl rfl rfl rfl rfl ⟨rfl, rfl⟩ (rdVia 0 rfl (.ofR nest_h)) k rfl z45 (fun ad => ?_)
       refine stop_call _ cl111 rfl rfl rfl rfl ⟨rfl, rfl⟩ (fun A w hW => szOpS_c _ _ _ w ⟨hW.get 0 rfl (.ofR (threadsO_0 h xs k hlt)), trivial⟩ hl0 hl1) ?_
       rintro v L ⟨rfl, rfl⟩
       refine CaseB.mk (fun g4 => ?_) (fun g4 => ?_)
       · have q : szOpSM xs[k].m l < 0 := by unfold szOpSM; simpa using g4
         rw [if_pos q] at hl
         exact ret0 ⟨by rw [← hl], rfl⟩ (fun _ => rfl)
       · have q : ¬ szOpSM xs[k].m l < 0 := by unfold szOpSM; simpa using g4
         rw [if_neg q] at hl
         have q2 := (szOpSM_gen xs[k].m l hl1 q).2
         have hw := e_succ k _ hlt (by omega)
         refine ⟨⟨(k + 1, szOpSM xs[k].m l), hlt, hl, by omega, by omega⟩, ?_, by simp only; omega⟩
         exact weak_mk [0] zw1 zw0 zw1 zw5 zw3 rfl rfl
     · have hge : xs.length ≤ k := by simpa using g3
       rw [List.drop_eq_nil_of_le z90] at hl
       exact ret0 ⟨congrArg (Value.int .i64) hl, rfl⟩ (fun _ => rfl)
def OpSH0 : OpSH := ⟨[], ⟨none, 0⟩⟩
set_option maxRecDepth 100000 in
theorem toOpSS_c (h : Sl) (xs : List OpSH) (w : World) (hh : At w [fR (threadsO h xs)]) (hl : xs.length ≤ 1048576) (hb : ∀ x ∈ xs, OpS.small20 x.m) :
   Calls Tryz.prog 55 #[h.val xs.length] w (Ret w fun v L => ∃ (y : Sl) (ys : List OpSH), v = y.val ys.length ∧ ys.map (·.m) = xs.map (·.m) ∧ L = [fO (threadsO y ys)]) := by
 refine calls1 Tryz.func55 rfl tabOk w _ rfl _ rfl _ hh ⟨rfl, rfl, trivial⟩ _ (by decide) ?_
 refine stop_make encOpSH OpSH0 tabOk rfl rfl rfl rfl rfl (by decide) ⟨rfl, rfl⟩ xs.length rfl z45 z45 (fun y => ?_)
 refine LoopW.mk ⟨{ p : Nat × List OpSH // p.1 ≤ xs.length ∧ p.2.map (·.m) = (xs.map (·.m)).take p.1 },
   fun p => .mk [(0, .v (h.val xs.length)), (3, .v (y.val (p.1.2 ++ List.replicate (xs.length - p.1.1) OpSH0).length)), (4, .v (.int .i64 (p.1.1 : Int)))] 0 0 [] [] [own y 68 cOpSH 1 (p.1.2 ++ List.replicate (xs.length - p.1.1) OpSH0), fO (p.1.2.flatMap opSO), fR (threadsO h xs)],
   fun p => xs.length - p.1.1, ⟨(0, []), Nat.zero_le _, by simp⟩, ?_, ?_⟩
 · refine weak_shift (.joinO [] (Gs := []) trivial rfl (.refl _)) ?_
   exact weak_mk [1, 0, 2] zw8 zw0 zw8 zw5 zw26 rfl rfl
 · rintro ⟨⟨k, ys⟩, hk, hy⟩
   simp only at hk hy
   have hyl : ys.length = k := by have := congrArg List.length hy; simp at this; omega
   apply CaseB.mk <;> intro g
   · have hlt : k < xs.length := by simpa using g
     have hlt2 : k < (ys ++ List.replicate (xs.length - k) OpSH0).length := by simp; omega
     refine stop_idx encOpSH tabOk rfl rfl rfl rfl rfl ⟨rfl, rfl⟩ (rdVia 2 rfl (.ofR nest_h)) k rfl z45 (fun ad => ?_)
     refine stop_call _ cl112 rfl rfl rfl rfl ⟨rfl, rfl⟩ (fun A w hW => toOpS_c _ _ w ⟨hW.get 2 rfl (.ofR (threadsO_0 h xs k hlt)), trivial⟩ (hb _ (List.getElem_mem hlt))) ?_
     rintro v L ⟨y0, rfl, rfl⟩
     generalize hx : (⟨xs[k].m, y0⟩ : OpSH) = x
     have hxm : x.m = xs[k].m := by rw [← hx]
     have hT : (ys ++ List.replicate (xs.length - k) OpSH0).set k x = (ys ++ [x]) ++ List.replicate (xs.length - (k + 1)) OpSH0 := by
       rw [List.set_append_right _ _ (by omega), show k - ys.length = 0 by omega, show xs.length - k = (xs.length - (k + 1)) + 1 by omega, List.replicate_succ, List.append_assoc]
       rfl
     generalize hq : (ys ++ List.replicate (xs.length - k) OpSH0) = Q at hT hlt2
     refine stop_idxW encOpSH 1 tabOk rfl rfl rfl rfl rfl ⟨rfl, rfl⟩ rfl z88 k rfl hlt2 (fun g1 hg1 => ?_)
     refine stop_storeW encOpSH 1 tabOk rfl rfl rfl rfl rfl rfl rfl rfl hg1 k 0 x rfl hlt2 rfl (cOpSH x) (fun _ => by rw [← hx]; rfl) z75 ?_
     have hw := e_succ k _ hlt (by omega)
     refine ⟨⟨(k + 1, ys ++ [x]), hlt, by rw [List.map_append]; exact map_take_succ hlt hy hxm⟩, ?_, by simp only; omega⟩
     refine weak_shift (.joinO [1, 2] (Gs := [[_], _]) z132 rfl (G := (ys ++ [x]).flatMap opSO) (by subst hx; rw [List.flatMap_append]; exact (List.Perm.of_eq (by simp [opSO])).trans List.perm_append_comm)) ?_
     exact weak_mk [1, 0, 2] zw7 zw0 zw7 zw5 zw23 rfl rfl
   · have hge : xs.length ≤ k := by simpa using g
     have hT : ys ++ List.replicate (xs.length - k) OpSH0 = ys := by rw [show xs.length - k = 0 by omega]; simp
     simp only [hT]
     refine ret_shift (.joinO [0, 1] (Gs := [[_], _]) z132 rfl (G := threadsO y ys) (.of_eq (by simp [threadsO, nestO]))) ?_
     exact retw [0] ⟨y, ys, rfl, by rw [hy, List.take_of_length_le z90], rfl⟩ z140 rfl ⟨rfl, trivial⟩ (fun _ => rfl)
set_option maxRecDepth 100000 in
theorem eqOpSS_c (h h2 : Sl) (xs ys : List OpSH) (w : World) (hh : At w [fR (threadsO h xs), fR (threadsO h2 ys)]) (hl : xs.length ≤ 1048576) (hb : ∀ x ∈ xs, OpS.small20 x.m) (hb2 : ∀ x ∈ ys, OpS.small20 x.m) :
   Calls Tryz.prog 59 #[h.val xs.length, h2.val ys.length] w (Ret w fun v L => v = .bool (decide (xs.map (·.m) = ys.map (·.m))) ∧ L = []) := by
 refine calls2 Tryz.func59 rfl tabOk w _ rfl _ rfl _ hh ⟨rfl, rfl, rfl, rfl, trivial⟩ _ _ (by decide) ?_
 apply CaseB.mk <;> intro g
 · have hne : xs.map (·.m) ≠ ys.map (·.m) := fun e => by
     have := congrArg List.length e
     simp at this g
     omega
   refine ret0 ⟨?_, rfl⟩ (fun _ => rfl)
   simp [hne]
 · have hll : xs.length = ys.length := by simp at g; omega
   refine LoopW.mk ⟨{ k : Nat // k ≤ xs.length ∧ (xs.map (·.m)).take k = (ys.map (·.m)).take k },
     fun p => .mk [(0, .v (h.val xs.length)), (1, .v (h2.val ys.length)), (5, .v (.int .i64 p.1))] 0 0 [] [] [fR (threadsO h xs), fR (threadsO h2 ys)],
     fun p => xs.length - p.1, ⟨0, Nat.zero_le _, rfl⟩, ?_, ?_⟩
   · exact weak_mk [0, 1] zw2 zw0 zw2 zw5 zw4 rfl rfl
   · rintro ⟨k, hk, he⟩
     refine CaseB.mk (fun g2 => ?_) (fun g2 => ?_)
     · have hlt : k < xs.length := by simpa using g2
       have hlt2 : k < ys.length := by omega
       obtain ⟨q1, q2⟩ := take_eq_succ he (by simpa using hlt) (by simpa using hlt2)
       simp only [List.getElem_map] at q1 q2
       refine draw_start tabOk z97 z97 z97 200 [] [0, 1] [_, _] trivial trivial ⟨rfl, rfl, trivial⟩ rfl ?_
       refine d_idx (ti := tiOf tab) encOpSH tabOk rfl rfl rfl rfl rfl ⟨rfl, rfl⟩ (rdVia 0 rfl (.ofR nest_h)) k rfl z45 (fun ad => ?_)
       refine d_idx (ti := tiOf tab) encOpSH tabOk rfl rfl rfl rfl rfl ⟨rfl, rfl⟩ (rdVia 1 rfl (.ofR nest_h)) k rfl z45 (fun ad2 => ?_)
       refine d_call _ cl114 rfl rfl rfl rfl ⟨rfl, rfl⟩ (fun A w hW => eqOpS_c _ _ _ _ w ⟨hW.get 0 rfl (.ofR (threadsO_0 h xs k hlt)), hW.get 1 rfl (.ofR (threadsO_0 h2 ys k hlt2)), trivial⟩ (Nat.le_trans (hb _ (List.getElem_mem hlt)) (by decide)) (Nat.le_trans (hb2 _ (List.getElem_mem hlt2)) (by decide))) ?_
       rintro v L ⟨rfl, rfl⟩
       refine CaseB.mk (fun g3 => ?_) (fun g3 => ?_)
       · have hne := q2 (by simpa using g3)
         refine ret0 ⟨?_, rfl⟩ (fun _ => rfl)
         simp [hne]
       · have heq := q1 (by simpa using g3)
         have hw := e_succ k _ hlt (by omega)
         refine ⟨⟨k + 1, by omega, heq⟩, ?_, by simp; omega⟩
         exact weak_mk [0, 1] zw1 zw0 zw1 zw5 zw3 rfl rfl
     · have hge : xs.length ≤ k := by simpa using g2
       have heq : xs.map (·.m) = ys.map (·.m) := by rw [List.take_of_length_le z90, List.take_of_length_le z96] at he; exact he
       refine ret0 ⟨?_, rfl⟩ (fun _ => rfl)
       simp [heq]
end Go.Proofs.YtijmjecehppbfaaGreat
