/- FnExactStepThread: texts that its proof stands on, part 4. -/
import Derived.Test.YtklclbcckjhdpaaGreatQExactStepThreadc
namespace Go.Proofs.YtklclbcckjhdpaaGreat
open Go Go.Sx Go.RowKit
def within (xs : List Int) (lo hi : Int) : Prop := xs.length ≤ 3 ∧ ∀ x ∈ xs, lo ≤ x ∧ x ≤ hi
def Prog.shared (p : Prog) (k : Int) : Int := if k = 1 then 1 else if k = 2 ∨ k = 3 then p.sems.length else if k = 4 then 3 else if k = 5 ∨ k = 6 then p.groups.length else if k = 7 then p.barriers.length else p.rooms.length
def Prog.argOk (p : Prog) (o : Op) : Prop := if o.kind = 2 ∨ o.kind = 3 then 1 ≤ o.arg ∧ o.arg ≤ p.sems.getD o.on.toNat 0 else if o.kind = 5 then -9 ≤ o.arg ∧ o.arg ≤ 9 else if o.kind = 1 ∨ o.kind = 4 ∨ o.kind = 8 then isValue o.arg = true else o.arg = 0
def OpOk (p : Prog) (o : Op) : Prop := 1 ≤ o.kind ∧ o.kind ≤ 10 ∧ 0 ≤ o.on ∧ o.on < p.shared o.kind ∧ p.argOk o
structure ProgOk (p : Prog) : Prop where
 sems : within p.sems 1 9
 groups : within p.groups 0 9
 barriers : within p.barriers 1 6
 rooms : within p.rooms 0 4
 n1 : 1 ≤ p.threads.length
 n4 : p.threads.length ≤ 4
 ops : ∀ t ∈ p.threads, t.length ≤ 8 ∧ ∀ o ∈ t, OpOk p o
theorem opOk1 {p : Prog} {o : Op} (h : o.kind = 1) : OpOk p o ↔ o.on = 0 ∧ isValue o.arg = true := by
 simp only [OpOk, Prog.shared, Prog.argOk, h]; by_cases hv : isValue o.arg = true <;> simp [hv] <;> omega
theorem opOk2 {p : Prog} {o : Op} (h : o.kind = 2 ∨ o.kind = 3) : OpOk p o ↔ (0 ≤ o.on ∧ o.on < p.sems.length) ∧ 1 ≤ o.arg ∧ o.arg ≤ p.sems.getD o.on.toNat 0 := by
 rcases h with h | h <;> simp only [OpOk, Prog.shared, Prog.argOk, h] <;> simp <;> omega
theorem opOk4 {p : Prog} {o : Op} (h : o.kind = 4) : OpOk p o ↔ 0 ≤ o.on ∧ o.on ≤ 2 ∧ isValue o.arg = true := by
 simp only [OpOk, Prog.shared, Prog.argOk, h]; by_cases hv : isValue o.arg = true <;> simp [hv] <;> omega
theorem opOk5 {p : Prog} {o : Op} (h : o.kind = 5) : OpOk p o ↔ (0 ≤ o.on ∧ o.on < p.groups.length) ∧ -9 ≤ o.arg ∧ o.arg ≤ 9 := by
 simp only [OpOk, Prog.shared, Prog.argOk, h]; simp; omega
theorem opOk6 {p : Prog} {o : Op} (h : o.kind = 6) : OpOk p o ↔ (0 ≤ o.on ∧ o.on < p.groups.length) ∧ o.arg = 0 := by
 simp only [OpOk, Prog.shared, Prog.argOk, h]; simp; omega
theorem opOk7 {p : Prog} {o : Op} (h : o.kind = 7) : OpOk p o ↔ (0 ≤ o.on ∧ o.on < p.barriers.length) ∧ o.arg = 0 := by
 simp only [OpOk, Prog.shared, Prog.argOk, h]; simp; omega
theorem opOk8 {p : Prog} {o : Op} (h : o.kind = 8) : OpOk p o ↔ (0 ≤ o.on ∧ o.on < p.rooms.length) ∧ isValue o.arg = true := by
 simp only [OpOk, Prog.shared, Prog.argOk, h]; by_cases hv : isValue o.arg = true <;> simp [hv] <;> omega
theorem opOk9 {p : Prog} {o : Op} (h : o.kind = 9 ∨ o.kind = 10) : OpOk p o ↔ (0 ≤ o.on ∧ o.on < p.rooms.length) ∧ o.arg = 0 := by
 rcases h with h | h <;> simp only [OpOk, Prog.shared, Prog.argOk, h] <;> simp <;> omega
theorem opOk0 {p : Prog} {o : Op} (h : o.kind < 1 ∨ 10 < o.kind) : ¬ OpOk p o := fun e => by
 obtain ⟨h1, h2, _⟩ := e; omega
theorem tno {P : Prop} (h : ¬ P) : false = true ↔ P := ⟨fun e => z111, fun e => (h e).elim⟩
theorem tyes {P : Prop} (h : P) : true = true ↔ P := ⟨fun _ => h, fun _ => rfl⟩
abbrev Tells (w : World) (P : Prop) : Ending → World → Prop := Ret w fun v L => ∃ b : Bool, v = .bool b ∧ (b = true ↔ P) ∧ L = []
set_option maxRecDepth 100000 in
theorem indexFunc_c {fv : FuncId} {cap : Array Value} {G : List Fct} {q : Int → Bool} (hcl : callable Tryz.prog fv = true) (hc : ∀ x w, At w [fB true G] → Calls Tryz.prog fv ([Value.int .i64 x] ++ cap.toList).toArray w (Ret w fun v L => v = .bool (q x) ∧ L = []))
   (i : Sl) (xs : List Int) (w : World) (h : At w [slo i cInt 1 xs, fB true G]) (hb : xs.length ≤ 4294967296) :
   Calls Tryz.prog 202 #[i.val xs.length, .func (.func fv) #[] cap] w (Ret w fun v L => ∃ k : Int, v = .int .i64 k ∧ (0 ≤ k ↔ ∃ x ∈ xs, q x = true) ∧ L = []) := by
 refine calls2 Tryz.func202 rfl tabOk w _ rfl _ rfl _ h ⟨rfl, rfl, rfl, rfl, trivial⟩ _ _ (by decide) ?_
 refine LoopW.mk ⟨{ k : Nat // k ≤ xs.length ∧ ∀ x ∈ xs.take k, ¬ q x = true },
   fun p => .mk [(0, .v (i.val xs.length)), (1, .v (.func (.func fv) #[] cap)), (7, .v (.int .i64 xs.length)), (8, .v (.int .i64 p.1))] 0 0 [] [] [slo i cInt 1 xs, fB true G],
   fun p => xs.length - p.1, ⟨0, Nat.zero_le _, by simp⟩, ?_, ?_⟩
 · exact weak_mk [0, 1] zw2 zw0 zw2 zw5 zw4 rfl rfl
 · rintro ⟨k, hk, he⟩
   refine CaseB.mk (fun h => ?_) (fun h => ?_)
   · have hlt : k < xs.length := by simpa using h
     refine stop_idx encInt tabOk rfl rfl rfl rfl rfl ⟨rfl, rfl⟩ z40 k rfl z47 (fun ad => ?_)
     refine stop_callV _ hcl rfl rfl rfl rfl ⟨rfl, rfl⟩ (fun A w hW => hc _ w ⟨hW.get 1 rfl (.refl _), trivial⟩) ?_
     rintro v L ⟨rfl, rfl⟩
     refine CaseB.mk (fun h => ?_) (fun h => ?_)
     · exact ret0 ⟨(k : Int), rfl, ⟨fun _ => ⟨xs[k], List.getElem_mem hlt, h⟩, fun _ => Int.natCast_nonneg k⟩, rfl⟩ (fun _ => rfl)
     · have hw := wrapN k _ hlt hb
       refine ⟨⟨k + 1, by omega, fun x hx => ?_⟩, ?_, by simp; omega⟩
       · rw [List.take_succ_eq_append_getElem hlt] at hx
         rcases List.mem_append.1 hx with hx | hx
         · exact he x hx
         · simp at hx; subst hx; simpa using h
       · exact weak_mk [0, 1] zw1 zw0 zw1 zw5 zw3 rfl rfl
   · have hge : xs.length ≤ k := by simpa using h
     rw [List.take_of_length_le hge] at he
     exact ret0 ⟨-1, rfl, ⟨fun h => by omega, fun ⟨x, hx, hq⟩ => (he x hx hq).elim⟩, rfl⟩ (fun _ => rfl)
set_option maxRecDepth 100000 in
theorem containsFunc_c {fv : FuncId} {cap : Array Value} {G : List Fct} {q : Int → Bool} (hcl : callable Tryz.prog fv = true) (hc : ∀ x w, At w [fB true G] → Calls Tryz.prog fv ([Value.int .i64 x] ++ cap.toList).toArray w (Ret w fun v L => v = .bool (q x) ∧ L = []))
   (i : Sl) (xs : List Int) (w : World) (h : At w [slo i cInt 1 xs, fB true G]) (hb : xs.length ≤ 4294967296) :
   Calls Tryz.prog 171 #[i.val xs.length, .func (.func fv) #[] cap] w (Tells w (∃ x ∈ xs, q x = true)) := by
 refine calls2 Tryz.func171 rfl tabOk w _ rfl _ rfl _ h ⟨rfl, rfl, rfl, rfl, trivial⟩ _ _ (by decide) ?_
 refine stop_call _ cl202 rfl rfl rfl rfl ⟨rfl, rfl⟩ (fun A w hW => indexFunc_c hcl hc i xs w ⟨hW.get 0 rfl (.refl _), hW.get 1 rfl (.refl _), trivial⟩ hb) ?_
 rintro v L ⟨k, rfl, hk, rfl⟩
 exact ret0 ⟨_, rfl, by simpa using hk, rfl⟩ (fun _ => rfl)
abbrev varI2 (g : Nat) (t : Int) : Fct := fVar g 3 [.int .i64 t]
set_option maxRecDepth 100000 in
theorem within1_c (x lo hi : Int) (g1 g2 : Nat) (w : World) (h : At w [fB true [varI2 g1 lo, varI2 g2 hi]]) :
   Calls Tryz.prog 200 #[.int .i64 x, .pointer (some ⟨g1, 0, none⟩), .pointer (some ⟨g2, 0, none⟩)] w (Ret w fun v L => v = .bool (decide (x < lo) || decide (hi < x)) ∧ L = []) := by
 have h' : At w [varI2 g1 lo, varI2 g2 hi] := ⟨fB_mem h.1 (by simp), fB_mem h.1 (by simp), trivial⟩
 refine calls3 Tryz.func200 rfl tabOk w _ rfl _ rfl _ h' ⟨rfl, rfl, rfl, rfl, trivial⟩ _ _ _ (by decide) ?_
 refine stop_loadV 0 tabOk rfl rfl rfl rfl rfl ⟨rfl, rfl⟩ ?_
 apply CaseB.mk <;> intro g
 · refine ret0 ⟨?_, rfl⟩ (fun _ => rfl)
   have : x < lo := by simpa using g
   simp [this]
 · refine stop_loadV 1 tabOk rfl rfl rfl rfl rfl ⟨rfl, rfl⟩ ?_
   refine ret0 ⟨?_, rfl⟩ (fun _ => rfl)
   have : ¬ x < lo := by simpa using g
   simp [this]
set_option maxRecDepth 100000 in
theorem within_c (i : Sl) (xs : List Int) (lo hi : Int) (w : World) (h : At w [slo i cInt 1 xs]) (hb : xs.length ≤ 4294967296) :
   Calls Tryz.prog 167 #[i.val xs.length, .int .i64 lo, .int .i64 hi] w (Tells w (within xs lo hi)) := by
 refine calls3 Tryz.func167 rfl tabOk w _ rfl _ rfl _ h ⟨rfl, rfl, trivial⟩ _ _ _ (by decide) ?_
 apply CaseB.mk <;> intro g
 · have hl : xs.length ≤ 3 := by simp at g; omega
   refine stop_call _ cl171 rfl rfl rfl rfl ⟨rfl, rfl⟩ (fun A w hW => containsFunc_c (fv := 200) (q := fun x => decide (x < lo) || decide (hi < x)) (G := [varI2 (A 0) lo, varI2 (A 1) hi]) cl200 (fun x w h => within1_c x lo hi _ _ w h) i xs w ⟨hW.get 0 rfl (.refl _), fB_two (hW.var rfl rfl) (hW.var rfl rfl), trivial⟩ hb) ?_
   rintro v L ⟨b, rfl, hbb, rfl⟩
   refine ret0 ⟨_, rfl, ?_, rfl⟩ (fun _ => rfl)
   simp only [Bool.not_eq_true', ← Bool.not_eq_true, hbb, within]
   constructor
   · intro hn
     refine ⟨hl, fun x hx => ?_⟩
     rcases Int.lt_or_le x lo with h1 | h1
     · exact (hn ⟨x, hx, by simp [h1]⟩).elim
     · rcases Int.lt_or_le hi x with h2 | h2
       · exact (hn ⟨x, hx, by simp [h2]⟩).elim
       · exact ⟨h1, h2⟩
   · rintro ⟨_, hx⟩ ⟨x, hx', hq⟩
     have := hx x hx'
     simp at hq
     omega
 · have hl : ¬ xs.length ≤ 3 := by simp at g; omega
   exact ret0 ⟨_, rfl, tno fun h => hl h.1, rfl⟩ (fun _ => rfl)
set_option maxRecDepth 100000 in
theorem opOn_c (i : Sl) (n : Nat) (o : Op) (g : Nat) (w : World) (h : At w [fVar g 57 (cOp o)]) :
   Calls Tryz.prog 201 #[i.val n, .pointer (some ⟨g, 0, none⟩)] w (Tells w (0 ≤ o.on ∧ o.on < n)) := by
 refine calls2 Tryz.func201 rfl tabOk w _ rfl _ rfl _ h ⟨rfl, rfl, trivial⟩ _ _ (by decide) ?_
 refine stop_fldW tabOk rfl rfl rfl rfl ⟨rfl, rfl⟩ ?_
 refine stop_loadF 0 tabOk rfl rfl rfl rfl rfl ⟨rfl, rfl⟩ ?_
 refine CaseB.mk (fun g1 => ?_) (fun g1 => ?_)
 · refine stop_fldW tabOk rfl rfl rfl rfl ⟨rfl, rfl⟩ ?_
   refine stop_loadF 0 tabOk rfl rfl rfl rfl rfl ⟨rfl, rfl⟩ ?_
   refine ret0 ⟨_, rfl, ?_, rfl⟩ (fun _ => rfl)
   have : 0 ≤ o.on := by simpa using g1
   simp [this]
 · have : ¬ 0 ≤ o.on := by simpa using g1
   exact ret0 ⟨_, rfl, tno fun h => this h.1, rfl⟩ (fun _ => rfl)
structure Chan.Valid (m : Chan) : Prop where
 r0 : 0 ≤ m.room
 r1 : m.room ≤ 4
 it : (m.items.length : Int) ≤ m.room
 iv : ∀ x ∈ m.items, isValue x = true
 sv : ∀ l ∈ m.senders, isValue l.v = true
 di : distinct m.threads = true
 se : m.senders ≠ [] → (m.items.length : Int) = m.room ∧ m.getters = [] ∧ m.closed = false
 ge : m.getters ≠ [] → m.items = [] ∧ m.closed = false
instance (m : Chan) : Decidable m.Valid :=
 decidable_of_iff ((0 ≤ m.room ∧ m.room ≤ 4 ∧ (m.items.length : Int) ≤ m.room) ∧ (∀ x ∈ m.items, isValue x = true) ∧ (∀ l ∈ m.senders, isValue l.v = true) ∧ distinct m.threads = true ∧ (m.senders ≠ [] → (m.items.length : Int) = m.room ∧ m.getters = [] ∧ m.closed = false) ∧ (m.getters ≠ [] → m.items = [] ∧ m.closed = false))
   ⟨fun ⟨⟨a, b, c⟩, d, e, f, g, h⟩ => ⟨a, b, c, d, e, f, g, h⟩, fun ⟨a, b, c, d, e, f, g, h⟩ => ⟨⟨a, b, c⟩, d, e, f, g, h⟩⟩
def Chan.valid (m : Chan) : Bool := decide m.Valid
theorem Chan.invalid {m : Chan} (h : ¬ m.Valid) : Value.bool false = Value.bool m.valid := by rw [Chan.valid, decide_eq_false h]
theorem Chan.isvalid {m : Chan} (h : m.Valid) : Value.bool true = Value.bool m.valid := by rw [Chan.valid, decide_eq_true h]
theorem all_take_succ {α : Type} {p : α → Prop} {xs : List α} {k : Nat} (hk : k < xs.length) (h : ∀ x ∈ xs.take k, p x) (h1 : p xs[k]) : ∀ x ∈ xs.take (k + 1), p x := by
 intro x hx
 rw [List.take_succ_eq_append_getElem hk] at hx
 rcases List.mem_append.1 hx with hx | hx
 · exact h x hx
 · simp at hx; subst hx; exact h1
theorem len_pos {α : Type} {xs : List α} : decide ((xs.length : Int) > 0) = true ↔ xs ≠ [] := by
 cases xs <;> simp
set_option maxHeartbeats 2000000 in
set_option maxRecDepth 100000 in
theorem valid_c (m : Chan) (i s g : Sl) (w : World) (h : At w [slo i cInt 1 m.items, slo s cLet 2 m.senders, slo g cInt 1 m.getters]) (hb : m.small) :
   Calls Tryz.prog 104 #[chanV m i s g] w (Ret w fun v L => v = .bool m.valid ∧ L = []) := by
 obtain ⟨b1, b2, b3⟩ := hb
 have bT : m.threads.length ≤ 8589934592 := by simp [Chan.threads]; omega
 have hno : ∀ {P : Prop}, ¬ P → (m.Valid → P) → ∀ A, resV A [SV.lit false] = Value.bool m.valid := fun h1 h2 _ => Chan.invalid fun hv => h1 (h2 hv)
 refine calls1 Tryz.func104 rfl tabOk w _ rfl _ rfl _ h z143 _ (by decide) ?_
 refine CaseB.mk (fun h1 => ?_) (fun h1 => ?_)
 · exact ret0 ⟨rfl, rfl⟩ (hno (by simp at h1; omega) Chan.Valid.r0)
 · have r0 : 0 ≤ m.room := by simp at h1; omega
   refine CaseB.mk (fun h2 => ?_) (fun h2 => ?_)
   · exact ret0 ⟨rfl, rfl⟩ (hno (by simp at h2; omega) Chan.Valid.r1)
   · have r1 : m.room ≤ 4 := by simp at h2; omega
     refine CaseB.mk (fun h3 => ?_) (fun h3 => ?_)
     · exact ret0 ⟨rfl, rfl⟩ (hno (by simp at h3; omega) Chan.Valid.it)
     · have it : (m.items.length : Int) ≤ m.room := by simp at h3; omega
       refine LoopW.mk ⟨{ k : Nat // k ≤ m.items.length ∧ ∀ x ∈ m.items.take k, isValue x = true },
         fun p => .mk [(1, .p 0 0), (24, .v (i.val m.items.length)), (25, .v (.int .i64 m.items.length)), (26, .v (.int .i64 p.1))] 1 0 [(0, 119, 5)] [((0, 0), .v (.int .i64 m.room)), ((0, 1), .v (i.val m.items.length)), ((0, 2), .v (s.val m.senders.length)), ((0, 3), .v (g.val m.getters.length)), ((0, 4), .v (.bool m.closed))] [slo i cInt 1 m.items, slo s cLet 2 m.senders, slo g cInt 1 m.getters],
         fun p => m.items.length - p.1, ⟨0, Nat.zero_le _, by simp⟩, ?_, ?_⟩
       · exact weak_mk [0, 1, 2] zw2 zw0 zw2 zw5 zw4 rfl rfl
       · rintro ⟨k, hk, ha⟩
         refine CaseB.mk (fun h => ?_) (fun h => ?_)
         · have hlt : k < m.items.length := by simpa using h
           refine stop_idx encInt tabOk rfl rfl rfl rfl rfl ⟨rfl, rfl⟩ z40 k rfl z47 (fun ad => ?_)
           refine stop_call _ cl106 rfl rfl rfl rfl ⟨rfl, rfl⟩ (fun A w hW => isValue_c _ w) ?_
           rintro v L ⟨rfl, rfl⟩
           refine CaseB.mk (fun h => ?_) (fun h => ?_)
           · exact ret0 ⟨rfl, rfl⟩ (hno z101 (fun hv => hv.iv _ (List.getElem_mem hlt)))
           · have hw := wrapN k _ hlt b1
             refine ⟨⟨k + 1, by omega, all_take_succ hlt ha z101⟩, ?_, by simp; omega⟩
             exact weak_mk [0, 1, 2] zw1 zw0 zw1 zw5 zw3 rfl rfl
         · have hge : m.items.length ≤ k := by simpa using h
           rw [List.take_of_length_le hge] at ha
           refine LoopW.mk ⟨{ k : Nat // k ≤ m.senders.length ∧ ∀ x ∈ m.senders.take k, isValue x.v = true },
             fun p => .mk [(1, .p 0 0), (35, .v (s.val m.senders.length)), (36, .v (.int .i64 m.senders.length)), (37, .v (.int .i64 p.1))] 1 0 [(0, 119, 5)] [((0, 0), .v (.int .i64 m.room)), ((0, 1), .v (i.val m.items.length)), ((0, 2), .v (s.val m.senders.length)), ((0, 3), .v (g.val m.getters.length)), ((0, 4), .v (.bool m.closed))] [slo i cInt 1 m.items, slo s cLet 2 m.senders, slo g cInt 1 m.getters],
             fun p => m.senders.length - p.1, ⟨0, Nat.zero_le _, by simp⟩, ?_, ?_⟩
           · exact weak_mk [0, 1, 2] zw2 zw0 zw2 zw5 zw4 rfl rfl
           · rintro ⟨k, hk, hs⟩
             refine CaseB.mk (fun h => ?_) (fun h => ?_)
             · have hlt : k < m.senders.length := by simpa using h
               refine stop_idx encLet tabOk rfl rfl rfl rfl rfl ⟨rfl, rfl⟩ z40 k rfl z47 (fun ad => ?_)
               refine stop_call _ cl106 rfl rfl rfl rfl ⟨rfl, rfl⟩ (fun A w hW => isValue_c _ w) ?_
               rintro v L ⟨rfl, rfl⟩
               refine CaseB.mk (fun h => ?_) (fun h => ?_)
               · exact ret0 ⟨rfl, rfl⟩ (hno z101 (fun hv => hv.sv _ (List.getElem_mem hlt)))
               · have hw := wrapN k _ hlt b2
                 refine ⟨⟨k + 1, by omega, all_take_succ (p := fun l : Letter => isValue l.v = true) hlt hs z101⟩, ?_, by simp; omega⟩
                 exact weak_mk [0, 1, 2] zw1 zw0 zw1 zw5 zw3 rfl rfl
             · have hge : m.senders.length ≤ k := by simpa using h
               rw [List.take_of_length_le hge] at hs
               refine stop_call _ cl145 rfl rfl rfl rfl ⟨rfl, rfl⟩ (fun A w hW => threads_c m i s g w ⟨z39, z39, z39, trivial⟩ ⟨b1, b2, b3⟩) ?_
               rintro v L ⟨y, rfl, rfl⟩
               refine stop_call _ cl169 rfl rfl rfl rfl ⟨rfl, rfl⟩ (fun A w hW => distinctThreads_c y m.threads w ⟨z39, trivial⟩ bT) ?_
               rintro v L ⟨rfl, rfl⟩
               refine CaseB.mk (fun h => ?_) (fun h => ?_)
               · exact ret0 ⟨rfl, rfl⟩ (hno z101 Chan.Valid.di)
               · have hd : distinct m.threads = true := by simpa using h
                 have fin : (m.senders ≠ [] → (m.items.length : Int) = m.room ∧ m.getters = [] ∧ m.closed = false) → (m.getters ≠ [] → m.items = [] ∧ m.closed = false) → m.Valid := fun x y => ⟨r0, r1, it, ha, hs, hd, x, y⟩
                 refine CaseB.mk (fun q1 => ?_) (fun q1 => ?_)
                 · have hs1 : m.senders ≠ [] := len_pos.1 q1
                   refine CaseB.mk (fun q2 => ?_) (fun q2 => ?_)
                   · exact ret0 ⟨rfl, rfl⟩ (fun _ => Chan.invalid (fun hv => by have := (hv.se hs1).1; simp at q2; omega))
                   · have e2 : (m.items.length : Int) = m.room := by simpa using q2
                     refine CaseB.mk (fun q3 => ?_) (fun q3 => ?_)
                     · exact ret0 ⟨rfl, rfl⟩ (fun _ => Chan.invalid (fun hv => len_pos.1 q3 (hv.se hs1).2.1))
                     · have e3 : m.getters = [] := by
                         cases hg : m.getters with
                         | nil => rfl
                         | cons a r => rw [hg] at q3; simp at q3
                       refine CaseB.mk (fun q4 => ?_) (fun q4 => ?_)
                       · exact ret0 ⟨rfl, rfl⟩ (fun _ => Chan.invalid (fun hv => by have := (hv.se hs1).2.2; rw [q4] at this; cases this))
                       · have hS : m.senders ≠ [] → (m.items.length : Int) = m.room ∧ m.getters = [] ∧ m.closed = false := fun _ => ⟨e2, e3, q4⟩
                         refine CaseB.mk (fun q5 => ?_) (fun q5 => ?_)
                         · have hg : m.getters = [] := by simpa using q5
                           exact ret0 ⟨rfl, rfl⟩ (fun _ => Chan.isvalid (fin hS (fun hn => absurd hg hn)))
                         · have hg : m.getters ≠ [] := by simpa using q5
                           refine CaseB.mk (fun q6 => ?_) (fun q6 => ?_)
                           · have hi : m.items = [] := by simpa using q6
                             refine ret0 ⟨rfl, rfl⟩ (fun _ => ?_)
                             show Value.bool (!m.closed) = _
                             cases hc : m.closed with
                             | false => exact Chan.isvalid (fin hS (fun _ => ⟨hi, hc⟩))
                             | true => exact Chan.invalid (fun hv => by have := (hv.ge hg).2; rw [hc] at this; cases this)
                           · have hi : m.items ≠ [] := by simpa using q6
                             exact ret0 ⟨rfl, rfl⟩ (fun _ => Chan.invalid (fun hv => hi (hv.ge hg).1))
                 · have hs1 : m.senders = [] := by
                     cases hg : m.senders with
                     | nil => rfl
                     | cons a r => rw [hg] at q1; simp at q1
                   have hS : m.senders ≠ [] → (m.items.length : Int) = m.room ∧ m.getters = [] ∧ m.closed = false := fun hn => absurd hs1 hn
                   refine CaseB.mk (fun q5 => ?_) (fun q5 => ?_)
                   · have hg : m.getters = [] := by simpa using q5
                     exact ret0 ⟨rfl, rfl⟩ (fun _ => Chan.isvalid (fin hS (fun hn => absurd hg hn)))
                   · have hg : m.getters ≠ [] := by simpa using q5
                     refine CaseB.mk (fun q6 => ?_) (fun q6 => ?_)
                     · have hi : m.items = [] := by simpa using q6
                       refine ret0 ⟨rfl, rfl⟩ (fun _ => ?_)
                       show Value.bool (!m.closed) = _
                       cases hc : m.closed with
                       | false => exact Chan.isvalid (fin hS (fun _ => ⟨hi, hc⟩))
                       | true => exact Chan.invalid (fun hv => by have := (hv.ge hg).2; rw [hc] at this; cases this)
                     · have hi : m.items ≠ [] := by simpa using q6
                       exact ret0 ⟨rfl, rfl⟩ (fun _ => Chan.invalid (fun hv => hi (hv.ge hg).1))
theorem length_le_of_sub {xs ys : List Int} (h : xs.Nodup) (hs : ∀ x ∈ xs, x ∈ ys) : xs.length ≤ ys.length := by
 induction xs generalizing ys with
 | nil => simp
 | cons x r ih =>
   have hx := hs x (by simp)
   rw [List.nodup_cons] at h
   have := ih (ys := ys.erase x) h.2 (fun y hy => (List.mem_erase_of_ne (fun e => h.1 (by subst e; exact hy))).2 (hs y z109))
   rw [List.length_erase_of_mem hx] at this
   have : 0 < ys.length := List.length_pos_of_mem hx
   simp only [List.length_cons]
   omega
theorem distinct_len {xs : List Int} (h : distinct xs = true) : xs.length ≤ 6 := by
 simp only [distinct, decide_eq_true_eq] at h
 have hs : ∀ x ∈ xs, x ∈ ([0, 1, 2, 3, 4, 5] : List Int) := fun x hx => by
   have := h.2 x hx
   simp [isThread] at this
   simp
   omega
 exact length_le_of_sub h.1 hs
theorem distinct_take {xs : List Int} (h : (xs.take 7).Nodup ∧ ∀ x ∈ xs.take 7, isThread x = true) : xs.length ≤ 6 := by
 have hd : distinct (xs.take 7) = true := by simpa [distinct] using h
 have := distinct_len hd
 simp at this
 omega
set_option maxRecDepth 100000 in
theorem l2Waits_c (i : Sl) (xs : List Int) (w : World) (h : At w [slo i cInt 1 xs]) (hb : xs.length ≤ 8589934592) :
   Calls Tryz.prog 199 #[i.val xs.length] w (Ret w fun v L => v = .bool (distinct xs) ∧ L = []) := by
 refine calls1 Tryz.func199 rfl tabOk w _ rfl _ rfl _ h ⟨rfl, rfl, trivial⟩ _ (by decide) ?_
 refine LoopW.mk ⟨{ k : Nat // k ≤ xs.length ∧ k ≤ 7 ∧ (xs.take k).Nodup ∧ ∀ x ∈ xs.take k, isThread x = true },
   fun p => .mk [(0, .v (i.val xs.length)), (3, .v (.int .i64 p.1))] 0 0 [] [] [slo i cInt 1 xs],
   fun p => xs.length - p.1, ⟨0, Nat.zero_le _, by omega, by simp, by simp⟩, ?_, ?_⟩
 · exact weak_mk [0] zw2 zw0 zw2 zw5 zw4 rfl rfl
 · rintro ⟨k, hk, hk7, hn, ha⟩
   have hfin : ¬ (k < xs.length ∧ k ≤ 6) → decide ((xs.length : Int) ≤ 6) = distinct xs := by
     intro hc
     rcases Nat.lt_or_ge k xs.length with h1 | h1
     · have e : k = 7 := by omega
       subst e
       have := distinct_take ⟨hn, ha⟩
       omega
     · rw [List.take_of_length_le h1] at hn ha
       have hd : distinct xs = true := by simp only [distinct, decide_eq_true_eq]; exact ⟨hn, ha⟩
       have := distinct_len hd
       rw [hd, decide_eq_true_eq]
       omega
   refine CaseB.mk (fun h => ?_) (fun h => ?_)
   · have hlt : k < xs.length := by simpa using h
     refine CaseB.mk (fun h => ?_) (fun h => ?_)
     · have h6 : k ≤ 6 := by simp at h; omega
       refine draw_start tabOk z107 z107 z107 200 [] [0] [_] trivial trivial ⟨rfl, trivial⟩ rfl ?_
       refine d_idx (ti := tiOf tab) encInt tabOk rfl rfl rfl rfl rfl ⟨rfl, rfl⟩ z40 k rfl z47 (fun ad => ?_)
       refine d_call _ cl181 rfl rfl rfl rfl ⟨rfl, rfl⟩ (fun A w hW => l1Thread_c _ w) ?_
       rintro v L ⟨rfl, rfl⟩
       refine CaseB.mk (fun h => ?_) (fun h => ?_)
       · have h1 : isThread xs[k] = false := by simpa using h
         exact ret0 ⟨congrArg Value.bool (distinct_no hlt (.inl h1)).symm, rfl⟩ (fun _ => rfl)
       · have h1 : isThread xs[k] = true := by simpa using h
         refine d_cut (ti := tiOf tab) tabOk rfl rfl rfl rfl ⟨rfl, rfl⟩ rfl rfl z40 (0) (k) ((xs.take k)).length rfl rfl z47 z47 z47 ?_
         refine d_idx (ti := tiOf tab) encInt tabOk rfl rfl rfl rfl rfl ⟨rfl, rfl⟩ z40 k rfl z47 (fun ad => ?_)
         refine d_call _ cl51 rfl rfl rfl rfl ⟨rfl, rfl⟩ (fun A w hW => l2At_c (i.cut 0 1) (xs.take k) _ w ⟨atCut encInt 0 k (by omega) (by omega) (by simp) (hW.rd 0 rfl), trivial⟩ z106) ?_
         rintro v L ⟨rfl, rfl⟩
         refine CaseB.mk (fun h => ?_) (fun h => ?_)
         · have hm : xs[k] ∈ xs.take k := (atM_mem _ _).1 z101
           exact ret0 ⟨congrArg Value.bool (distinct_no hlt (.inr hm)).symm, rfl⟩ (fun _ => rfl)
         · have hm : ¬ xs[k] ∈ xs.take k := fun hm => by have := (atM_mem _ _).2 hm; simp at h; omega
           have hT : xs.take (k + 1) = xs.take k ++ [xs[k]] := List.take_succ_eq_append_getElem hlt
           have hw := wrapN2 k _ hlt hb
           refine ⟨⟨k + 1, by omega, by omega, (nodup_take_succ hlt).2 ⟨hn, hm⟩, all_take_succ hlt ha h1⟩, ?_, by simp; omega⟩
           exact weak_mk [0] zw1 zw0 zw1 zw5 zw3 rfl rfl
     · have h6 : ¬ k ≤ 6 := by simp at h; omega
       exact ret0 ⟨congrArg Value.bool (hfin (fun h => h6 h.2)), rfl⟩ (fun _ => rfl)
   · have hlt : ¬ k < xs.length := by simpa using h
     exact ret0 ⟨congrArg Value.bool (hfin (fun h => hlt h.1)), rfl⟩ (fun _ => rfl)
set_option maxRecDepth 100000 in
theorem l5Waits_c (m : Chan) (i s g : Sl) (t : Int) (w : World) (h : At w [slo i cInt 1 m.items, slo s cLet 2 m.senders, slo g cInt 1 m.getters]) (hb : m.small) (h7 : m.senders.length ≤ 7) :
   Calls Tryz.prog 204 #[chanV m i s g, .int .i64 t] w (Ret w fun v L => v = .bool (decide (t ∈ m.threads)) ∧ L = []) := by
 obtain ⟨b1, b2, b3⟩ := hb
 have e7 : m.senders.take 7 = m.senders := List.take_of_length_le h7
 refine calls2 Tryz.func204 rfl tabOk w _ rfl _ rfl _ h z143 _ _ (by decide) ?_
 refine stop_call _ cl164 rfl rfl rfl rfl ⟨rfl, rfl⟩ (fun A w hW => l5Threads_c s m.senders w ⟨z39, trivial⟩ b2) ?_
 rw [e7]
 rintro v L ⟨y, rfl, rfl⟩
 refine stop_call _ cl51 rfl rfl rfl rfl ⟨rfl, rfl⟩ (fun A w hW => l2At_c y (m.senders.map Letter.t) t w ⟨z39, trivial⟩ z106) ?_
 rintro v L ⟨rfl, rfl⟩
 refine CaseB.mk (fun h => ?_) (fun h => ?_)
 · have hm : t ∈ m.senders.map Letter.t := (atM_mem _ _).1 z101
   refine ret0 ⟨?_, rfl⟩ (fun _ => rfl)
   simp [Chan.threads]
   exact .inl (by simpa using hm)
 · have hm : ¬ t ∈ m.senders.map Letter.t := fun hm => by have := (atM_mem _ _).2 hm; simp at h; omega
   refine stop_call _ cl51 rfl rfl rfl rfl ⟨rfl, rfl⟩ (fun A w hW => l2At_c g m.getters t w ⟨z39, trivial⟩ b3) ?_
   rintro v L ⟨rfl, rfl⟩
   refine ret0 ⟨?_, rfl⟩ (fun _ => rfl)
   have e : (t ∈ m.threads) ↔ t ∈ m.getters := by simp only [Chan.threads, List.mem_append]; exact ⟨fun h => h.resolve_left hm, .inr⟩
   simp [e, atM_mem]
structure SemOk (m : Sem) : Prop where
 l1 : 1 ≤ m.limit
 l9 : m.limit ≤ 9
 f0 : 0 ≤ m.free
 fl : m.free ≤ m.limit
 q6 : m.queue.length ≤ 6
 cnt : ∀ w ∈ m.queue, 1 ≤ w.n ∧ w.n ≤ m.limit
 dis : distinct (m.queue.map (·.t)) = true
 hd : ∀ w, m.queue[0]? = some w → m.free < w.n
def OnceOk (m : Once) : Prop := (m.state = 0 ∧ m.owner = 0 ∧ m.value = 0 ∧ m.waits = []) ∨ (m.state = 1 ∧ isThread m.owner = true ∧ m.value = 0 ∧ distinct m.waits = true ∧ m.owner ∉ m.waits) ∨ (m.state = 2 ∧ isThread m.owner = true ∧ isValue m.value = true ∧ m.waits = [])
def GroupOk (m : Group) : Prop := isValue m.count = true ∧ distinct m.waits = true ∧ (0 < m.count ∨ m.waits = [])
def BarrierOk (m : Barrier) : Prop := 1 ≤ m.parties ∧ m.parties ≤ 6 ∧ 0 ≤ m.round ∧ m.round ≤ 9999 ∧ (m.waits.length : Int) < m.parties ∧ distinct m.waits = true
theorem onceOk0 {m : Once} (h : m.state = 0) : OnceOk m ↔ m.owner = 0 ∧ m.value = 0 ∧ m.waits = [] := by simp [OnceOk, h]
theorem onceOk1 {m : Once} (h : m.state = 1) : OnceOk m ↔ isThread m.owner = true ∧ m.value = 0 ∧ distinct m.waits = true ∧ m.owner ∉ m.waits := by simp [OnceOk, h]
theorem onceOk2 {m : Once} (h : m.state = 2) : OnceOk m ↔ isThread m.owner = true ∧ isValue m.value = true ∧ m.waits = [] := by simp [OnceOk, h]
theorem onceOkN {m : Once} (h0 : ¬ m.state = 0) (h1 : ¬ m.state = 1) (h2 : ¬ m.state = 2) : ¬ OnceOk m := by simp [OnceOk, h0, h1, h2]
set_option maxHeartbeats 4000000 in
set_option maxRecDepth 100000 in
theorem onceValid_c (m : Once) (q : Sl) (w : World) (h : At w [slo q cInt 1 m.waits]) (hb : m.waits.length ≤ 1048576) :
   Calls Tryz.prog 105 #[onceV m q] w (Tells w (OnceOk m)) := by
 refine calls1 Tryz.func105 rfl tabOk w _ rfl _ rfl _ h ⟨rfl, rfl, trivial⟩ _ (by decide) ?_
 refine CaseB.mk (fun k => ?_) (fun k0 => ?_)
 · have hx := onceOk0 (m := m) z103
   apply CaseB.mk <;> intro g
   rotate_left
   · have q : ¬ (m.owner = 0) := by simpa using g
     exact ret0 ⟨_, rfl, tno fun e => q (hx.1 e).1, rfl⟩ (fun _ => rfl)
   have c1 : m.owner = 0 := by simpa using g
   apply CaseB.mk <;> intro g
   rotate_left
   · have q : ¬ (m.value = 0) := by simpa using g
     exact ret0 ⟨_, rfl, tno fun e => q (hx.1 e).2.1, rfl⟩ (fun _ => rfl)
   have c2 : m.value = 0 := by simpa using g
   exact ret0 ⟨_, rfl, by rw [hx]; simp [c1, c2], rfl⟩ (fun _ => rfl)
 refine CaseB.mk (fun k => ?_) (fun k1 => ?_)
 · have hx := onceOk1 (m := m) z103
   refine stop_call _ cl142 rfl rfl rfl rfl ⟨rfl, rfl⟩ (fun A w hW => isThread_c _ w) ?_
   rintro v L ⟨rfl, rfl⟩
   apply CaseB.mk <;> intro g
   rotate_left
   · have q : ¬ (isThread m.owner = true) := by simpa using g
     exact ret0 ⟨_, rfl, tno fun e => q (hx.1 e).1, rfl⟩ (fun _ => rfl)
   have c1 : isThread m.owner = true := g
   apply CaseB.mk <;> intro g
   rotate_left
   · have q : ¬ (m.value = 0) := by simpa using g
     exact ret0 ⟨_, rfl, tno fun e => q (hx.1 e).2.1, rfl⟩ (fun _ => rfl)
   have c2 : m.value = 0 := by simpa using g
   apply CaseB.mk <;> intro g
   rotate_left
   · have q : ¬ (m.waits.length ≤ 6) := by have g' := of_decide_eq_false g; omega
     exact ret0 ⟨_, rfl, tno fun e => q (distinct_len (hx.1 e).2.2.1), rfl⟩ (fun _ => rfl)
   have c6 : m.waits.length ≤ 6 := by have g' := of_decide_eq_true g; omega
   refine stop_call _ cl169 rfl rfl rfl rfl ⟨rfl, rfl⟩ (fun A w hW => distinctThreads_c q m.waits w ⟨z39, trivial⟩ (by omega)) ?_
   rintro v L ⟨rfl, rfl⟩
   apply CaseB.mk <;> intro g
   rotate_left
   · have q : ¬ (distinct m.waits = true) := by simpa using g
     exact ret0 ⟨_, rfl, tno fun e => q (hx.1 e).2.2.1, rfl⟩ (fun _ => rfl)
   have c3 : distinct m.waits = true := g
   refine stop_call _ cl60 rfl rfl rfl rfl ⟨rfl, rfl⟩ (fun A w hW => contains_c q m.waits m.owner w ⟨z39, trivial⟩ (by omega)) ?_
   rintro v L ⟨rfl, rfl⟩
   exact ret0 ⟨_, rfl, by rw [hx]; simp [c1, c2, c3], rfl⟩ (fun _ => rfl)
 refine CaseB.mk (fun k => ?_) (fun k2 => ?_)
 · have hx := onceOk2 (m := m) z103
   refine stop_call _ cl142 rfl rfl rfl rfl ⟨rfl, rfl⟩ (fun A w hW => isThread_c _ w) ?_
   rintro v L ⟨rfl, rfl⟩
   apply CaseB.mk <;> intro g
   rotate_left
   · have q : ¬ (isThread m.owner = true) := by simpa using g
     exact ret0 ⟨_, rfl, tno fun e => q (hx.1 e).1, rfl⟩ (fun _ => rfl)
   have c1 : isThread m.owner = true := g
   refine stop_call _ cl106 rfl rfl rfl rfl ⟨rfl, rfl⟩ (fun A w hW => isValue_c _ w) ?_
   rintro v L ⟨rfl, rfl⟩
   apply CaseB.mk <;> intro g
   rotate_left
   · have q : ¬ (isValue m.value = true) := by simpa using g
     exact ret0 ⟨_, rfl, tno fun e => q (hx.1 e).2.1, rfl⟩ (fun _ => rfl)
   have c2 : isValue m.value = true := g
   exact ret0 ⟨_, rfl, by rw [hx]; simp [c1, c2], rfl⟩ (fun _ => rfl)
 exact ret0 ⟨_, rfl, tno (onceOkN (by simpa using k0) (by simpa using k1) (by simpa using k2)), rfl⟩ (fun _ => rfl)
set_option maxRecDepth 100000 in
theorem groupValid_c (m : Group) (q : Sl) (w : World) (h : At w [slo q cInt 1 m.waits]) (hb : m.waits.length ≤ 1048576) :
   Calls Tryz.prog 102 #[groupV m q] w (Tells w (GroupOk m)) := by
 refine calls1 Tryz.func102 rfl tabOk w _ rfl _ rfl _ h ⟨rfl, rfl, trivial⟩ _ (by decide) ?_
 refine stop_call _ cl106 rfl rfl rfl rfl ⟨rfl, rfl⟩ (fun A w hW => isValue_c _ w) ?_
 rintro v L ⟨rfl, rfl⟩
 apply CaseB.mk <;> intro g
 rotate_left
 · have q : ¬ (isValue m.count = true) := by simpa using g
   exact ret0 ⟨_, rfl, tno fun e => q e.1, rfl⟩ (fun _ => rfl)
 have c1 : isValue m.count = true := g
 apply CaseB.mk <;> intro g
 rotate_left
 · have q : ¬ (m.waits.length ≤ 6) := by have g' := of_decide_eq_false g; omega
   exact ret0 ⟨_, rfl, tno fun e => q (distinct_len e.2.1), rfl⟩ (fun _ => rfl)
 have c6 : m.waits.length ≤ 6 := by have g' := of_decide_eq_true g; omega
 refine stop_call _ cl169 rfl rfl rfl rfl ⟨rfl, rfl⟩ (fun A w hW => distinctThreads_c q m.waits w ⟨z39, trivial⟩ (by omega)) ?_
 rintro v L ⟨rfl, rfl⟩
 apply CaseB.mk <;> intro g
 rotate_left
 · have q : ¬ (distinct m.waits = true) := by simpa using g
   exact ret0 ⟨_, rfl, tno fun e => q e.2.1, rfl⟩ (fun _ => rfl)
 have c2 : distinct m.waits = true := g
 apply CaseB.mk <;> intro g
 · have c3 : 0 < m.count := by have g' := of_decide_eq_true g; omega
   exact ret0 ⟨_, rfl, tyes ⟨c1, c2, .inl c3⟩, rfl⟩ (fun _ => rfl)
 · have c3 : ¬ 0 < m.count := by have g' := of_decide_eq_false g; omega
   exact ret0 ⟨_, rfl, by simp [GroupOk, c1, c2, c3], rfl⟩ (fun _ => rfl)
set_option maxRecDepth 100000 in
theorem barrierValid_c (m : Barrier) (q : Sl) (w : World) (h : At w [slo q cInt 1 m.waits]) (hb : m.waits.length ≤ 1048576) :
   Calls Tryz.prog 103 #[barrierV m q] w (Tells w (BarrierOk m)) := by
 refine calls1 Tryz.func103 rfl tabOk w _ rfl _ rfl _ h ⟨rfl, rfl, trivial⟩ _ (by decide) ?_
 apply CaseB.mk <;> intro g
 rotate_left
 · have q : ¬ (1 ≤ m.parties) := by have g' := of_decide_eq_false g; omega
   exact ret0 ⟨_, rfl, tno fun e => q e.1, rfl⟩ (fun _ => rfl)
 have c1 : 1 ≤ m.parties := by have g' := of_decide_eq_true g; omega
 apply CaseB.mk <;> intro g
 rotate_left
 · have q : ¬ (m.parties ≤ 6) := by have g' := of_decide_eq_false g; omega
   exact ret0 ⟨_, rfl, tno fun e => q e.2.1, rfl⟩ (fun _ => rfl)
 have c2 : m.parties ≤ 6 := by have g' := of_decide_eq_true g; omega
 apply CaseB.mk <;> intro g
 rotate_left
 · have q : ¬ (0 ≤ m.round) := by have g' := of_decide_eq_false g; omega
   exact ret0 ⟨_, rfl, tno fun e => q e.2.2.1, rfl⟩ (fun _ => rfl)
 have c3 : 0 ≤ m.round := by have g' := of_decide_eq_true g; omega
 apply CaseB.mk <;> intro g
 rotate_left
 · have q : ¬ (m.round ≤ 9999) := by have g' := of_decide_eq_false g; omega
   exact ret0 ⟨_, rfl, tno fun e => q e.2.2.2.1, rfl⟩ (fun _ => rfl)
 have c4 : m.round ≤ 9999 := by have g' := of_decide_eq_true g; omega
 apply CaseB.mk <;> intro g
 rotate_left
 · have q : ¬ ((m.waits.length : Int) < m.parties) := by have g' := of_decide_eq_false g; omega
   exact ret0 ⟨_, rfl, tno fun e => q e.2.2.2.2.1, rfl⟩ (fun _ => rfl)
 have c5 : (m.waits.length : Int) < m.parties := by have g' := of_decide_eq_true g; omega
 refine stop_call _ cl169 rfl rfl rfl rfl ⟨rfl, rfl⟩ (fun A w hW => distinctThreads_c q m.waits w ⟨z39, trivial⟩ (by omega)) ?_
 rintro v L ⟨rfl, rfl⟩
 exact ret0 ⟨_, rfl, by simp [BarrierOk, c1, c2, c3, c4, c5], rfl⟩ (fun _ => rfl)
set_option maxHeartbeats 4000000 in
set_option maxRecDepth 100000 in
theorem semValid_c (m : Sem) (q : Sl) (w : World) (h : At w [slo q cWaiter 2 m.queue]) (hb : m.queue.length ≤ 1048576) :
   Calls Tryz.prog 101 #[semV m q] w (Tells w (SemOk m)) := by
 refine calls1 Tryz.func101 rfl tabOk w _ rfl _ rfl _ h ⟨rfl, rfl, trivial⟩ _ (by decide) ?_
 apply CaseB.mk <;> intro g
 · have q : ¬ (1 ≤ m.limit) := by have g' := of_decide_eq_true g; omega
   exact ret0 ⟨_, rfl, tno fun e => q e.l1, rfl⟩ (fun _ => rfl)
 have c1 : 1 ≤ m.limit := by have g' := of_decide_eq_false g; omega
 apply CaseB.mk <;> intro g
 · have q : ¬ (m.limit ≤ 9) := by have g' := of_decide_eq_true g; omega
   exact ret0 ⟨_, rfl, tno fun e => q e.l9, rfl⟩ (fun _ => rfl)
 have c2 : m.limit ≤ 9 := by have g' := of_decide_eq_false g; omega
 apply CaseB.mk <;> intro g
 · have q : ¬ (0 ≤ m.free) := by have g' := of_decide_eq_true g; omega
   exact ret0 ⟨_, rfl, tno fun e => q e.f0, rfl⟩ (fun _ => rfl)
 have c3 : 0 ≤ m.free := by have g' := of_decide_eq_false g; omega
 apply CaseB.mk <;> intro g
 · have q : ¬ (m.free ≤ m.limit) := by have g' := of_decide_eq_true g; omega
   exact ret0 ⟨_, rfl, tno fun e => q e.fl, rfl⟩ (fun _ => rfl)
 have c4 : m.free ≤ m.limit := by have g' := of_decide_eq_false g; omega
 apply CaseB.mk <;> intro g
 · have q : ¬ (m.queue.length ≤ 6) := by have g' := of_decide_eq_true g; omega
   exact ret0 ⟨_, rfl, tno fun e => q e.q6, rfl⟩ (fun _ => rfl)
 have c5 : m.queue.length ≤ 6 := by have g' := of_decide_eq_false g; omega
 refine LoopW.mk ⟨{ p : Nat × Sl // p.1 ≤ m.queue.length ∧ ∀ w ∈ m.queue.take p.1, 1 ≤ w.n ∧ w.n ≤ m.limit },
   fun p => .mk [(1, .p 0 0), (3, .v (p.1.2.val ((m.queue.map (·.t)).take p.1.1).length)), (33, .v (q.val m.queue.length)), (34, .v (.int .i64 (m.queue.length : Int))), (35, .v (.int .i64 (p.1.1 : Int)))] 1 0 [(0, 95, 3)] [((0, 0), .v (.int .i64 m.free)), ((0, 1), .v (.int .i64 m.limit)), ((0, 2), .v (q.val m.queue.length))] [own p.1.2 3 cInt 1 ((m.queue.map (·.t)).take p.1.1), slo q cWaiter 2 m.queue],
   fun p => m.queue.length - p.1.1, ⟨(0, ⟨none, 0⟩), Nat.zero_le _, by simp⟩, ?_, ?_⟩
 · exact weak_mk [99, 0] zw2 zw0 zw2 zw5 zw4 rfl rfl
 rintro ⟨⟨k, a⟩, hk, hinv⟩
 simp only at hk hinv
 apply CaseB.mk <;> intro g
 · have hlt : k < m.queue.length := by simpa using g
   have hw := wrapN k _ hlt (by omega)
   refine stop_idx encWaiter tabOk rfl rfl rfl rfl rfl ⟨rfl, rfl⟩ (rdAt 1 rfl) k rfl z47 (fun ad => ?_)
   apply CaseB.mk <;> intro g
   · have q : ¬ (1 ≤ (m.queue[k]).n) := by have g' := of_decide_eq_true g; omega
     exact ret0 ⟨_, rfl, tno fun e => q (e.cnt _ (List.getElem_mem hlt)).1, rfl⟩ (fun _ => rfl)
   have d1 : 1 ≤ (m.queue[k]).n := by have g' := of_decide_eq_false g; omega
   apply CaseB.mk <;> intro g
   · have q : ¬ ((m.queue[k]).n ≤ m.limit) := by have g' := of_decide_eq_true g; omega
     exact ret0 ⟨_, rfl, tno fun e => q (e.cnt _ (List.getElem_mem hlt)).2, rfl⟩ (fun _ => rfl)
   have d2 : (m.queue[k]).n ≤ m.limit := by have g' := of_decide_eq_false g; omega
   refine AllSl.mk fun u => ?_
   refine stop_app encInt 1 tabOk (ys := [(m.queue[k]).t]) rfl rfl rfl rfl rfl rfl rfl rfl rfl (by decide) ⟨rfl, rfl⟩ rfl z40 z47 z47 (fun a2 => ?_)
   rw [map_take_succ hlt rfl rfl]
   refine ⟨⟨(k + 1, a2), by omega, fun x hx => ?_⟩, ?_, by simp only; omega⟩
   · rw [List.take_succ_eq_append_getElem hlt] at hx
     rcases List.mem_append.1 hx with hx | hx
     · exact hinv x hx
     · simp at hx; subst hx; exact ⟨d1, d2⟩
   · exact weak_mk [0, 2] zw1 zw0 zw1 zw5 zw3 rfl rfl
 have hge : m.queue.length ≤ k := by simpa using g
 rw [List.take_of_length_le hge] at hinv
 have eT : (m.queue.map (·.t)).take k = m.queue.map (·.t) := List.take_of_length_le z97
 simp only [eT]
 refine draw_start tabOk z107 z107 z107 200 [((0, 0), .v (.int .i64 m.free)), ((0, 1), .v (.int .i64 m.limit)), ((0, 2), .v (q.val m.queue.length))] [1] [_] z132 z144 ⟨rfl, trivial⟩ rfl ?_
 refine d_call _ cl169 rfl rfl rfl rfl ⟨rfl, rfl⟩ (fun A w hW => distinctThreads_c a _ w ⟨hW.rdOwn 0 rfl, trivial⟩ z106) ?_
 rintro v L ⟨rfl, rfl⟩
 apply CaseB.mk <;> intro g
 rotate_left
 · have q : ¬ (distinct (m.queue.map (·.t)) = true) := by simpa using g
   exact ret0 ⟨_, rfl, tno fun e => q e.dis, rfl⟩ (fun _ => rfl)
 have c6 : distinct (m.queue.map (·.t)) = true := g
 apply CaseB.mk <;> intro g
 · have c7 : m.queue = [] := by simpa using g
   exact ret0 ⟨_, rfl, tyes ⟨c1, c2, c3, c4, c5, hinv, c6, by rw [c7]; simp⟩, rfl⟩ (fun _ => rfl)
 have c7 : 0 < m.queue.length := by have g' : ¬ m.queue = [] := by simpa using g
                                    exact List.length_pos_iff.2 g'
 refine d_idx (ti := tiOf tab) encWaiter tabOk rfl rfl rfl rfl rfl ⟨rfl, rfl⟩ (rdAt 0 rfl) 0 rfl z47 (fun ad => ?_)
 refine ret0 ⟨_, rfl, ?_, rfl⟩ (fun _ => rfl)
 have hh : ∀ w, m.queue[0]? = some w → w = m.queue[0] := fun w hw => by rw [List.getElem?_eq_getElem c7] at hw; injection hw with hw; exact hw.symm
 constructor
 · intro g
   have g' := of_decide_eq_true g
   exact ⟨c1, c2, c3, c4, c5, hinv, c6, fun w hw => by rw [hh w hw]; omega⟩
 · intro e
   have := e.hd _ (List.getElem?_eq_getElem c7)
   exact decide_eq_true (by omega)
set_option maxHeartbeats 16000000 in
set_option maxRecDepth 100000 in
theorem opValid_c (p : ProgH) (o : Op) (w : World) (h : At w [fR (progO p)]) :
   Calls Tryz.prog 168 #[progV p, .agg (cOp o).toArray] w (Tells w (OpOk p.pure o)) := by
 refine calls2 Tryz.func168 rfl tabOk w _ rfl _ rfl _ h ⟨rfl, rfl, trivial⟩ _ _ (by decide) ?_
 refine CaseB.mk (fun k1 => ?_) (fun k1 => ?_)
 · have hx := opOk1 (p := p.pure) (o := o) (by simpa using k1)
   apply CaseB.mk <;> intro g
   · have g' : o.on = 0 := by simpa using g
     refine stop_call _ cl106 rfl rfl rfl rfl ⟨rfl, rfl⟩ (fun A w hW => isValue_c _ w) ?_
     rintro v L ⟨rfl, rfl⟩
     exact ret0 ⟨_, rfl, by rw [hx]; simp [g'], rfl⟩ (fun _ => rfl)
   · have g' : ¬ o.on = 0 := by simpa using g
     exact ret0 ⟨_, rfl, tno fun e => g' (hx.1 e).1, rfl⟩ (fun _ => rfl)
 refine CaseB.mk (fun k2 => ?_) (fun k2 => ?_)
 · refine CaseB.mk (fun _ => ?_) (fun g => by rw [k2] at g; cases g)
   have hx := opOk2 (p := p.pure) (o := o) (.inl (by simpa using k2))
   refine draw_start tabOk z107 z107 z107 200 [((0, 0), .v (p.h0.val p.sems.length)), ((1, 0), .v (.int .i64 o.kind)), ((1, 1), .v (.int .i64 o.on)), ((1, 2), .v (.int .i64 o.arg))] [0] [_] z126 z140 ⟨rfl, trivial⟩ rfl ?_
   refine d_call _ cl201 rfl rfl rfl rfl ⟨rfl, rfl⟩ (fun A w hW => opOn_c p.h0 p.sems.length o (A 1) w ⟨hW.var rfl rfl, trivial⟩) ?_
   rintro v L ⟨b, rfl, hb, rfl⟩
   refine CaseB.mk (fun g1 => ?_) (fun g1 => ?_)
   · obtain ⟨c1, c2⟩ := hb.1 g1
     have hlt : o.on.toNat < p.sems.length := by omega
     have e : p.pure.sems.getD o.on.toNat 0 = p.sems[o.on.toNat] := by simp [ProgH.pure, List.getD, hlt]
     refine CaseB.mk (fun g2 => ?_) (fun g2 => ?_)
     · have c3 : 1 ≤ o.arg := by simp at g2; omega
       refine d_idx (ti := tiOf tab) encInt tabOk rfl rfl rfl rfl rfl ⟨rfl, rfl⟩ (rdVia 0 rfl (.ofR (progO_sems p))) o.on.toNat (by omega) z47 (fun ad => ?_)
       refine ret0 ⟨_, rfl, ?_, rfl⟩ (fun _ => rfl)
       rw [hx, e]
       show _ ↔ (0 ≤ o.on ∧ o.on < (p.sems.length : Int)) ∧ _
       simp [c1, c2, c3]
     · have c3 : ¬ 1 ≤ o.arg := by simp at g2; omega
       exact ret0 ⟨_, rfl, tno fun e => c3 (hx.1 e).2.1, rfl⟩ (fun _ => rfl)
   · exact ret0 ⟨_, rfl, tno fun e => z85, rfl⟩ (fun _ => rfl)
 refine CaseB.mk (fun k3 => ?_) (fun k3 => ?_)
 · skip
   have hx := opOk2 (p := p.pure) (o := o) (.inr (by simpa using k3))
   refine draw_start tabOk z107 z107 z107 200 [((0, 0), .v (p.h0.val p.sems.length)), ((1, 0), .v (.int .i64 o.kind)), ((1, 1), .v (.int .i64 o.on)), ((1, 2), .v (.int .i64 o.arg))] [0] [_] z126 z140 ⟨rfl, trivial⟩ rfl ?_
   refine d_call _ cl201 rfl rfl rfl rfl ⟨rfl, rfl⟩ (fun A w hW => opOn_c p.h0 p.sems.length o (A 1) w ⟨hW.var rfl rfl, trivial⟩) ?_
   rintro v L ⟨b, rfl, hb, rfl⟩
   refine CaseB.mk (fun g1 => ?_) (fun g1 => ?_)
   · obtain ⟨c1, c2⟩ := hb.1 g1
     have hlt : o.on.toNat < p.sems.length := by omega
     have e : p.pure.sems.getD o.on.toNat 0 = p.sems[o.on.toNat] := by simp [ProgH.pure, List.getD, hlt]
     refine CaseB.mk (fun g2 => ?_) (fun g2 => ?_)
     · have c3 : 1 ≤ o.arg := by simp at g2; omega
       refine d_idx (ti := tiOf tab) encInt tabOk rfl rfl rfl rfl rfl ⟨rfl, rfl⟩ (rdVia 0 rfl (.ofR (progO_sems p))) o.on.toNat (by omega) z47 (fun ad => ?_)
       refine ret0 ⟨_, rfl, ?_, rfl⟩ (fun _ => rfl)
       rw [hx, e]
       show _ ↔ (0 ≤ o.on ∧ o.on < (p.sems.length : Int)) ∧ _
       simp [c1, c2, c3]
     · have c3 : ¬ 1 ≤ o.arg := by simp at g2; omega
       exact ret0 ⟨_, rfl, tno fun e => c3 (hx.1 e).2.1, rfl⟩ (fun _ => rfl)
   · exact ret0 ⟨_, rfl, tno fun e => z85, rfl⟩ (fun _ => rfl)
 refine CaseB.mk (fun k4 => ?_) (fun k4 => ?_)
 · have hx := opOk4 (p := p.pure) (o := o) (by simpa using k4)
   apply CaseB.mk <;> intro g
   · have g1 : 0 ≤ o.on := by simp at g; omega
     apply CaseB.mk <;> intro g
     · have g2 : o.on ≤ 2 := by simp at g; omega
       refine stop_call _ cl106 rfl rfl rfl rfl ⟨rfl, rfl⟩ (fun A w hW => isValue_c _ w) ?_
       rintro v L ⟨rfl, rfl⟩
       exact ret0 ⟨_, rfl, by rw [hx]; simp [g1, g2], rfl⟩ (fun _ => rfl)
     · have g2 : ¬ o.on ≤ 2 := by simp at g; omega
       exact ret0 ⟨_, rfl, tno fun e => g2 (hx.1 e).2.1, rfl⟩ (fun _ => rfl)
   · have g1 : ¬ 0 ≤ o.on := by simp at g; omega
     exact ret0 ⟨_, rfl, tno fun e => g1 (hx.1 e).1, rfl⟩ (fun _ => rfl)
 refine CaseB.mk (fun k5 => ?_) (fun k5 => ?_)
 · skip
   have hx := opOk5 (p := p.pure) (o := o) (by simpa using k5)
   refine stop_call _ cl201 rfl rfl rfl rfl ⟨rfl, rfl⟩ (fun A w hW => opOn_c p.h1 p.groups.length o (A 1) w ⟨hW.var rfl rfl, trivial⟩) ?_
   rintro v L ⟨b, rfl, hb, rfl⟩
   refine CaseB.mk (fun g1 => ?_) (fun g1 => ?_)
   rotate_left
   · exact ret0 ⟨_, rfl, tno fun e => z85, rfl⟩ (fun _ => rfl)
   have c := hb.1 g1
   have c' : 0 ≤ o.on ∧ o.on < (p.pure.groups.length : Int) := c
   refine CaseB.mk (fun g2 => ?_) (fun g2 => ?_)
   · have c3 : -9 ≤ o.arg := by simp at g2; omega
     exact ret0 ⟨_, rfl, by rw [hx]; simp only [c', c3, true_and, and_self]; simp, rfl⟩ (fun _ => rfl)
   · have c3 : ¬ -9 ≤ o.arg := by simp at g2; omega
     exact ret0 ⟨_, rfl, tno fun e => c3 (hx.1 e).2.1, rfl⟩ (fun _ => rfl)
 refine CaseB.mk (fun k6 => ?_) (fun k6 => ?_)
 · skip
   have hx := opOk6 (p := p.pure) (o := o) (by simpa using k6)
   refine stop_call _ cl201 rfl rfl rfl rfl ⟨rfl, rfl⟩ (fun A w hW => opOn_c p.h1 p.groups.length o (A 1) w ⟨hW.var rfl rfl, trivial⟩) ?_
   rintro v L ⟨b, rfl, hb, rfl⟩
   refine CaseB.mk (fun g1 => ?_) (fun g1 => ?_)
   rotate_left
   · exact ret0 ⟨_, rfl, tno fun e => z85, rfl⟩ (fun _ => rfl)
   have c := hb.1 g1
   have c' : 0 ≤ o.on ∧ o.on < (p.pure.groups.length : Int) := c
   exact ret0 ⟨_, rfl, by rw [hx]; simp only [c', true_and, and_self]; simp, rfl⟩ (fun _ => rfl)
 refine CaseB.mk (fun k7 => ?_) (fun k7 => ?_)
 · skip
   have hx := opOk7 (p := p.pure) (o := o) (by simpa using k7)
   refine stop_call _ cl201 rfl rfl rfl rfl ⟨rfl, rfl⟩ (fun A w hW => opOn_c p.h2 p.barriers.length o (A 1) w ⟨hW.var rfl rfl, trivial⟩) ?_
   rintro v L ⟨b, rfl, hb, rfl⟩
   refine CaseB.mk (fun g1 => ?_) (fun g1 => ?_)
   rotate_left
   · exact ret0 ⟨_, rfl, tno fun e => z85, rfl⟩ (fun _ => rfl)
   have c := hb.1 g1
   have c' : 0 ≤ o.on ∧ o.on < (p.pure.barriers.length : Int) := c
   exact ret0 ⟨_, rfl, by rw [hx]; simp only [c', true_and, and_self]; simp, rfl⟩ (fun _ => rfl)
 refine CaseB.mk (fun k8 => ?_) (fun k8 => ?_)
 · skip
   have hx := opOk8 (p := p.pure) (o := o) (by simpa using k8)
   refine stop_call _ cl201 rfl rfl rfl rfl ⟨rfl, rfl⟩ (fun A w hW => opOn_c p.h3 p.rooms.length o (A 1) w ⟨hW.var rfl rfl, trivial⟩) ?_
   rintro v L ⟨b, rfl, hb, rfl⟩
   refine CaseB.mk (fun g1 => ?_) (fun g1 => ?_)
   rotate_left
   · exact ret0 ⟨_, rfl, tno fun e => z85, rfl⟩ (fun _ => rfl)
   have c := hb.1 g1
   have c' : 0 ≤ o.on ∧ o.on < (p.pure.rooms.length : Int) := c
   refine stop_call _ cl106 rfl rfl rfl rfl ⟨rfl, rfl⟩ (fun A w hW => isValue_c _ w) ?_
   rintro v L ⟨rfl, rfl⟩
   exact ret0 ⟨_, rfl, by rw [hx]; simp only [c', true_and, and_self], rfl⟩ (fun _ => rfl)
 refine CaseB.mk (fun k9 => ?_) (fun k9 => ?_)
 · refine CaseB.mk (fun _ => ?_) (fun g => by rw [k9] at g; cases g)
   have hx := opOk9 (p := p.pure) (o := o) (.inl (by simpa using k9))
   refine stop_call _ cl201 rfl rfl rfl rfl ⟨rfl, rfl⟩ (fun A w hW => opOn_c p.h3 p.rooms.length o (A 1) w ⟨hW.var rfl rfl, trivial⟩) ?_
   rintro v L ⟨b, rfl, hb, rfl⟩
   refine CaseB.mk (fun g1 => ?_) (fun g1 => ?_)
   rotate_left
   · exact ret0 ⟨_, rfl, tno fun e => z85, rfl⟩ (fun _ => rfl)
   have c := hb.1 g1
   have c' : 0 ≤ o.on ∧ o.on < (p.pure.rooms.length : Int) := c
   exact ret0 ⟨_, rfl, by rw [hx]; simp only [c', true_and, and_self]; simp, rfl⟩ (fun _ => rfl)
 refine CaseB.mk (fun k10 => ?_) (fun k10 => ?_)
 · skip
   have hx := opOk9 (p := p.pure) (o := o) (.inr (by simpa using k10))
   refine stop_call _ cl201 rfl rfl rfl rfl ⟨rfl, rfl⟩ (fun A w hW => opOn_c p.h3 p.rooms.length o (A 1) w ⟨hW.var rfl rfl, trivial⟩) ?_
   rintro v L ⟨b, rfl, hb, rfl⟩
   refine CaseB.mk (fun g1 => ?_) (fun g1 => ?_)
   rotate_left
   · exact ret0 ⟨_, rfl, tno fun e => z85, rfl⟩ (fun _ => rfl)
   have c := hb.1 g1
   have c' : 0 ≤ o.on ∧ o.on < (p.pure.rooms.length : Int) := c
   exact ret0 ⟨_, rfl, by rw [hx]; simp only [c', true_and, and_self]; simp, rfl⟩ (fun _ => rfl)
 have hno : ¬ OpOk p.pure o := opOk0 (by simp at k1 k2 k3 k4 k5 k6 k7 k8 k9 k10; omega)
 exact ret0 ⟨_, rfl, tno hno, rfl⟩ (fun _ => rfl)
set_option maxHeartbeats 16000000 in
set_option maxRecDepth 100000 in
theorem progValid_c (p : ProgH) (w : World) (h : At w [fR (progO p)]) (hs : p.sems.length ≤ 1048576 ∧ p.groups.length ≤ 1048576 ∧ p.barriers.length ≤ 1048576 ∧ p.rooms.length ≤ 1048576) :
   Calls Tryz.prog 100 #[progV p] w (Tells w (ProgOk p.pure)) := by
 refine calls1 Tryz.func100 rfl tabOk w _ rfl _ rfl _ h ⟨rfl, rfl, trivial⟩ _ (by decide) ?_
 refine stop_call _ cl167 rfl rfl rfl rfl ⟨rfl, rfl⟩ (fun A w hW => within_c p.h0 p.sems 1 9 w ⟨hW.get 0 rfl (.ofR (progO_sems p)), trivial⟩ (by omega)) ?_
 rintro v L ⟨b0, rfl, hb0, rfl⟩
 apply CaseB.mk <;> intro g
 · exact ret0 ⟨_, rfl, tno fun e => (by have := hb0.2 e.sems; rw [this] at g; cases g), rfl⟩ (fun _ => rfl)
 have w0 := hb0.1 z104
 refine stop_call _ cl167 rfl rfl rfl rfl ⟨rfl, rfl⟩ (fun A w hW => within_c p.h1 p.groups 0 9 w ⟨hW.get 0 rfl (.ofR (progO_groups p)), trivial⟩ (by omega)) ?_
 rintro v L ⟨b1, rfl, hb1, rfl⟩
 apply CaseB.mk <;> intro g
 · exact ret0 ⟨_, rfl, tno fun e => (by have := hb1.2 e.groups; rw [this] at g; cases g), rfl⟩ (fun _ => rfl)
 have w1 := hb1.1 z104
 refine stop_call _ cl167 rfl rfl rfl rfl ⟨rfl, rfl⟩ (fun A w hW => within_c p.h2 p.barriers 1 6 w ⟨hW.get 0 rfl (.ofR (progO_barriers p)), trivial⟩ (by omega)) ?_
 rintro v L ⟨b2, rfl, hb2, rfl⟩
 apply CaseB.mk <;> intro g
 · exact ret0 ⟨_, rfl, tno fun e => (by have := hb2.2 e.barriers; rw [this] at g; cases g), rfl⟩ (fun _ => rfl)
 have w2 := hb2.1 z104
 refine stop_call _ cl167 rfl rfl rfl rfl ⟨rfl, rfl⟩ (fun A w hW => within_c p.h3 p.rooms 0 4 w ⟨hW.get 0 rfl (.ofR (progO_rooms p)), trivial⟩ (by omega)) ?_
 rintro v L ⟨b3, rfl, hb3, rfl⟩
 apply CaseB.mk <;> intro g
 · exact ret0 ⟨_, rfl, tno fun e => (by have := hb3.2 e.rooms; rw [this] at g; cases g), rfl⟩ (fun _ => rfl)
 have w3 := hb3.1 z104
 have hlen : p.pure.threads.length = p.threads.length := by simp [ProgH.pure]
 apply CaseB.mk <;> intro g
 · have q : ¬ 1 ≤ p.threads.length := by have g' := of_decide_eq_true g; omega
   exact ret0 ⟨_, rfl, tno fun e => q (hlen ▸ e.n1), rfl⟩ (fun _ => rfl)
 have n1 : 1 ≤ p.threads.length := by have g' := of_decide_eq_false g; omega
 apply CaseB.mk <;> intro g
 · have q : ¬ p.threads.length ≤ 4 := by simp at g; omega
   exact ret0 ⟨_, rfl, tno fun e => q (hlen ▸ e.n4), rfl⟩ (fun _ => rfl)
 have n4 : p.threads.length ≤ 4 := by simp at g; omega
 have hmem : ∀ (k : Nat) (hk : k < p.threads.length), (p.threads[k]).m ∈ p.pure.threads := fun k hk => List.mem_map_of_mem (List.getElem_mem hk)
 refine LoopW.mk ⟨{ k : Nat // k ≤ p.threads.length ∧ ∀ t ∈ p.pure.threads.take k, t.length ≤ 8 ∧ ∀ o ∈ t, OpOk p.pure o },
   fun k => .mk [(1, .p 0 0), (42, .v (p.h4.val p.threads.length)), (43, .v (.int .i64 (p.threads.length : Int))), (44, .v (.int .i64 (k.1 : Int)))] 1 0 [(0, 46, 5)] [((0, 0), .v (p.h0.val p.sems.length)), ((0, 1), .v (p.h1.val p.groups.length)), ((0, 2), .v (p.h2.val p.barriers.length)), ((0, 3), .v (p.h3.val p.rooms.length)), ((0, 4), .v (p.h4.val p.threads.length))] [fR (progO p)],
   fun k => p.threads.length - k.1, ⟨0, Nat.zero_le _, by simp⟩, ?_, ?_⟩
 · exact weak_mk [0] zw2 zw0 zw2 zw5 zw4 rfl rfl
 rintro ⟨k, hk, hinv⟩
 apply CaseB.mk <;> intro g
 · have hlt : k < p.threads.length := by simpa using g
   have hget : p.pure.threads[k]'(by rw [hlen]; exact hlt) = (p.threads[k]).m := by simp [ProgH.pure]
   refine stop_idx encOpSH tabOk rfl rfl rfl rfl rfl ⟨rfl, rfl⟩ (rdVia 0 rfl (.trans (.R_R (progO_threads p)) (.ofR nest_h))) k rfl z47 (fun ad => ?_)
   apply CaseB.mk <;> intro g
   · have q : ¬ (p.threads[k]).m.length ≤ 8 := by simp at g; omega
     exact ret0 ⟨_, rfl, tno fun e => q (e.ops _ (hmem k hlt)).1, rfl⟩ (fun _ => rfl)
   have n8 : (p.threads[k]).m.length ≤ 8 := by simp at g; omega
   refine LoopW.mk ⟨{ j : Nat // j ≤ (p.threads[k]).m.length ∧ ∀ o ∈ (p.threads[k]).m.take j, OpOk p.pure o },
     fun j => .mk [(1, .p 0 0), (42, .v (p.h4.val p.threads.length)), (43, .v (.int .i64 (p.threads.length : Int))), (44, .v (.int .i64 (k : Int))), (51, .v ((p.threads[k]).q.val (p.threads[k]).m.length)), (52, .v (.int .i64 ((p.threads[k]).m.length : Int))), (53, .v (.int .i64 (j.1 : Int)))] 1 0 [(0, 46, 5)] [((0, 0), .v (p.h0.val p.sems.length)), ((0, 1), .v (p.h1.val p.groups.length)), ((0, 2), .v (p.h2.val p.barriers.length)), ((0, 3), .v (p.h3.val p.rooms.length)), ((0, 4), .v (p.h4.val p.threads.length))] [fR (progO p)],
     fun j => (p.threads[k]).m.length - j.1, ⟨0, Nat.zero_le _, by simp⟩, ?_, ?_⟩
   · exact weak_mk [0] zw2 zw0 zw2 zw5 zw4 rfl rfl
   rintro ⟨j, hj, hinv2⟩
   apply CaseB.mk <;> intro g
   · have hlj : j < (p.threads[k]).m.length := by simpa using g
     refine stop_idx encOp tabOk rfl rfl rfl rfl rfl ⟨rfl, rfl⟩ (rdVia 0 rfl (.trans (.R_R (progO_threads p)) (.ofR (threadsO_0 _ _ k hlt)))) j rfl z47 (fun ad2 => ?_)
     refine stop_call _ cl168 rfl rfl rfl rfl ⟨rfl, rfl⟩ (fun A w hW => opValid_c p _ w ⟨hW.get 0 rfl (.refl _), trivial⟩) ?_
     rintro v L ⟨b, rfl, hb, rfl⟩
     apply CaseB.mk <;> intro g
     · exact ret0 ⟨_, rfl, tno fun e => z56, rfl⟩ (fun _ => rfl)
     have hw := e_succ j _ hlj (by omega)
     refine ⟨⟨j + 1, by omega, fun o ho => ?_⟩, ?_, by simp; omega⟩
     · rw [List.take_succ_eq_append_getElem hlj] at ho
       rcases List.mem_append.1 ho with ho | ho
       · exact hinv2 o ho
       · simp at ho; subst ho; exact hb.1 z104
     · exact weak_mk [0] zw1 zw0 zw1 zw5 zw3 rfl rfl
   have hge2 : (p.threads[k]).m.length ≤ j := by simpa using g
   have hw := e_succ k _ hlt (by omega)
   refine ⟨⟨k + 1, by omega, fun t ht => ?_⟩, ?_, by simp; omega⟩
   · rw [List.take_succ_eq_append_getElem (by rw [hlen]; exact hlt)] at ht
     rcases List.mem_append.1 ht with ht | ht
     · exact hinv t ht
     · simp only [List.mem_singleton] at ht
       rw [hget] at ht
       subst ht
       exact ⟨n8, by rw [List.take_of_length_le hge2] at hinv2; exact hinv2⟩
   · exact weak_mk [0] zw1 zw0 zw1 zw5 zw3 rfl rfl
 have hge : p.threads.length ≤ k := by simpa using g
 refine ret0 ⟨_, rfl, tyes ⟨w0, w1, w2, w3, by rw [hlen]; exact n1, by rw [hlen]; exact n4, fun t ht => ?_⟩, rfl⟩ (fun _ => rfl)
 rw [List.take_of_length_le (by rw [hlen]; exact hge)] at hinv
 exact hinv t ht
def rest (ops : List Op) : Int := if ops.length = 0 then 3 else 0
def start (p : Prog) : State := ⟨p.threads.map fun _ => 0, p.threads.map rest, p.sems.map fun n => ⟨n, n, []⟩, [⟨0, 0, 0, []⟩, ⟨0, 0, 0, []⟩, ⟨0, 0, 0, []⟩], p.groups.map fun n => ⟨n, []⟩, p.barriers.map fun n => ⟨n, 0, []⟩, p.rooms.map fun n => ⟨n, [], [], [], false⟩, [], 0⟩
def State.zero : State := ⟨[], [], [], [], [], [], [], [], 0⟩
def StateH.zero : StateH := ⟨[], [], [], [], [], [], [], [], 0, ⟨none, 0⟩, ⟨none, 0⟩, ⟨none, 0⟩, ⟨none, 0⟩, ⟨none, 0⟩, ⟨none, 0⟩, ⟨none, 0⟩, ⟨none, 0⟩⟩
theorem zero_nil : ∀ g ∈ stateO StateH.zero, nilFact g := by
 intro g hg
 simp [stateO, StateH.zero, semsO, oncesO, groupsO, barriersO, chansO, nestO] at hg
 rcases hg with rfl | rfl | rfl | rfl | rfl | rfl | rfl | rfl <;> exact ⟨rfl, rfl, rfl, rfl⟩
def Started (p : Prog) (v : Value) (L : List Fct) : Prop := ∃ (y : StateH) (b : Bool), v = .tuple #[stateV y, .bool b] ∧ (b = true ↔ ProgOk p) ∧ (b = true → y.pure = start p) ∧ (b = false → y.pure = State.zero) ∧ L = [fO (stateO y)]
set_option maxRecDepth 100000 in
theorem szWaiterS_c (i : Sl) (xs : List Waiter) (left : Int) (w : World) (h : At w [slo i cWaiter 2 xs]) (h0 : -1 ≤ left) (h1 : left ≤ 1048576) :
   Calls Tryz.prog 179 #[i.val xs.length, .int .i64 left] w (Ret w fun v L => v = .int .i64 (szN xs.length left) ∧ L = []) := by
 obtain ⟨⟨⟨_, b1, b2, _⟩, _⟩, _⟩ := h
 unfold maxLen at b2
 have e : IntKind.i64.wrap (left - (xs.length : Int)) = left - xs.length := e_wrap (by omega) (by omega)
 refine calls2 Tryz.func179 rfl tabOk w _ rfl _ rfl [] trivial trivial _ _ (by decide) ?_
 refine CaseB.mk (fun h => ?_) (fun h => ?_)
 · rw [e] at h
   have h2 : left - (xs.length : Int) < 0 := by simpa using h
   exact ret0 ⟨by rw [szN, if_pos h2], rfl⟩ (fun _ => rfl)
 · rw [e] at h
   have h2 : ¬ left - (xs.length : Int) < 0 := by simpa using h
   refine ret0 ⟨by rw [szN, if_neg h2], rfl⟩ (fun _ => ?_)
   simp only [resV, SV.den, e]
set_option maxRecDepth 100000 in
theorem toWaiter_c (x : Waiter) (w : World) : Calls Tryz.prog 205 #[.agg (cWaiter x).toArray] w (Ret w fun v L => v = .agg (cWaiter x).toArray ∧ L = []) := by
 refine calls1 Tryz.func205 rfl tabOk w _ rfl _ rfl [] trivial trivial _ (by decide) ?_
 exact ret0 ⟨rfl, rfl⟩ (fun _ => rfl)
set_option maxRecDepth 100000 in
theorem toWaiterS_c (i : Sl) (xs : List Waiter) (w : World) (h : At w [slo i cWaiter 2 xs]) (hb : xs.length ≤ 1048576) :
   Calls Tryz.prog 190 #[i.val xs.length] w (Ret w fun v L => ∃ y : Sl, v = y.val xs.length ∧ L = [own y 193 cWaiter 2 xs]) := by
 refine calls1 Tryz.func190 rfl tabOk w _ rfl _ rfl _ h ⟨rfl, rfl, trivial⟩ _ (by decide) ?_
 refine stop_make encWaiter Waiter0 tabOk rfl rfl rfl rfl rfl (by decide) ⟨rfl, rfl⟩ xs.length rfl z47 z47 (fun y => ?_)
 refine LoopW.mk ⟨{ k : Nat // k ≤ xs.length },
   fun k => .mk [(0, .v (i.val xs.length)), (3, .v (y.val (xs.take k.1 ++ List.replicate (xs.length - k.1) Waiter0).length)), (4, .v (.int .i64 (k.1 : Int)))] 0 0 [] [] [own y 193 cWaiter 2 (xs.take k.1 ++ List.replicate (xs.length - k.1) Waiter0), slo i cWaiter 2 xs],
   fun k => xs.length - k.1, ⟨0, Nat.zero_le _⟩, ?_, ?_⟩
 · exact weak_mk [0, 1] zw8 zw0 zw8 zw5 zw17 rfl rfl
 · rintro ⟨k, hk⟩
   refine CaseB.mk (fun h => ?_) (fun h => ?_)
   · have hlt : k < xs.length := by simpa using h
     have hT : (xs.take k ++ List.replicate (xs.length - k) Waiter0).set k xs[k] = xs.take (k + 1) ++ List.replicate (xs.length - (k + 1)) Waiter0 := by
       rw [List.set_append_right _ _ z106, List.take_succ_eq_append_getElem hlt, show k - (List.take k xs).length = 0 by simp; omega, show xs.length - k = (xs.length - (k + 1)) + 1 by omega, List.replicate_succ, List.append_assoc]
       rfl
     refine stop_idx encWaiter tabOk rfl rfl rfl rfl rfl ⟨rfl, rfl⟩ z40 k rfl z47 (fun ad => ?_)
     refine stop_call _ cl205 rfl rfl rfl rfl ⟨rfl, rfl⟩ (fun A w hW => toWaiter_c _ w) ?_
     rintro v L ⟨rfl, rfl⟩
     refine stop_idxW encWaiter 0 tabOk rfl rfl rfl rfl rfl ⟨rfl, rfl⟩ rfl z90 k rfl z47 (fun g hg => ?_)
     refine stop_storeW encWaiter 0 tabOk rfl rfl rfl rfl rfl rfl rfl rfl hg k 0 (xs[k]) rfl z47 rfl (cWaiter xs[k]) (fun _ => rfl) rfl ?_
     have hw := e_succ k _ hlt (by omega)
     refine ⟨⟨k + 1, by omega⟩, ?_, by simp; omega⟩
     exact weak_mk [0, 1] zw6 zw0 zw6 zw5 zw13 rfl rfl
   · have hge : xs.length ≤ k := by simpa using h
     have hT : xs.take k ++ List.replicate (xs.length - k) Waiter0 = xs := by rw [List.take_of_length_le hge, show xs.length - k = 0 by omega]; simp
     exact retw [0] ⟨y, rfl, rfl⟩ z147 rfl ⟨rfl, trivial⟩ (fun _ => z82)
set_option maxRecDepth 100000 in
theorem eqWaiter_c (x y : Waiter) (w : World) : Calls Tryz.prog 207 #[.agg (cWaiter x).toArray, .agg (cWaiter y).toArray] w (Ret w fun v L => v = .bool (decide (x = y)) ∧ L = []) := by
 have hx : ∀ {a b : Waiter}, a = b ↔ a.t = b.t ∧ a.n = b.n := fun {a b} => ⟨fun h => by subst h; exact ⟨rfl, rfl⟩, fun h => by cases a; cases b; simp_all⟩
 refine calls2 Tryz.func207 rfl tabOk w _ rfl _ rfl [] trivial trivial _ _ (by decide) ?_
 refine CaseB.mk (fun h0 => ?_) (fun h0 => ?_)
 · have g : ¬ x = y := fun e => by subst e; simp at h0
   exact ret0 ⟨by simp [g], rfl⟩ (fun _ => rfl)
 refine CaseB.mk (fun h1 => ?_) (fun h1 => ?_)
 · have g : ¬ x = y := fun e => by subst e; simp at h1
   exact ret0 ⟨by simp [g], rfl⟩ (fun _ => rfl)
 · have g : x = y := hx.2 ⟨by simpa using h0, by simpa using h1⟩
   exact ret0 ⟨by simp [g], rfl⟩ (fun _ => rfl)
set_option maxRecDepth 100000 in
theorem eqWaiterS_c (i j : Sl) (xs ys : List Waiter) (w : World) (h : At w [slo i cWaiter 2 xs, slo j cWaiter 2 ys]) (hb : xs.length ≤ 4294967296) (hb2 : ys.length ≤ 4294967296) :
   Calls Tryz.prog 194 #[i.val xs.length, j.val ys.length] w (Ret w fun v L => v = .bool (decide (xs = ys)) ∧ L = []) := by
 refine calls2 Tryz.func194 rfl tabOk w _ rfl _ rfl _ h ⟨rfl, rfl, rfl, rfl, trivial⟩ _ _ (by decide) ?_
 refine CaseB.mk (fun h => ?_) (fun h => ?_)
 · have hne : xs ≠ ys := by rintro rfl; simp at h
   refine ret0 ⟨?_, rfl⟩ (fun _ => rfl)
   simp [hne]
 · have hl : xs.length = ys.length := by simp at h; omega
   refine LoopW.mk ⟨{ k : Nat // k ≤ xs.length ∧ xs.take k = ys.take k },
     fun p => .mk [(0, .v (i.val xs.length)), (1, .v (j.val ys.length)), (5, .v (.int .i64 p.1))] 0 0 [] [] [slo i cWaiter 2 xs, slo j cWaiter 2 ys],
     fun p => xs.length - p.1, ⟨0, Nat.zero_le _, rfl⟩, ?_, ?_⟩
   · exact weak_mk [0, 1] zw2 zw0 zw2 zw5 zw4 rfl rfl
   · rintro ⟨k, hk, he⟩
     refine CaseB.mk (fun h => ?_) (fun h => ?_)
     · have hlt : k < xs.length := by simpa using h
       have hlt2 : k < ys.length := by omega
       obtain ⟨q1, q2⟩ := e_take he hlt hlt2
       refine draw_start tabOk z107 z107 z107 200 [] [0, 1] [_, _] trivial trivial ⟨rfl, rfl, trivial⟩ rfl ?_
       refine d_idx (ti := tiOf tab) encWaiter tabOk rfl rfl rfl rfl rfl ⟨rfl, rfl⟩ z40 k rfl z47 (fun ad => ?_)
       refine d_idx (ti := tiOf tab) encWaiter tabOk rfl rfl rfl rfl rfl ⟨rfl, rfl⟩ z40 k rfl z47 (fun ad2 => ?_)
       refine d_call _ cl207 rfl rfl rfl rfl ⟨rfl, rfl⟩ (fun A w hW => eqWaiter_c _ _ w) ?_
       rintro v L ⟨rfl, rfl⟩
       refine CaseB.mk (fun h => ?_) (fun h => ?_)
       · have hne := q2 z101
         refine ret0 ⟨?_, rfl⟩ (fun _ => rfl)
         simp [hne]
       · have heq := q1 z101
         have hw := e_succ k _ hlt (by omega)
         refine ⟨⟨k + 1, by omega, heq⟩, ?_, by simp; omega⟩
         exact weak_mk [0, 1] zw1 zw0 zw1 zw5 zw3 rfl rfl
     · have hge : xs.length ≤ k := by simpa using h
       have heq : xs = ys := by rw [List.take_of_length_le hge, List.take_of_length_le (by omega)] at he; exact he
       refine ret0 ⟨?_, rfl⟩ (fun _ => rfl)
       simp [heq]
def markWaiter (k : Nat) : Waiter := ⟨((k : Nat) : Int), ((k + 1 : Nat) : Int)⟩
def marksWaiter (k : Nat) : Nat → List Waiter
 | 0 => []
 | n + 1 => markWaiter k :: marksWaiter (k + 2) n
theorem marksWaiter_len (k n : Nat) : (marksWaiter k n).length = n := by
 induction n generalizing k with
 | zero => rfl
 | succ n ih => simp [marksWaiter, ih]
theorem marksWaiter_get (k n j : Nat) (hj : j < n) : (marksWaiter k n)[j]? = some (markWaiter (k + 2 * j)) := by
 induction n generalizing k j with
 | zero => omega
 | succ n ih =>
   cases j with
   | zero => simp [marksWaiter]
   | succ j => simp only [marksWaiter, List.getElem?_cons_succ]; rw [ih (k + 2) j (by omega)]; congr 2; omega
theorem marksWaiter_set (xs : List Waiter) (k j : Nat) (hj : j < xs.length) : (marksWaiter k j ++ xs.drop j).set j (markWaiter (k + 2 * j)) = marksWaiter k (j + 1) ++ xs.drop (j + 1) := by
 have h1 : marksWaiter k (j + 1) = marksWaiter k j ++ [markWaiter (k + 2 * j)] := by
   apply List.ext_getElem?
   intro q
   rcases Nat.lt_or_ge q j with hq | hq
   · rw [List.getElem?_append_left (by rw [marksWaiter_len]; exact hq), marksWaiter_get _ _ _ hq, marksWaiter_get _ _ _ (by omega)]
   · rcases Nat.eq_or_lt_of_le hq with rfl | hq
     · rw [marksWaiter_get _ _ _ (by omega), List.getElem?_append_right (by rw [marksWaiter_len]; exact Nat.le_refl _), marksWaiter_len]; simp
     · rw [List.getElem?_eq_none (by rw [marksWaiter_len]; omega), List.getElem?_eq_none (by simp [marksWaiter_len]; omega)]
 rw [List.set_append_right _ _ (by rw [marksWaiter_len]; exact Nat.le_refl _), marksWaiter_len, Nat.sub_self, List.drop_eq_getElem_cons hj, h1, List.append_assoc]
 rfl
set_option maxHeartbeats 4000000 in
set_option maxRecDepth 100000 in
theorem markWaiterS_c (i : Sl) (xs : List Waiter) (k : Nat) (w : World) (h : AtG w [own i 193 cWaiter 2 xs] []) (hb : xs.length ≤ 1048576) (hk : k ≤ 1152921504606846976) :
   Calls Tryz.prog 153 #[i.val xs.length, .int .i64 (k : Int)] w (RetG w [own i 193 cWaiter 2 xs] fun v L => v = .int .i64 ((k + 2 * xs.length : Nat) : Int) ∧ L = [own i 193 cWaiter 2 (marksWaiter k xs.length)]) := by
 refine callsG_fn Tryz.func153 rfl tabOk w _ rfl _ rfl _ _ h trivial _ _ rfl rfl ?_
 refine LoopW.mk ⟨{ j : Nat // j ≤ xs.length },
   fun j => .mk [(0, .v (i.val (marksWaiter k j.1 ++ xs.drop j.1).length)), (1, .v (.int .i64 ((k + 2 * j.1 : Nat) : Int))), (5, .v (.int .i64 (j.1 : Int)))] 0 0 [] [] [own i 193 cWaiter 2 (marksWaiter k j.1 ++ xs.drop j.1)],
   fun j => xs.length - j.1, ⟨0, Nat.zero_le _⟩, ?_, ?_⟩
 · refine weak_mk [0] ?_ ?_ ?_ ?_ ?_ rfl rfl
   · exact zw31
   · exact zw0
   · exact zw31
   · exact zw5
   · repeat (first | exact trivial | refine ⟨.inl ⟨_, rfl, (by first | rfl | ((simp [marksWaiter])))⟩, ?_⟩ | refine ⟨.inr z142, ?_⟩)
 · rintro ⟨j, hj⟩
   have hl : (marksWaiter k j ++ xs.drop j).length = xs.length := by rw [List.length_append, marksWaiter_len, List.length_drop]; omega
   refine CaseB.mk (fun h => ?_) (fun h => ?_)
   · have hlt : j < xs.length := by simp only [hl] at h; simpa using h
     have hT := marksWaiter_set xs k j hlt
     have hw := e_succ j _ hlt (by omega)
     have hl2 := Nat.lt_of_lt_of_eq hlt hl.symm
     generalize hq : (marksWaiter k j ++ xs.drop j) = Q at hl hT hl2
     have hw0 : IntKind.i64.wrap (((k + 2 * j : Nat) : Int) + 1) = ((k + 2 * j + 1 : Nat) : Int) := e_succ (k + 2 * j) (k + 2 * xs.length) (by omega) (by omega)
     have hw1 : IntKind.i64.wrap (((k + 2 * j + 1 : Nat) : Int) + 1) = ((k + 2 * j + 2 : Nat) : Int) := e_succ (k + 2 * j + 1) (k + 2 * xs.length) (by omega) (by omega)
     have hwf : IntKind.i64.wrap (IntKind.i64.wrap (((k + 2 * j : Nat) : Int) + 1) + 1) = ((k + 2 * (j + 1) : Nat) : Int) := by rw [hw0, hw1]; congr 1
     refine stop_idxW encWaiter 0 tabOk rfl rfl rfl rfl rfl ⟨rfl, rfl⟩ rfl z90 j rfl hl2 (fun g0 hg0 => ?_)
     refine stop_fldW tabOk rfl rfl rfl rfl ⟨rfl, rfl⟩ ?_
     refine stop_storeW encWaiter 0 tabOk rfl rfl rfl rfl rfl rfl rfl rfl hg0 j 0 (⟨((k + 2 * j : Nat) : Int), Q[j].n⟩ : Waiter) rfl hl2 rfl [.int .i64 ((k + 2 * j : Nat) : Int)] (fun _ => rfl) (by simp [cWaiter]) ?_
     refine stop_idxW encWaiter 0 tabOk rfl rfl rfl rfl rfl ⟨rfl, rfl⟩ rfl z90 j rfl z98 (fun g1 hg1 => ?_)
     refine stop_fldW tabOk rfl rfl rfl rfl ⟨rfl, rfl⟩ ?_
     refine stop_storeW encWaiter 0 tabOk rfl rfl rfl rfl rfl rfl rfl rfl hg1 j 1 (⟨((k + 2 * j : Nat) : Int), ((k + 2 * j + 1 : Nat) : Int)⟩ : Waiter) rfl z98 rfl [.int .i64 ((k + 2 * j + 1 : Nat) : Int)] (fun _ => by simp only [List.map_cons, List.map_nil, SV.den, hw0]) (by simp [cWaiter]) ?_
     have hT2 : ((Q.set j (⟨((k + 2 * j : Nat) : Int), Q[j].n⟩ : Waiter)).set j (⟨((k + 2 * j : Nat) : Int), ((k + 2 * j + 1 : Nat) : Int)⟩ : Waiter)) = marksWaiter k (j + 1) ++ xs.drop (j + 1) := by simp only [List.set_set]; exact hT
     refine ⟨⟨j + 1, by omega⟩, ?_, by simp; omega⟩
     exact weak_mk [0] zw10 zw0 zw10 zw5 zw22 rfl rfl
   · have hge : xs.length ≤ j := by simp only [hl] at h; simpa using h
     have hje : j = xs.length := by omega
     have hT : marksWaiter k j ++ xs.drop j = marksWaiter k xs.length := by rw [hje]; simp
     exact retG [0] ⟨rfl, rfl⟩ z148 rfl ⟨rfl, trivial⟩ (fun _ => z60)
set_option maxHeartbeats 4000000 in
set_option maxRecDepth 100000 in
theorem heldWaiterS_c (i : Sl) (k n : Nat) (w : World) (h : At w [slo i cWaiter 2 (marksWaiter k n)]) (hb : n ≤ 1048576) (hk : k ≤ 1152921504606846976) :
   Calls Tryz.prog 155 #[i.val (marksWaiter k n).length, .int .i64 (k : Int)] w (Ret w fun v L => v = .int .i64 ((k + 2 * n : Nat) : Int) ∧ L = []) := by
 refine calls2 Tryz.func155 rfl tabOk w _ rfl _ rfl _ h ⟨rfl, rfl, trivial⟩ _ _ (by decide) ?_
 refine LoopW.mk ⟨{ j : Nat // j ≤ n },
   fun j => .mk [(0, .v (i.val (marksWaiter k n).length)), (1, .v (.int .i64 ((k + 2 * j.1 : Nat) : Int))), (5, .v (.int .i64 (j.1 : Int)))] 0 0 [] [] [slo i cWaiter 2 (marksWaiter k n)],
   fun j => n - j.1, ⟨0, Nat.zero_le _⟩, ?_, ?_⟩
 · exact weak_mk [0] zw2 zw0 zw2 zw5 zw4 rfl rfl
 · rintro ⟨j, hj⟩
   refine CaseB.mk (fun h => ?_) (fun h => ?_)
   · have hlt : j < n := by rw [marksWaiter_len] at h; simpa using h
     have hlt2 : j < (marksWaiter k n).length := by rw [marksWaiter_len]; exact hlt
     have hv : (marksWaiter k n)[j] = markWaiter (k + 2 * j) := by
       have := marksWaiter_get k n j hlt
       rw [List.getElem?_eq_getElem hlt2] at this
       injection this
     have hw := e_succ j _ hlt (by omega)
     have hw0 : IntKind.i64.wrap (((k + 2 * j : Nat) : Int) + 1) = ((k + 2 * j + 1 : Nat) : Int) := e_succ (k + 2 * j) (k + 2 * n) (by omega) (by omega)
     have hw1 : IntKind.i64.wrap (((k + 2 * j + 1 : Nat) : Int) + 1) = ((k + 2 * j + 2 : Nat) : Int) := e_succ (k + 2 * j + 1) (k + 2 * n) (by omega) (by omega)
     have hwf : IntKind.i64.wrap (IntKind.i64.wrap (((k + 2 * j : Nat) : Int) + 1) + 1) = ((k + 2 * (j + 1) : Nat) : Int) := by rw [hw0, hw1]; congr 1
     refine stop_idx encWaiter tabOk rfl rfl rfl rfl rfl ⟨rfl, rfl⟩ z40 j rfl hlt2 (fun ad0 => ?_)
     refine CaseB.mk (fun h => by simp only [hv] at h; simp [markWaiter] at h) (fun h => ?_)
     refine stop_idx encWaiter tabOk rfl rfl rfl rfl rfl ⟨rfl, rfl⟩ z40 j rfl hlt2 (fun ad1 => ?_)
     refine CaseB.mk (fun h => by simp only [hv, hw0] at h; simp [markWaiter] at h) (fun h => ?_)
     refine ⟨⟨j + 1, by omega⟩, ?_, by simp; omega⟩
     exact weak_mk [0] zw14 zw0 zw14 zw5 zw34 rfl rfl
   · have hge : n ≤ j := by rw [marksWaiter_len] at h; simpa using h
     have hje : j = n := by omega
     subst hje
     exact ret0 ⟨rfl, rfl⟩ (fun _ => rfl)
def Sem.small20 (m : Sem) : Prop := m.queue.length ≤ 1048576
def szSemM (m : Sem) (left : Int) : Int := szStep m.queue.length left fun a0 => a0
theorem szSemM_gen (m : Sem) (l : Int) (hl : l ≤ 1048576) (h : ¬ szSemM m l < 0) : m.small20 ∧ szSemM m l ≤ l := by
 simp only [szSemM, szStep, szN] at h ⊢
 simp only [Sem.small20]
 omega
set_option maxRecDepth 100000 in
theorem szSem_c (m : Sem) (s0 : Sl) (left : Int) (w : World) (h : At w [slo s0 cWaiter 2 m.queue]) (h0 : -1 ≤ left) (h1 : left ≤ 1048576) :
   Calls Tryz.prog 115 #[semV m s0, .int .i64 left] w (Ret w fun v L => v = .int .i64 (szSemM m left) ∧ L = []) := by
 refine calls2 Tryz.func115 rfl tabOk w _ rfl _ rfl _ h ⟨rfl, rfl, trivial⟩ _ _ (by decide) ?_
 refine stop_call _ cl179 rfl rfl rfl rfl ⟨rfl, rfl⟩ (fun A w hW => szWaiterS_c s0 m.queue left w ⟨z39, trivial⟩ h0 h1) ?_
 rintro v L ⟨rfl, rfl⟩
 refine CaseB.mk (fun g0 => ?_) (fun g0 => ?_)
 · have q : szN m.queue.length (left) < 0 := by simpa using g0
   refine ret0 ⟨?_, rfl⟩ (fun _ => rfl)
   simp [szSemM, szStep, q]
 have q0 : ¬ szN m.queue.length (left) < 0 := by simpa using g0
 refine ret0 ⟨?_, rfl⟩ (fun _ => rfl)
 simp [szSemM, szStep, q0]
set_option maxRecDepth 100000 in
theorem toSem_c (m : Sem) (s0 : Sl) (w : World) (h : At w [slo s0 cWaiter 2 m.queue]) (hb : m.small20) :
   Calls Tryz.prog 133 #[semV m s0] w (Ret w fun v L => ∃ y0 : Sl, v = semV m y0 ∧ L = [own y0 193 cWaiter 2 m.queue]) := by
 have b0 := hb
 unfold Sem.small20 at b0
 refine calls1 Tryz.func133 rfl tabOk w _ rfl _ rfl _ h ⟨rfl, rfl, trivial⟩ _ (by decide) ?_
 refine stop_call _ cl190 rfl rfl rfl rfl ⟨rfl, rfl⟩ (fun A w hW => toWaiterS_c s0 m.queue w ⟨z39, trivial⟩ b0) ?_
 rintro v L ⟨y0, rfl, rfl⟩
 exact retw [0] ⟨y0, rfl, rfl⟩ z146 rfl ⟨rfl, trivial⟩ (fun _ => rfl)
set_option maxRecDepth 100000 in
theorem eqSem_c (m m2 : Sem) (s0 u0 : Sl) (w : World) (h : At w [slo s0 cWaiter 2 m.queue, slo u0 cWaiter 2 m2.queue]) (hb : m.small20) (hb2 : m2.small20) :
   Calls Tryz.prog 146 #[semV m s0, semV m2 u0] w (Ret w fun v L => v = .bool (decide (m = m2)) ∧ L = []) := by
 have hx : ∀ {a b : Sem}, a = b ↔ a.free = b.free ∧ a.limit = b.limit ∧ a.queue = b.queue := fun {a b} => ⟨fun h => by subst h; exact ⟨rfl, rfl, rfl⟩, fun h => by cases a; cases b; simp_all⟩
 have b0 := hb
 unfold Sem.small20 at b0
 have c0 := hb2
 unfold Sem.small20 at c0
 refine calls2 Tryz.func146 rfl tabOk w _ rfl _ rfl _ h ⟨rfl, rfl, rfl, rfl, trivial⟩ _ _ (by decide) ?_
 refine CaseB.mk (fun h0 => ?_) (fun h0 => ?_)
 · have g : ¬ m = m2 := fun e => by subst e; simp at h0
   exact ret0 ⟨by simp [g], rfl⟩ (fun _ => rfl)
 refine CaseB.mk (fun h1 => ?_) (fun h1 => ?_)
 · have g : ¬ m = m2 := fun e => by subst e; simp at h1
   exact ret0 ⟨by simp [g], rfl⟩ (fun _ => rfl)
 refine stop_call _ cl194 rfl rfl rfl rfl ⟨rfl, rfl⟩ (fun A w hW => eqWaiterS_c s0 u0 m.queue m2.queue w ⟨z39, z39, trivial⟩ (by omega) (by omega)) ?_
 rintro v L ⟨rfl, rfl⟩
 refine CaseB.mk (fun h2 => ?_) (fun h2 => ?_)
 · have g : ¬ m = m2 := fun e => by subst e; simp at h2
   exact ret0 ⟨by simp [g], rfl⟩ (fun _ => rfl)
 have g : m = m2 := hx.2 ⟨by simpa using h0, by simpa using h1, by simpa using h2⟩
 exact ret0 ⟨by simp [g], rfl⟩ (fun _ => rfl)
set_option maxRecDepth 100000 in
theorem szSemS_c (h : Sl) (xs : List SemH) (left : Int) (w : World) (hh : At w [fR (semsO h xs)]) (h0 : -1 ≤ left) (h1 : left ≤ 1048576) :
   Calls Tryz.prog 46 #[h.val xs.length, .int .i64 left] w (Ret w fun v L => v = .int .i64 (szAll szSemM (xs.map (·.m)) left) ∧ L = []) := by
 have hrd := (Rd.ofR (nest_h (xs := xs))).p w hh.1.1
 obtain ⟨_, b1, b2, _⟩ := hrd
 unfold maxLen at b2
 have e : IntKind.i64.wrap (left - (xs.length : Int)) = left - xs.length := e_wrap (by omega) (by omega)
 refine calls2 Tryz.func46 rfl tabOk w _ rfl _ rfl _ hh ⟨rfl, rfl, trivial⟩ _ _ (by decide) ?_
 apply CaseB.mk <;> intro g
 · rw [e] at g
   have g2 : left - (xs.length : Int) < 0 := by simpa using g
   exact ret0 ⟨by simp [szAll, g2], rfl⟩ (fun _ => rfl)
 · rw [e] at g
   have g2 : ¬ left - (xs.length : Int) < 0 := by simpa using g
   refine LoopW.mk ⟨{ p : Nat × Int // p.1 ≤ xs.length ∧ szList szSemM ((xs.map (·.m)).drop p.1) p.2 = szAll szSemM (xs.map (·.m)) left ∧ -1 ≤ p.2 ∧ p.2 ≤ 1048576 },
     fun p => .mk [(0, .v (h.val xs.length)), (1, .v (.int .i64 p.1.2)), (5, .v (.int .i64 (p.1.1 : Int)))] 0 0 [] [] [fR (semsO h xs)],
     fun p => xs.length - p.1.1, ⟨(0, left - xs.length), Nat.zero_le _, by simp [szAll, g2], by omega, by omega⟩, ?_, ?_⟩
   · exact weak_mk [0] zw12 zw0 zw12 zw5 zw26 rfl rfl
   · rintro ⟨⟨k, l⟩, hk, hl, hl0, hl1⟩
     simp only at hk hl hl0 hl1
     refine CaseB.mk (fun g3 => ?_) (fun g3 => ?_)
     · have hlt : k < xs.length := by simpa using g3
       rw [List.drop_eq_getElem_cons z99] at hl
       simp only [szList, List.getElem_map] at hl
       refine stop_idx encSemH tabOk rfl rfl rfl rfl rfl ⟨rfl, rfl⟩ (rdVia 0 rfl (.ofR nest_h)) k rfl z47 (fun ad => ?_)
       refine stop_call _ cl115 rfl rfl rfl rfl ⟨rfl, rfl⟩ (fun A w hW => szSem_c _ _ _ w ⟨hW.get 0 rfl (.ofR (semsO_0 h xs k hlt)), trivial⟩ hl0 hl1) ?_
       rintro v L ⟨rfl, rfl⟩
       refine CaseB.mk (fun g4 => ?_) (fun g4 => ?_)
       · have q : szSemM xs[k].m l < 0 := by simpa using g4
         rw [if_pos q] at hl
         exact ret0 ⟨by rw [← hl], rfl⟩ (fun _ => rfl)
       · have q : ¬ szSemM xs[k].m l < 0 := by simpa using g4
         rw [if_neg q] at hl
         have q2 := (szSemM_gen xs[k].m l hl1 q).2
         have hw := e_succ k _ hlt (by omega)
         refine ⟨⟨(k + 1, szSemM xs[k].m l), hlt, hl, by omega, by omega⟩, ?_, by simp only; omega⟩
         exact weak_mk [0] zw1 zw0 zw1 zw5 zw3 rfl rfl
     · have hge : xs.length ≤ k := by simpa using g3
       rw [List.drop_eq_nil_of_le z97] at hl
       exact ret0 ⟨congrArg (Value.int .i64) hl, rfl⟩ (fun _ => rfl)
def SemH0 : SemH := ⟨⟨0, 0, []⟩, ⟨none, 0⟩⟩
set_option maxRecDepth 100000 in
theorem toSemS_c (h : Sl) (xs : List SemH) (w : World) (hh : At w [fR (semsO h xs)]) (hl : xs.length ≤ 1048576) (hb : ∀ x ∈ xs, Sem.small20 x.m) :
   Calls Tryz.prog 55 #[h.val xs.length] w (Ret w fun v L => ∃ (y : Sl) (ys : List SemH), v = y.val ys.length ∧ ys.map (·.m) = xs.map (·.m) ∧ L = [fO (semsO y ys)]) := by
 refine calls1 Tryz.func55 rfl tabOk w _ rfl _ rfl _ hh ⟨rfl, rfl, trivial⟩ _ (by decide) ?_
 refine stop_make encSemH SemH0 tabOk rfl rfl rfl rfl rfl (by decide) ⟨rfl, rfl⟩ xs.length rfl z47 z47 (fun y => ?_)
 refine LoopW.mk ⟨{ p : Nat × List SemH // p.1 ≤ xs.length ∧ p.2.map (·.m) = (xs.map (·.m)).take p.1 },
   fun p => .mk [(0, .v (h.val xs.length)), (3, .v (y.val (p.1.2 ++ List.replicate (xs.length - p.1.1) SemH0).length)), (4, .v (.int .i64 (p.1.1 : Int)))] 0 0 [] [] [own y 95 cSemH 3 (p.1.2 ++ List.replicate (xs.length - p.1.1) SemH0), fO (p.1.2.flatMap semO), fR (semsO h xs)],
   fun p => xs.length - p.1.1, ⟨(0, []), Nat.zero_le _, by simp⟩, ?_, ?_⟩
 · refine weak_shift (.joinO [] (Gs := []) trivial rfl (.refl _)) ?_
   exact weak_mk [1, 0, 2] zw8 zw0 zw8 zw5 zw17 rfl rfl
 · rintro ⟨⟨k, ys⟩, hk, hy⟩
   simp only at hk hy
   have hyl : ys.length = k := by have := congrArg List.length hy; simp at this; omega
   apply CaseB.mk <;> intro g
   · have hlt : k < xs.length := by simpa using g
     have hlt2 : k < (ys ++ List.replicate (xs.length - k) SemH0).length := by simp; omega
     refine stop_idx encSemH tabOk rfl rfl rfl rfl rfl ⟨rfl, rfl⟩ (rdVia 2 rfl (.ofR nest_h)) k rfl z47 (fun ad => ?_)
     refine stop_call _ cl133 rfl rfl rfl rfl ⟨rfl, rfl⟩ (fun A w hW => toSem_c _ _ w ⟨hW.get 2 rfl (.ofR (semsO_0 h xs k hlt)), trivial⟩ (hb _ (List.getElem_mem hlt))) ?_
     rintro v L ⟨y0, rfl, rfl⟩
     generalize hx : (⟨xs[k].m, y0⟩ : SemH) = x
     have hxm : x.m = xs[k].m := by rw [← hx]
     have hT : (ys ++ List.replicate (xs.length - k) SemH0).set k x = (ys ++ [x]) ++ List.replicate (xs.length - (k + 1)) SemH0 := by
       rw [List.set_append_right _ _ (by omega), show k - ys.length = 0 by omega, show xs.length - k = (xs.length - (k + 1)) + 1 by omega, List.replicate_succ, List.append_assoc]
       rfl
     generalize hq : (ys ++ List.replicate (xs.length - k) SemH0) = Q at hT hlt2
     refine stop_idxW encSemH 1 tabOk rfl rfl rfl rfl rfl ⟨rfl, rfl⟩ rfl z90 k rfl hlt2 (fun g1 hg1 => ?_)
     refine stop_storeW encSemH 1 tabOk rfl rfl rfl rfl rfl rfl rfl rfl hg1 k 0 x rfl hlt2 rfl (cSemH x) (fun _ => by rw [← hx]; rfl) z76 ?_
     have hw := e_succ k _ hlt (by omega)
     refine ⟨⟨(k + 1, ys ++ [x]), hlt, by rw [List.map_append]; exact map_take_succ hlt hy hxm⟩, ?_, by simp only; omega⟩
     refine weak_shift (.joinO [1, 2] (Gs := [[_], _]) z138 rfl (G := (ys ++ [x]).flatMap semO) (by subst hx; rw [List.flatMap_append]; exact (List.Perm.of_eq (by simp [semO])).trans List.perm_append_comm)) ?_
     exact weak_mk [1, 0, 2] zw6 zw0 zw6 zw5 zw13 rfl rfl
   · have hge : xs.length ≤ k := by simpa using g
     have hT : ys ++ List.replicate (xs.length - k) SemH0 = ys := by rw [show xs.length - k = 0 by omega]; simp
     simp only [hT]
     refine ret_shift (.joinO [0, 1] (Gs := [[_], _]) z138 rfl (G := semsO y ys) (.of_eq (by simp [semsO, nestO]))) ?_
     exact retw [0] ⟨y, ys, rfl, by rw [hy, List.take_of_length_le z97], rfl⟩ z146 rfl ⟨rfl, trivial⟩ (fun _ => rfl)
set_option maxRecDepth 100000 in
theorem eqSemS_c (h h2 : Sl) (xs ys : List SemH) (w : World) (hh : At w [fR (semsO h xs), fR (semsO h2 ys)]) (hl : xs.length ≤ 1048576) (hb : ∀ x ∈ xs, Sem.small20 x.m) (hb2 : ∀ x ∈ ys, Sem.small20 x.m) :
   Calls Tryz.prog 77 #[h.val xs.length, h2.val ys.length] w (Ret w fun v L => v = .bool (decide (xs.map (·.m) = ys.map (·.m))) ∧ L = []) := by
 refine calls2 Tryz.func77 rfl tabOk w _ rfl _ rfl _ hh ⟨rfl, rfl, rfl, rfl, trivial⟩ _ _ (by decide) ?_
 apply CaseB.mk <;> intro g
 · have hne : xs.map (·.m) ≠ ys.map (·.m) := fun e => by
     have := congrArg List.length e
     simp at this g
     omega
   refine ret0 ⟨?_, rfl⟩ (fun _ => rfl)
   simp [hne]
 · have hll : xs.length = ys.length := by simp at g; omega
   refine LoopW.mk ⟨{ k : Nat // k ≤ xs.length ∧ (xs.map (·.m)).take k = (ys.map (·.m)).take k },
     fun p => .mk [(0, .v (h.val xs.length)), (1, .v (h2.val ys.length)), (5, .v (.int .i64 p.1))] 0 0 [] [] [fR (semsO h xs), fR (semsO h2 ys)],
     fun p => xs.length - p.1, ⟨0, Nat.zero_le _, rfl⟩, ?_, ?_⟩
   · exact weak_mk [0, 1] zw2 zw0 zw2 zw5 zw4 rfl rfl
   · rintro ⟨k, hk, he⟩
     refine CaseB.mk (fun g2 => ?_) (fun g2 => ?_)
     · have hlt : k < xs.length := by simpa using g2
       have hlt2 : k < ys.length := by omega
       obtain ⟨q1, q2⟩ := take_eq_succ he z99 z95
       simp only [List.getElem_map] at q1 q2
       refine draw_start tabOk z107 z107 z107 200 [] [0, 1] [_, _] trivial trivial ⟨rfl, rfl, trivial⟩ rfl ?_
       refine d_idx (ti := tiOf tab) encSemH tabOk rfl rfl rfl rfl rfl ⟨rfl, rfl⟩ (rdVia 0 rfl (.ofR nest_h)) k rfl z47 (fun ad => ?_)
       refine d_idx (ti := tiOf tab) encSemH tabOk rfl rfl rfl rfl rfl ⟨rfl, rfl⟩ (rdVia 1 rfl (.ofR nest_h)) k rfl z47 (fun ad2 => ?_)
       refine d_call _ cl146 rfl rfl rfl rfl ⟨rfl, rfl⟩ (fun A w hW => eqSem_c _ _ _ _ w ⟨hW.get 0 rfl (.ofR (semsO_0 h xs k hlt)), hW.get 1 rfl (.ofR (semsO_0 h2 ys k hlt2)), trivial⟩ (hb _ (List.getElem_mem hlt)) (hb2 _ (List.getElem_mem hlt2))) ?_
       rintro v L ⟨rfl, rfl⟩
       refine CaseB.mk (fun g3 => ?_) (fun g3 => ?_)
       · have hne := q2 z100
         refine ret0 ⟨?_, rfl⟩ (fun _ => rfl)
         simp [hne]
       · have heq := q1 z100
         have hw := e_succ k _ hlt (by omega)
         refine ⟨⟨k + 1, by omega, heq⟩, ?_, by simp; omega⟩
         exact weak_mk [0, 1] zw1 zw0 zw1 zw5 zw3 rfl rfl
     · have hge : xs.length ≤ k := by simpa using g2
       have heq : xs.map (·.m) = ys.map (·.m) := by rw [List.take_of_length_le z97, List.take_of_length_le z106] at he; exact he
       refine ret0 ⟨?_, rfl⟩ (fun _ => rfl)
       simp [heq]
def Once.small20 (m : Once) : Prop := m.waits.length ≤ 1048576
def szOnceM (m : Once) (left : Int) : Int := szStep m.waits.length left fun a0 => a0
theorem szOnceM_gen (m : Once) (l : Int) (hl : l ≤ 1048576) (h : ¬ szOnceM m l < 0) : m.small20 ∧ szOnceM m l ≤ l := by
 simp only [szOnceM, szStep, szN] at h ⊢
 simp only [Once.small20]
 omega
set_option maxRecDepth 100000 in
theorem szOnce_c (m : Once) (s0 : Sl) (left : Int) (w : World) (h : At w [slo s0 cInt 1 m.waits]) (h0 : -1 ≤ left) (h1 : left ≤ 1048576) :
   Calls Tryz.prog 116 #[onceV m s0, .int .i64 left] w (Ret w fun v L => v = .int .i64 (szOnceM m left) ∧ L = []) := by
 refine calls2 Tryz.func116 rfl tabOk w _ rfl _ rfl _ h ⟨rfl, rfl, trivial⟩ _ _ (by decide) ?_
 refine stop_call _ cl44 rfl rfl rfl rfl ⟨rfl, rfl⟩ (fun A w hW => szIntS_c s0 m.waits left w ⟨z39, trivial⟩ h0 h1) ?_
 rintro v L ⟨rfl, rfl⟩
 refine CaseB.mk (fun g0 => ?_) (fun g0 => ?_)
 · have q : szN m.waits.length (left) < 0 := by simpa using g0
   refine ret0 ⟨?_, rfl⟩ (fun _ => rfl)
   simp [szOnceM, szStep, q]
 have q0 : ¬ szN m.waits.length (left) < 0 := by simpa using g0
 refine ret0 ⟨?_, rfl⟩ (fun _ => rfl)
 simp [szOnceM, szStep, q0]
set_option maxRecDepth 100000 in
theorem toOnce_c (m : Once) (s0 : Sl) (w : World) (h : At w [slo s0 cInt 1 m.waits]) (hb : m.small20) :
   Calls Tryz.prog 134 #[onceV m s0] w (Ret w fun v L => ∃ y0 : Sl, v = onceV m y0 ∧ L = [own y0 3 cInt 1 m.waits]) := by
 have b0 := hb
 unfold Once.small20 at b0
 refine calls1 Tryz.func134 rfl tabOk w _ rfl _ rfl _ h ⟨rfl, rfl, trivial⟩ _ (by decide) ?_
 refine stop_call _ cl40 rfl rfl rfl rfl ⟨rfl, rfl⟩ (fun A w hW => toIntS_c s0 m.waits w ⟨z39, trivial⟩ b0) ?_
 rintro v L ⟨y0, rfl, rfl⟩
 exact retw [0] ⟨y0, rfl, rfl⟩ z146 rfl ⟨rfl, trivial⟩ (fun _ => rfl)
set_option maxRecDepth 100000 in
theorem eqOnce_c (m m2 : Once) (s0 u0 : Sl) (w : World) (h : At w [slo s0 cInt 1 m.waits, slo u0 cInt 1 m2.waits]) (hb : m.small20) (hb2 : m2.small20) :
   Calls Tryz.prog 147 #[onceV m s0, onceV m2 u0] w (Ret w fun v L => v = .bool (decide (m = m2)) ∧ L = []) := by
 have hx : ∀ {a b : Once}, a = b ↔ a.state = b.state ∧ a.owner = b.owner ∧ a.value = b.value ∧ a.waits = b.waits := fun {a b} => ⟨fun h => by subst h; exact ⟨rfl, rfl, rfl, rfl⟩, fun h => by cases a; cases b; simp_all⟩
 have b0 := hb
 unfold Once.small20 at b0
 have c0 := hb2
 unfold Once.small20 at c0
 refine calls2 Tryz.func147 rfl tabOk w _ rfl _ rfl _ h ⟨rfl, rfl, rfl, rfl, trivial⟩ _ _ (by decide) ?_
 refine CaseB.mk (fun h0 => ?_) (fun h0 => ?_)
 · have g : ¬ m = m2 := fun e => by subst e; simp at h0
   exact ret0 ⟨by simp [g], rfl⟩ (fun _ => rfl)
 refine CaseB.mk (fun h1 => ?_) (fun h1 => ?_)
 · have g : ¬ m = m2 := fun e => by subst e; simp at h1
   exact ret0 ⟨by simp [g], rfl⟩ (fun _ => rfl)
 refine CaseB.mk (fun h2 => ?_) (fun h2 => ?_)
 · have g : ¬ m = m2 := fun e => by subst e; simp at h2
   exact ret0 ⟨by simp [g], rfl⟩ (fun _ => rfl)
 refine stop_call _ cl36 rfl rfl rfl rfl ⟨rfl, rfl⟩ (fun A w hW => eqIntS_c s0 u0 m.waits m2.waits w ⟨z39, z39, trivial⟩ (by omega) (by omega)) ?_
 rintro v L ⟨rfl, rfl⟩
 refine CaseB.mk (fun h3 => ?_) (fun h3 => ?_)
 · have g : ¬ m = m2 := fun e => by subst e; simp at h3
   exact ret0 ⟨by simp [g], rfl⟩ (fun _ => rfl)
 have g : m = m2 := hx.2 ⟨by simpa using h0, by simpa using h1, by simpa using h2, by simpa using h3⟩
 exact ret0 ⟨by simp [g], rfl⟩ (fun _ => rfl)
end Go.Proofs.YtklclbcckjhdpaaGreat
