/- FnCountTurns: texts that its proof stands on, part 4. -/
import Derived.Test.YtijmjecehppbfaaGreatQCountTurnsc
namespace Go.Proofs.YtijmjecehppbfaaGreat
set_option maxRecDepth 100000
set_option maxHeartbeats 100000000
open Go Go.Sx Go.RowKit
def iE (xs : List Int) (lo hi : Int) : Prop := xs.length ≤ 3 ∧ ∀ x ∈ xs, lo ≤ x ∧ x ≤ hi
def Prog.shared (p : Prog) (k : Int) : Int := if k = 1 then 1 else if k = 2 ∨ k = 3 then p.sems.length else if k = 4 then 3 else if k = 5 ∨ k = 6 then p.groups.length else if k = 7 then p.barriers.length else p.rooms.length
def Prog.argOk (p : Prog) (o : Op) : Prop := if o.kind = 2 ∨ o.kind = 3 then 1 ≤ o.arg ∧ o.arg ≤ p.sems.getD o.on.toNat 0 else if o.kind = 5 then -9 ≤ o.arg ∧ o.arg ≤ 9 else if o.kind = 1 ∨ o.kind = 4 ∨ o.kind = 8 then aW o.arg = true else o.arg = 0
def OpOk (p : Prog) (o : Op) : Prop := 1 ≤ o.kind ∧ o.kind ≤ 10 ∧ 0 ≤ o.on ∧ o.on < p.shared o.kind ∧ p.argOk o
structure ProgOk (p : Prog) : Prop where
 sems : iE p.sems 1 9
 groups : iE p.groups 0 9
 barriers : iE p.barriers 1 6
 rooms : iE p.rooms 0 4
 n1 : 1 ≤ p.threads.length
 n4 : p.threads.length ≤ 4
 ops : ∀ t ∈ p.threads, t.length ≤ 8 ∧ ∀ o ∈ t, OpOk p o
theorem jM0 {p : Prog} {o : Op} (h : o.kind = 1) : OpOk p o ↔ o.on = 0 ∧ aW o.arg = true := by
 simp only [OpOk, Prog.shared, Prog.argOk, h]; by_cases hv : aW o.arg = true <;> simp [hv] <;> omega
theorem jN0 {p : Prog} {o : Op} (h : o.kind = 2 ∨ o.kind = 3) : OpOk p o ↔ (0 ≤ o.on ∧ o.on < p.sems.length) ∧ 1 ≤ o.arg ∧ o.arg ≤ p.sems.getD o.on.toNat 0 := by
 rcases h with h | h <;> simp only [OpOk, Prog.shared, Prog.argOk, h] <;> simp <;> omega
theorem jO0 {p : Prog} {o : Op} (h : o.kind = 4) : OpOk p o ↔ 0 ≤ o.on ∧ o.on ≤ 2 ∧ aW o.arg = true := by
 simp only [OpOk, Prog.shared, Prog.argOk, h]; by_cases hv : aW o.arg = true <;> simp [hv] <;> omega
theorem opOk5 {p : Prog} {o : Op} (h : o.kind = 5) : OpOk p o ↔ (0 ≤ o.on ∧ o.on < p.groups.length) ∧ -9 ≤ o.arg ∧ o.arg ≤ 9 := by
 simp only [OpOk, Prog.shared, Prog.argOk, h]; simp; omega
theorem nI0 {p : Prog} {o : Op} (h : o.kind = 6) : OpOk p o ↔ (0 ≤ o.on ∧ o.on < p.groups.length) ∧ o.arg = 0 := by
 simp only [OpOk, Prog.shared, Prog.argOk, h]; simp; omega
theorem nJ0 {p : Prog} {o : Op} (h : o.kind = 7) : OpOk p o ↔ (0 ≤ o.on ∧ o.on < p.barriers.length) ∧ o.arg = 0 := by
 simp only [OpOk, Prog.shared, Prog.argOk, h]; simp; omega
theorem nK0 {p : Prog} {o : Op} (h : o.kind = 8) : OpOk p o ↔ (0 ≤ o.on ∧ o.on < p.rooms.length) ∧ aW o.arg = true := by
 simp only [OpOk, Prog.shared, Prog.argOk, h]; by_cases hv : aW o.arg = true <;> simp [hv] <;> omega
theorem jP0 {p : Prog} {o : Op} (h : o.kind = 9 ∨ o.kind = 10) : OpOk p o ↔ (0 ≤ o.on ∧ o.on < p.rooms.length) ∧ o.arg = 0 := by
 rcases h with h | h <;> simp only [OpOk, Prog.shared, Prog.argOk, h] <;> simp <;> omega
theorem opOk0 {p : Prog} {o : Op} (h : o.kind < 1 ∨ 10 < o.kind) : ¬ OpOk p o := fun e => by
 obtain ⟨h1, h2, _⟩ := e; omega
theorem tno {P : Prop} (h : ¬ P) : false = true ↔ P := ⟨fun e => z110, fun e => (h e).elim⟩
theorem iZ {P : Prop} (h : P) : true = true ↔ P := ⟨fun _ => h, fun _ => rfl⟩
abbrev gZ (w : World) (P : Prop) : Ending → World → Prop := Ret w fun v L => ∃ b : Bool, v = .bool b ∧ (b = true ↔ P) ∧ L = []
theorem cK0 {fv : FuncId} {cap : Array Value} {G : List Fct} {q : Int → Bool} (hcl : aF Tryz.prog fv = true) (hc : ∀ x w, At w [fB true G] → Calls Tryz.prog fv ([Value.int .i64 x] ++ cap.toList).toArray w (Ret w fun v L => v = .bool (q x) ∧ L = []))
   (i : Sl) (xs : List Int) (w : World) (h : At w [slo i aJ 1 xs, fB true G]) (hb : xs.length ≤ 4294967296) :
   Calls Tryz.prog 103 #[i.val xs.length, .func (.func fv) #[] cap] w (Ret w fun v L => ∃ k : Int, v = .int .i64 k ∧ (0 ≤ k ↔ ∃ x ∈ xs, q x = true) ∧ L = []) := by
 refine cM Tryz.func103 rfl aA w _ rfl _ rfl _ h ⟨rfl, rfl, rfl, rfl, trivial⟩ _ _ (by decide) ?_
 refine LoopW.mk ⟨{ k : Nat // k ≤ xs.length ∧ ∀ x ∈ xs.take k, ¬ q x = true },
   fun p => .mk [(0, .v (i.val xs.length)), (1, .v (.func (.func fv) #[] cap)), (7, .v (.int .i64 xs.length)), (8, .v (.int .i64 p.1))] 0 0 [] [] [slo i aJ 1 xs, fB true G],
   fun p => xs.length - p.1, ⟨0, Nat.zero_le _, by simp⟩, ?_, ?_⟩
 · exact aC [0, 1] zw2 zw0 zw2 zw5 zw4 rfl rfl
 · rintro ⟨k, hk, he⟩
   refine CaseB.mk (fun h => ?_) (fun h => ?_)
   · have hlt : k < xs.length := by simpa using h
     refine aG aD aA rfl rfl rfl rfl rfl ⟨rfl, rfl⟩ z40 k rfl z48 (fun ad => ?_)
     refine xC _ hcl rfl rfl rfl rfl ⟨rfl, rfl⟩ (fun A w hW => hc _ w ⟨hW.get 1 rfl (.refl _), trivial⟩) ?_
     rintro v L ⟨rfl, rfl⟩
     refine CaseB.mk (fun h => ?_) (fun h => ?_)
     · exact aI ⟨(k : Int), rfl, ⟨fun _ => ⟨xs[k], List.getElem_mem hlt, h⟩, fun _ => Int.natCast_nonneg k⟩, rfl⟩ (fun _ => rfl)
     · have hw := nI k _ hlt hb
       refine ⟨⟨k + 1, by omega, fun x hx => ?_⟩, ?_, by simp; omega⟩
       · rw [List.take_succ_eq_append_getElem hlt] at hx
         rcases List.mem_append.1 hx with hx | hx
         · exact he x hx
         · simp at hx; subst hx; simpa using h
       · exact aC [0, 1] zw1 zw0 zw1 zw5 zw3 rfl rfl
   · have hge : xs.length ≤ k := by simpa using h
     rw [List.take_of_length_le hge] at he
     exact aI ⟨-1, rfl, ⟨fun h => by omega, fun ⟨x, hx, hq⟩ => (he x hx hq).elim⟩, rfl⟩ (fun _ => rfl)
theorem xG {fv : FuncId} {cap : Array Value} {G : List Fct} {q : Int → Bool} (hcl : aF Tryz.prog fv = true) (hc : ∀ x w, At w [fB true G] → Calls Tryz.prog fv ([Value.int .i64 x] ++ cap.toList).toArray w (Ret w fun v L => v = .bool (q x) ∧ L = []))
   (i : Sl) (xs : List Int) (w : World) (h : At w [slo i aJ 1 xs, fB true G]) (hb : xs.length ≤ 4294967296) :
   Calls Tryz.prog 42 #[i.val xs.length, .func (.func fv) #[] cap] w (gZ w (∃ x ∈ xs, q x = true)) := by
 refine cM Tryz.func42 rfl aA w _ rfl _ rfl _ h ⟨rfl, rfl, rfl, rfl, trivial⟩ _ _ (by decide) ?_
 refine aB _ cl103 rfl rfl rfl rfl ⟨rfl, rfl⟩ (fun A w hW => cK0 hcl hc i xs w ⟨hW.get 0 rfl (.refl _), hW.get 1 rfl (.refl _), trivial⟩ hb) ?_
 rintro v L ⟨k, rfl, hk, rfl⟩
 exact aI ⟨_, rfl, by simpa using hk, rfl⟩ (fun _ => rfl)
abbrev tL (g : Nat) (t : Int) : Fct := wB g 3 [.int .i64 t]
theorem gX0 (x lo hi : Int) (g1 g2 : Nat) (w : World) (h : At w [fB true [tL g1 lo, tL g2 hi]]) :
   Calls Tryz.prog 192 #[.int .i64 x, .pointer (some ⟨g1, 0, none⟩), .pointer (some ⟨g2, 0, none⟩)] w (Ret w fun v L => v = .bool (decide (x < lo) || decide (hi < x)) ∧ L = []) := by
 have h' : At w [tL g1 lo, tL g2 hi] := ⟨jJ0 h.1 (by simp), jJ0 h.1 (by simp), trivial⟩
 refine kD Tryz.func192 rfl aA w _ rfl _ rfl _ h' ⟨rfl, rfl, rfl, rfl, trivial⟩ _ _ _ (by decide) ?_
 refine mQ 0 aA rfl rfl rfl rfl rfl ⟨rfl, rfl⟩ ?_
 apply CaseB.mk <;> intro g
 · refine aI ⟨?_, rfl⟩ (fun _ => rfl)
   have : x < lo := by simpa using g
   simp [this]
 · refine mQ 1 aA rfl rfl rfl rfl rfl ⟨rfl, rfl⟩ ?_
   refine aI ⟨?_, rfl⟩ (fun _ => rfl)
   have : ¬ x < lo := by simpa using g
   simp [this]
theorem tM (i : Sl) (xs : List Int) (lo hi : Int) (w : World) (h : At w [slo i aJ 1 xs]) (hb : xs.length ≤ 4294967296) :
   Calls Tryz.prog 163 #[i.val xs.length, .int .i64 lo, .int .i64 hi] w (gZ w (iE xs lo hi)) := by
 refine kD Tryz.func163 rfl aA w _ rfl _ rfl _ h ⟨rfl, rfl, trivial⟩ _ _ _ (by decide) ?_
 apply CaseB.mk <;> intro g
 · have hl : xs.length ≤ 3 := by simp at g; omega
   refine aB _ cl42 rfl rfl rfl rfl ⟨rfl, rfl⟩ (fun A w hW => xG (fv := 192) (q := fun x => decide (x < lo) || decide (hi < x)) (G := [tL (A 0) lo, tL (A 1) hi]) cl192 (fun x w h => gX0 x lo hi _ _ w h) i xs w ⟨hW.get 0 rfl (.refl _), oG0 (hW.var rfl rfl) (hW.var rfl rfl), trivial⟩ hb) ?_
   rintro v L ⟨b, rfl, hbb, rfl⟩
   refine aI ⟨_, rfl, ?_, rfl⟩ (fun _ => rfl)
   simp only [Bool.not_eq_true', ← Bool.not_eq_true, hbb, iE]
   constructor
   · intro hn
     refine ⟨hl, fun x hx => ?_⟩
     rcases Int.lt_or_le x lo with h1 | h1
     · exact (hn ⟨x, hx, by simp [h1]⟩).elim
     · rcases Int.lt_or_le hi x with h2 | h2
       · exact (hn ⟨x, hx, by simp [h2]⟩).elim
       · exact ⟨h1, h2⟩
   · rintro ⟨_, hx⟩ ⟨x, hx', hq⟩
     have := hx x hx'
     simp at hq
     omega
 · have hl : ¬ xs.length ≤ 3 := by simp at g; omega
   exact aI ⟨_, rfl, tno fun h => hl h.1, rfl⟩ (fun _ => rfl)
theorem qB (i : Sl) (n : Nat) (o : Op) (g : Nat) (w : World) (h : At w [wB g 65 (cOp o)]) :
   Calls Tryz.prog 193 #[i.val n, .pointer (some ⟨g, 0, none⟩)] w (gZ w (0 ≤ o.on ∧ o.on < n)) := by
 refine cM Tryz.func193 rfl aA w _ rfl _ rfl _ h ⟨rfl, rfl, trivial⟩ _ _ (by decide) ?_
 refine yX aA rfl rfl rfl rfl ⟨rfl, rfl⟩ ?_
 refine xF 0 aA rfl rfl rfl rfl rfl ⟨rfl, rfl⟩ ?_
 refine CaseB.mk (fun g1 => ?_) (fun g1 => ?_)
 · refine yX aA rfl rfl rfl rfl ⟨rfl, rfl⟩ ?_
   refine xF 0 aA rfl rfl rfl rfl rfl ⟨rfl, rfl⟩ ?_
   refine aI ⟨_, rfl, ?_, rfl⟩ (fun _ => rfl)
   have : 0 ≤ o.on := by simpa using g1
   simp [this]
 · have : ¬ 0 ≤ o.on := by simpa using g1
   exact aI ⟨_, rfl, tno fun h => this h.1, rfl⟩ (fun _ => rfl)
structure Chan.Valid (m : Chan) : Prop where
 r0 : 0 ≤ m.room
 r1 : m.room ≤ 4
 it : (m.items.length : Int) ≤ m.room
 iv : ∀ x ∈ m.items, aW x = true
 sv : ∀ l ∈ m.senders, aW l.v = true
 di : bD m.threads = true
 se : m.senders ≠ [] → (m.items.length : Int) = m.room ∧ m.getters = [] ∧ m.closed = false
 ge : m.getters ≠ [] → m.items = [] ∧ m.closed = false
instance (m : Chan) : Decidable m.Valid :=
 decidable_of_iff ((0 ≤ m.room ∧ m.room ≤ 4 ∧ (m.items.length : Int) ≤ m.room) ∧ (∀ x ∈ m.items, aW x = true) ∧ (∀ l ∈ m.senders, aW l.v = true) ∧ bD m.threads = true ∧ (m.senders ≠ [] → (m.items.length : Int) = m.room ∧ m.getters = [] ∧ m.closed = false) ∧ (m.getters ≠ [] → m.items = [] ∧ m.closed = false))
   ⟨fun ⟨⟨a, b, c⟩, d, e, f, g, h⟩ => ⟨a, b, c, d, e, f, g, h⟩, fun ⟨a, b, c, d, e, f, g, h⟩ => ⟨⟨a, b, c⟩, d, e, f, g, h⟩⟩
def Chan.valid (m : Chan) : Bool := decide m.Valid
theorem Chan.invalid {m : Chan} (h : ¬ m.Valid) : Value.bool false = Value.bool m.valid := by rw [Chan.valid, decide_eq_false h]
theorem Chan.isvalid {m : Chan} (h : m.Valid) : Value.bool true = Value.bool m.valid := by rw [Chan.valid, decide_eq_true h]
theorem jA {α : Type} {p : α → Prop} {xs : List α} {k : Nat} (hk : k < xs.length) (h : ∀ x ∈ xs.take k, p x) (h1 : p xs[k]) : ∀ x ∈ xs.take (k + 1), p x := by
 intro x hx
 rw [List.take_succ_eq_append_getElem hk] at hx
 rcases List.mem_append.1 hx with hx | hx
 · exact h x hx
 · simp at hx; subst hx; exact h1
theorem eI {α : Type} {xs : List α} : decide ((xs.length : Int) > 0) = true ↔ xs ≠ [] := by
 cases xs <;> simp
theorem wF (m : Chan) (i s g : Sl) (w : World) (h : At w [slo i aJ 1 m.items, slo s jE 2 m.senders, slo g aJ 1 m.getters]) (hb : m.small) :
   Calls Tryz.prog 122 #[jP m i s g] w (Ret w fun v L => v = .bool m.valid ∧ L = []) := by
 obtain ⟨b1, b2, b3⟩ := hb
 have bT : m.threads.length ≤ 8589934592 := by simp [Chan.threads]; omega
 have hno : ∀ {P : Prop}, ¬ P → (m.Valid → P) → ∀ A, hC A [SV.lit false] = Value.bool m.valid := fun h1 h2 _ => Chan.invalid fun hv => h1 (h2 hv)
 refine bV Tryz.func122 rfl aA w _ rfl _ rfl _ h z147 _ (by decide) ?_
 refine CaseB.mk (fun h1 => ?_) (fun h1 => ?_)
 · exact aI ⟨rfl, rfl⟩ (hno (by simp at h1; omega) Chan.Valid.r0)
 · have r0 : 0 ≤ m.room := by simp at h1; omega
   refine CaseB.mk (fun h2 => ?_) (fun h2 => ?_)
   · exact aI ⟨rfl, rfl⟩ (hno (by simp at h2; omega) Chan.Valid.r1)
   · have r1 : m.room ≤ 4 := by simp at h2; omega
     refine CaseB.mk (fun h3 => ?_) (fun h3 => ?_)
     · exact aI ⟨rfl, rfl⟩ (hno (by simp at h3; omega) Chan.Valid.it)
     · have it : (m.items.length : Int) ≤ m.room := by simp at h3; omega
       refine LoopW.mk ⟨{ k : Nat // k ≤ m.items.length ∧ ∀ x ∈ m.items.take k, aW x = true },
         fun p => .mk [(1, .p 0 0), (24, .v (i.val m.items.length)), (25, .v (.int .i64 m.items.length)), (26, .v (.int .i64 p.1))] 1 0 [(0, 119, 5)] [((0, 0), .v (.int .i64 m.room)), ((0, 1), .v (i.val m.items.length)), ((0, 2), .v (s.val m.senders.length)), ((0, 3), .v (g.val m.getters.length)), ((0, 4), .v (.bool m.closed))] [slo i aJ 1 m.items, slo s jE 2 m.senders, slo g aJ 1 m.getters],
         fun p => m.items.length - p.1, ⟨0, Nat.zero_le _, by simp⟩, ?_, ?_⟩
       · exact aC [0, 1, 2] zw2 zw0 zw2 zw5 zw4 rfl rfl
       · rintro ⟨k, hk, ha⟩
         refine CaseB.mk (fun h => ?_) (fun h => ?_)
         · have hlt : k < m.items.length := by simpa using h
           refine aG aD aA rfl rfl rfl rfl rfl ⟨rfl, rfl⟩ z40 k rfl z48 (fun ad => ?_)
           refine aB _ pW rfl rfl rfl rfl ⟨rfl, rfl⟩ (fun A w hW => gD _ w) ?_
           rintro v L ⟨rfl, rfl⟩
           refine CaseB.mk (fun h => ?_) (fun h => ?_)
           · exact aI ⟨rfl, rfl⟩ (hno z100 (fun hv => hv.iv _ (List.getElem_mem hlt)))
           · have hw := nI k _ hlt b1
             refine ⟨⟨k + 1, by omega, jA hlt ha z100⟩, ?_, by simp; omega⟩
             exact aC [0, 1, 2] zw1 zw0 zw1 zw5 zw3 rfl rfl
         · have hge : m.items.length ≤ k := by simpa using h
           rw [List.take_of_length_le hge] at ha
           refine LoopW.mk ⟨{ k : Nat // k ≤ m.senders.length ∧ ∀ x ∈ m.senders.take k, aW x.v = true },
             fun p => .mk [(1, .p 0 0), (35, .v (s.val m.senders.length)), (36, .v (.int .i64 m.senders.length)), (37, .v (.int .i64 p.1))] 1 0 [(0, 119, 5)] [((0, 0), .v (.int .i64 m.room)), ((0, 1), .v (i.val m.items.length)), ((0, 2), .v (s.val m.senders.length)), ((0, 3), .v (g.val m.getters.length)), ((0, 4), .v (.bool m.closed))] [slo i aJ 1 m.items, slo s jE 2 m.senders, slo g aJ 1 m.getters],
             fun p => m.senders.length - p.1, ⟨0, Nat.zero_le _, by simp⟩, ?_, ?_⟩
           · exact aC [0, 1, 2] zw2 zw0 zw2 zw5 zw4 rfl rfl
           · rintro ⟨k, hk, hs⟩
             refine CaseB.mk (fun h => ?_) (fun h => ?_)
             · have hlt : k < m.senders.length := by simpa using h
               refine aG hU aA rfl rfl rfl rfl rfl ⟨rfl, rfl⟩ z40 k rfl z48 (fun ad => ?_)
               refine aB _ pW rfl rfl rfl rfl ⟨rfl, rfl⟩ (fun A w hW => gD _ w) ?_
               rintro v L ⟨rfl, rfl⟩
               refine CaseB.mk (fun h => ?_) (fun h => ?_)
               · exact aI ⟨rfl, rfl⟩ (hno z100 (fun hv => hv.sv _ (List.getElem_mem hlt)))
               · have hw := nI k _ hlt b2
                 refine ⟨⟨k + 1, by omega, jA (p := fun l : Letter => aW l.v = true) hlt hs z100⟩, ?_, by simp; omega⟩
                 exact aC [0, 1, 2] zw1 zw0 zw1 zw5 zw3 rfl rfl
             · have hge : m.senders.length ≤ k := by simpa using h
               rw [List.take_of_length_le hge] at hs
               refine aB _ iW0 rfl rfl rfl rfl ⟨rfl, rfl⟩ (fun A w hW => uQ m i s g w ⟨z39, z39, z39, trivial⟩ ⟨b1, b2, b3⟩) ?_
               rintro v L ⟨y, rfl, rfl⟩
               refine aB _ cD0 rfl rfl rfl rfl ⟨rfl, rfl⟩ (fun A w hW => fI y m.threads w ⟨z39, trivial⟩ bT) ?_
               rintro v L ⟨rfl, rfl⟩
               refine CaseB.mk (fun h => ?_) (fun h => ?_)
               · exact aI ⟨rfl, rfl⟩ (hno z100 Chan.Valid.di)
               · have hd : bD m.threads = true := by simpa using h
                 have fin : (m.senders ≠ [] → (m.items.length : Int) = m.room ∧ m.getters = [] ∧ m.closed = false) → (m.getters ≠ [] → m.items = [] ∧ m.closed = false) → m.Valid := fun x y => ⟨r0, r1, it, ha, hs, hd, x, y⟩
                 refine CaseB.mk (fun q1 => ?_) (fun q1 => ?_)
                 · have hs1 : m.senders ≠ [] := eI.1 q1
                   refine CaseB.mk (fun q2 => ?_) (fun q2 => ?_)
                   · exact aI ⟨rfl, rfl⟩ (fun _ => Chan.invalid (fun hv => by have := (hv.se hs1).1; simp at q2; omega))
                   · have e2 : (m.items.length : Int) = m.room := by simpa using q2
                     refine CaseB.mk (fun q3 => ?_) (fun q3 => ?_)
                     · exact aI ⟨rfl, rfl⟩ (fun _ => Chan.invalid (fun hv => eI.1 q3 (hv.se hs1).2.1))
                     · have e3 : m.getters = [] := by
                         cases hg : m.getters with
                         | nil => rfl
                         | cons a r => rw [hg] at q3; simp at q3
                       refine CaseB.mk (fun q4 => ?_) (fun q4 => ?_)
                       · exact aI ⟨rfl, rfl⟩ (fun _ => Chan.invalid (fun hv => by have := (hv.se hs1).2.2; rw [q4] at this; cases this))
                       · have hS : m.senders ≠ [] → (m.items.length : Int) = m.room ∧ m.getters = [] ∧ m.closed = false := fun _ => ⟨e2, e3, q4⟩
                         refine CaseB.mk (fun q5 => ?_) (fun q5 => ?_)
                         · have hg : m.getters = [] := by simpa using q5
                           exact aI ⟨rfl, rfl⟩ (fun _ => Chan.isvalid (fin hS (fun hn => absurd hg hn)))
                         · have hg : m.getters ≠ [] := by simpa using q5
                           refine CaseB.mk (fun q6 => ?_) (fun q6 => ?_)
                           · have hi : m.items = [] := by simpa using q6
                             refine aI ⟨rfl, rfl⟩ (fun _ => ?_)
                             show Value.bool (!m.closed) = _
                             cases hc : m.closed with
                             | false => exact Chan.isvalid (fin hS (fun _ => ⟨hi, hc⟩))
                             | true => exact Chan.invalid (fun hv => by have := (hv.ge hg).2; rw [hc] at this; cases this)
                           · have hi : m.items ≠ [] := by simpa using q6
                             exact aI ⟨rfl, rfl⟩ (fun _ => Chan.invalid (fun hv => hi (hv.ge hg).1))
                 · have hs1 : m.senders = [] := by
                     cases hg : m.senders with
                     | nil => rfl
                     | cons a r => rw [hg] at q1; simp at q1
                   have hS : m.senders ≠ [] → (m.items.length : Int) = m.room ∧ m.getters = [] ∧ m.closed = false := fun hn => absurd hs1 hn
                   refine CaseB.mk (fun q5 => ?_) (fun q5 => ?_)
                   · have hg : m.getters = [] := by simpa using q5
                     exact aI ⟨rfl, rfl⟩ (fun _ => Chan.isvalid (fin hS (fun hn => absurd hg hn)))
                   · have hg : m.getters ≠ [] := by simpa using q5
                     refine CaseB.mk (fun q6 => ?_) (fun q6 => ?_)
                     · have hi : m.items = [] := by simpa using q6
                       refine aI ⟨rfl, rfl⟩ (fun _ => ?_)
                       show Value.bool (!m.closed) = _
                       cases hc : m.closed with
                       | false => exact Chan.isvalid (fin hS (fun _ => ⟨hi, hc⟩))
                       | true => exact Chan.invalid (fun hv => by have := (hv.ge hg).2; rw [hc] at this; cases this)
                     · have hi : m.items ≠ [] := by simpa using q6
                       exact aI ⟨rfl, rfl⟩ (fun _ => Chan.invalid (fun hv => hi (hv.ge hg).1))
theorem uU {xs ys : List Int} (h : xs.Nodup) (hs : ∀ x ∈ xs, x ∈ ys) : xs.length ≤ ys.length := by
 induction xs generalizing ys with
 | nil => simp
 | cons x r ih =>
   have hx := hs x (by simp)
   rw [List.nodup_cons] at h
   have := ih (ys := ys.erase x) h.2 (fun y hy => (List.mem_erase_of_ne (fun e => h.1 (by subst e; exact hy))).2 (hs y (by simp [hy])))
   rw [List.length_erase_of_mem hx] at this
   have : 0 < ys.length := List.length_pos_of_mem hx
   simp only [List.length_cons]
   omega
theorem cW {xs : List Int} (h : bD xs = true) : xs.length ≤ 6 := by
 simp only [bD, decide_eq_true_eq] at h
 have hs : ∀ x ∈ xs, x ∈ ([0, 1, 2, 3, 4, 5] : List Int) := fun x hx => by
   have := h.2 x hx
   simp [bA] at this
   simp
   omega
 exact uU h.1 hs
theorem yE {xs : List Int} (h : (xs.take 7).Nodup ∧ ∀ x ∈ xs.take 7, bA x = true) : xs.length ≤ 6 := by
 have hd : bD (xs.take 7) = true := by simpa [bD] using h
 have := cW hd
 simp at this
 omega
theorem qY (i : Sl) (xs : List Int) (w : World) (h : At w [slo i aJ 1 xs]) (hb : xs.length ≤ 8589934592) :
   Calls Tryz.prog 194 #[i.val xs.length] w (Ret w fun v L => v = .bool (bD xs) ∧ L = []) := by
 refine bV Tryz.func194 rfl aA w _ rfl _ rfl _ h ⟨rfl, rfl, trivial⟩ _ (by decide) ?_
 refine LoopW.mk ⟨{ k : Nat // k ≤ xs.length ∧ k ≤ 7 ∧ (xs.take k).Nodup ∧ ∀ x ∈ xs.take k, bA x = true },
   fun p => .mk [(0, .v (i.val xs.length)), (3, .v (.int .i64 p.1))] 0 0 [] [] [slo i aJ 1 xs],
   fun p => xs.length - p.1, ⟨0, Nat.zero_le _, by omega, by simp, by simp⟩, ?_, ?_⟩
 · exact aC [0] zw2 zw0 zw2 zw5 zw4 rfl rfl
 · rintro ⟨k, hk, hk7, hn, ha⟩
   have hfin : ¬ (k < xs.length ∧ k ≤ 6) → decide ((xs.length : Int) ≤ 6) = bD xs := by
     intro hc
     rcases Nat.lt_or_ge k xs.length with h1 | h1
     · have e : k = 7 := by omega
       subst e
       have := yE ⟨hn, ha⟩
       omega
     · rw [List.take_of_length_le h1] at hn ha
       have hd : bD xs = true := by simp only [bD, decide_eq_true_eq]; exact ⟨hn, ha⟩
       have := cW hd
       rw [hd, decide_eq_true_eq]
       omega
   refine CaseB.mk (fun h => ?_) (fun h => ?_)
   · have hlt : k < xs.length := by simpa using h
     refine CaseB.mk (fun h => ?_) (fun h => ?_)
     · have h6 : k ≤ 6 := by simp at h; omega
       refine aE aA z107 z107 z107 200 [] [0] [_] trivial trivial ⟨rfl, trivial⟩ rfl ?_
       refine bM (ti := aU tab) aD aA rfl rfl rfl rfl rfl ⟨rfl, rfl⟩ z40 k rfl z48 (fun ad => ?_)
       refine bL _ rT rfl rfl rfl rfl ⟨rfl, rfl⟩ (fun A w hW => fV _ w) ?_
       rintro v L ⟨rfl, rfl⟩
       refine CaseB.mk (fun h => ?_) (fun h => ?_)
       · have h1 : bA xs[k] = false := by simpa using h
         exact aI ⟨congrArg Value.bool (nJ hlt (.inl h1)).symm, rfl⟩ (fun _ => rfl)
       · have h1 : bA xs[k] = true := by simpa using h
         refine d_cut (ti := aU tab) aA rfl rfl rfl rfl ⟨rfl, rfl⟩ rfl rfl z40 (0) (k) ((xs.take k)).length rfl rfl z48 z48 z48 ?_
         refine bM (ti := aU tab) aD aA rfl rfl rfl rfl rfl ⟨rfl, rfl⟩ z40 k rfl z48 (fun ad => ?_)
         refine bL _ uN rfl rfl rfl rfl ⟨rfl, rfl⟩ (fun A w hW => kR (i.cut 0 1) (xs.take k) _ w ⟨jE0 aD 0 k (by omega) (by omega) (by simp) (hW.rd 0 rfl), trivial⟩ z106) ?_
         rintro v L ⟨rfl, rfl⟩
         refine CaseB.mk (fun h => ?_) (fun h => ?_)
         · have hm : xs[k] ∈ xs.take k := (eM _ _).1 z100
           exact aI ⟨congrArg Value.bool (nJ hlt (.inr hm)).symm, rfl⟩ (fun _ => rfl)
         · have hm : ¬ xs[k] ∈ xs.take k := fun hm => by have := (eM _ _).2 hm; simp at h; omega
           have hT : xs.take (k + 1) = xs.take k ++ [xs[k]] := List.take_succ_eq_append_getElem hlt
           have hw := eA0 k _ hlt hb
           refine ⟨⟨k + 1, by omega, by omega, (lO hlt).2 ⟨hn, hm⟩, jA hlt ha h1⟩, ?_, by simp; omega⟩
           exact aC [0] zw1 zw0 zw1 zw5 zw3 rfl rfl
     · have h6 : ¬ k ≤ 6 := by simp at h; omega
       exact aI ⟨congrArg Value.bool (hfin (fun h => h6 h.2)), rfl⟩ (fun _ => rfl)
   · have hlt : ¬ k < xs.length := by simpa using h
     exact aI ⟨congrArg Value.bool (hfin (fun h => hlt h.1)), rfl⟩ (fun _ => rfl)
theorem zC (m : Chan) (i s g : Sl) (t : Int) (w : World) (h : At w [slo i aJ 1 m.items, slo s jE 2 m.senders, slo g aJ 1 m.getters]) (hb : m.small) (h7 : m.senders.length ≤ 7) :
   Calls Tryz.prog 195 #[jP m i s g, .int .i64 t] w (Ret w fun v L => v = .bool (decide (t ∈ m.threads)) ∧ L = []) := by
 obtain ⟨b1, b2, b3⟩ := hb
 have e7 : m.senders.take 7 = m.senders := List.take_of_length_le h7
 refine cM Tryz.func195 rfl aA w _ rfl _ rfl _ h z147 _ _ (by decide) ?_
 refine aB _ fP0 rfl rfl rfl rfl ⟨rfl, rfl⟩ (fun A w hW => nK s m.senders w ⟨z39, trivial⟩ b2) ?_
 rw [e7]
 rintro v L ⟨y, rfl, rfl⟩
 refine aB _ uN rfl rfl rfl rfl ⟨rfl, rfl⟩ (fun A w hW => kR y (m.senders.map Letter.t) t w ⟨z39, trivial⟩ z106) ?_
 rintro v L ⟨rfl, rfl⟩
 refine CaseB.mk (fun h => ?_) (fun h => ?_)
 · have hm : t ∈ m.senders.map Letter.t := (eM _ _).1 z100
   refine aI ⟨?_, rfl⟩ (fun _ => rfl)
   simp [Chan.threads]
   exact .inl (by simpa using hm)
 · have hm : ¬ t ∈ m.senders.map Letter.t := fun hm => by have := (eM _ _).2 hm; simp at h; omega
   refine aB _ uN rfl rfl rfl rfl ⟨rfl, rfl⟩ (fun A w hW => kR g m.getters t w ⟨z39, trivial⟩ b3) ?_
   rintro v L ⟨rfl, rfl⟩
   refine aI ⟨?_, rfl⟩ (fun _ => rfl)
   have e : (t ∈ m.threads) ↔ t ∈ m.getters := by simp only [Chan.threads, List.mem_append]; exact ⟨fun h => h.resolve_left hm, .inr⟩
   simp [e, eM]
structure SemOk (m : Sem) : Prop where
 l1 : 1 ≤ m.limit
 l9 : m.limit ≤ 9
 f0 : 0 ≤ m.free
 fl : m.free ≤ m.limit
 q6 : m.queue.length ≤ 6
 cnt : ∀ w ∈ m.queue, 1 ≤ w.n ∧ w.n ≤ m.limit
 dis : bD (m.queue.map (·.t)) = true
 hd : ∀ w, m.queue[0]? = some w → m.free < w.n
def eG (m : Once) : Prop := (m.state = 0 ∧ m.owner = 0 ∧ m.value = 0 ∧ m.waits = []) ∨ (m.state = 1 ∧ bA m.owner = true ∧ m.value = 0 ∧ bD m.waits = true ∧ m.owner ∉ m.waits) ∨ (m.state = 2 ∧ bA m.owner = true ∧ aW m.value = true ∧ m.waits = [])
def eY (m : Group) : Prop := aW m.count = true ∧ bD m.waits = true ∧ (0 < m.count ∨ m.waits = [])
def dO (m : Barrier) : Prop := 1 ≤ m.parties ∧ m.parties ≤ 6 ∧ 0 ≤ m.round ∧ m.round ≤ 9999 ∧ (m.waits.length : Int) < m.parties ∧ bD m.waits = true
theorem aX0 {m : Once} (h : m.state = 0) : eG m ↔ m.owner = 0 ∧ m.value = 0 ∧ m.waits = [] := by simp [eG, h]
theorem qZ {m : Once} (h : m.state = 1) : eG m ↔ bA m.owner = true ∧ m.value = 0 ∧ bD m.waits = true ∧ m.owner ∉ m.waits := by simp [eG, h]
theorem aY0 {m : Once} (h : m.state = 2) : eG m ↔ bA m.owner = true ∧ aW m.value = true ∧ m.waits = [] := by simp [eG, h]
theorem gA0 {m : Once} (h0 : ¬ m.state = 0) (h1 : ¬ m.state = 1) (h2 : ¬ m.state = 2) : ¬ eG m := by simp [eG, h0, h1, h2]
theorem qC (m : Once) (q : Sl) (w : World) (h : At w [slo q aJ 1 m.waits]) (hb : m.waits.length ≤ 1048576) :
   Calls Tryz.prog 123 #[kO m q] w (gZ w (eG m)) := by
 refine bV Tryz.func123 rfl aA w _ rfl _ rfl _ h ⟨rfl, rfl, trivial⟩ _ (by decide) ?_
 refine CaseB.mk (fun k => ?_) (fun k0 => ?_)
 · have hx := aX0 (m := m) z102
   apply CaseB.mk <;> intro g
   rotate_left
   · have q : ¬ (m.owner = 0) := by simpa using g
     exact aI ⟨_, rfl, tno fun e => q (hx.1 e).1, rfl⟩ (fun _ => rfl)
   have c1 : m.owner = 0 := by simpa using g
   apply CaseB.mk <;> intro g
   rotate_left
   · have q : ¬ (m.value = 0) := by simpa using g
     exact aI ⟨_, rfl, tno fun e => q (hx.1 e).2.1, rfl⟩ (fun _ => rfl)
   have c2 : m.value = 0 := by simpa using g
   exact aI ⟨_, rfl, by rw [hx]; simp [c1, c2], rfl⟩ (fun _ => rfl)
 refine CaseB.mk (fun k => ?_) (fun k1 => ?_)
 · have hx := qZ (m := m) z102
   refine aB _ sZ rfl rfl rfl rfl ⟨rfl, rfl⟩ (fun A w hW => gN _ w) ?_
   rintro v L ⟨rfl, rfl⟩
   apply CaseB.mk <;> intro g
   rotate_left
   · have q : ¬ (bA m.owner = true) := by simpa using g
     exact aI ⟨_, rfl, tno fun e => q (hx.1 e).1, rfl⟩ (fun _ => rfl)
   have c1 : bA m.owner = true := g
   apply CaseB.mk <;> intro g
   rotate_left
   · have q : ¬ (m.value = 0) := by simpa using g
     exact aI ⟨_, rfl, tno fun e => q (hx.1 e).2.1, rfl⟩ (fun _ => rfl)
   have c2 : m.value = 0 := by simpa using g
   apply CaseB.mk <;> intro g
   rotate_left
   · have q : ¬ (m.waits.length ≤ 6) := by have g' := of_decide_eq_false g; omega
     exact aI ⟨_, rfl, tno fun e => q (cW (hx.1 e).2.2.1), rfl⟩ (fun _ => rfl)
   have c6 : m.waits.length ≤ 6 := by have g' := of_decide_eq_true g; omega
   refine aB _ cD0 rfl rfl rfl rfl ⟨rfl, rfl⟩ (fun A w hW => fI q m.waits w ⟨z39, trivial⟩ (by omega)) ?_
   rintro v L ⟨rfl, rfl⟩
   apply CaseB.mk <;> intro g
   rotate_left
   · have q : ¬ (bD m.waits = true) := by simpa using g
     exact aI ⟨_, rfl, tno fun e => q (hx.1 e).2.2.1, rfl⟩ (fun _ => rfl)
   have c3 : bD m.waits = true := g
   refine aB _ dV0 rfl rfl rfl rfl ⟨rfl, rfl⟩ (fun A w hW => jG q m.waits m.owner w ⟨z39, trivial⟩ (by omega)) ?_
   rintro v L ⟨rfl, rfl⟩
   exact aI ⟨_, rfl, by rw [hx]; simp [c1, c2, c3], rfl⟩ (fun _ => rfl)
 refine CaseB.mk (fun k => ?_) (fun k2 => ?_)
 · have hx := aY0 (m := m) z102
   refine aB _ sZ rfl rfl rfl rfl ⟨rfl, rfl⟩ (fun A w hW => gN _ w) ?_
   rintro v L ⟨rfl, rfl⟩
   apply CaseB.mk <;> intro g
   rotate_left
   · have q : ¬ (bA m.owner = true) := by simpa using g
     exact aI ⟨_, rfl, tno fun e => q (hx.1 e).1, rfl⟩ (fun _ => rfl)
   have c1 : bA m.owner = true := g
   refine aB _ pW rfl rfl rfl rfl ⟨rfl, rfl⟩ (fun A w hW => gD _ w) ?_
   rintro v L ⟨rfl, rfl⟩
   apply CaseB.mk <;> intro g
   rotate_left
   · have q : ¬ (aW m.value = true) := by simpa using g
     exact aI ⟨_, rfl, tno fun e => q (hx.1 e).2.1, rfl⟩ (fun _ => rfl)
   have c2 : aW m.value = true := g
   exact aI ⟨_, rfl, by rw [hx]; simp [c1, c2], rfl⟩ (fun _ => rfl)
 exact aI ⟨_, rfl, tno (gA0 (by simpa using k0) (by simpa using k1) (by simpa using k2)), rfl⟩ (fun _ => rfl)
theorem oW (m : Group) (q : Sl) (w : World) (h : At w [slo q aJ 1 m.waits]) (hb : m.waits.length ≤ 1048576) :
   Calls Tryz.prog 120 #[lQ m q] w (gZ w (eY m)) := by
 refine bV Tryz.func120 rfl aA w _ rfl _ rfl _ h ⟨rfl, rfl, trivial⟩ _ (by decide) ?_
 refine aB _ pW rfl rfl rfl rfl ⟨rfl, rfl⟩ (fun A w hW => gD _ w) ?_
 rintro v L ⟨rfl, rfl⟩
 apply CaseB.mk <;> intro g
 rotate_left
 · have q : ¬ (aW m.count = true) := by simpa using g
   exact aI ⟨_, rfl, tno fun e => q e.1, rfl⟩ (fun _ => rfl)
 have c1 : aW m.count = true := g
 apply CaseB.mk <;> intro g
 rotate_left
 · have q : ¬ (m.waits.length ≤ 6) := by have g' := of_decide_eq_false g; omega
   exact aI ⟨_, rfl, tno fun e => q (cW e.2.1), rfl⟩ (fun _ => rfl)
 have c6 : m.waits.length ≤ 6 := by have g' := of_decide_eq_true g; omega
 refine aB _ cD0 rfl rfl rfl rfl ⟨rfl, rfl⟩ (fun A w hW => fI q m.waits w ⟨z39, trivial⟩ (by omega)) ?_
 rintro v L ⟨rfl, rfl⟩
 apply CaseB.mk <;> intro g
 rotate_left
 · have q : ¬ (bD m.waits = true) := by simpa using g
   exact aI ⟨_, rfl, tno fun e => q e.2.1, rfl⟩ (fun _ => rfl)
 have c2 : bD m.waits = true := g
 apply CaseB.mk <;> intro g
 · have c3 : 0 < m.count := by have g' := of_decide_eq_true g; omega
   exact aI ⟨_, rfl, iZ ⟨c1, c2, .inl c3⟩, rfl⟩ (fun _ => rfl)
 · have c3 : ¬ 0 < m.count := by have g' := of_decide_eq_false g; omega
   exact aI ⟨_, rfl, by simp [eY, c1, c2, c3], rfl⟩ (fun _ => rfl)
theorem qD (m : Barrier) (q : Sl) (w : World) (h : At w [slo q aJ 1 m.waits]) (hb : m.waits.length ≤ 1048576) :
   Calls Tryz.prog 121 #[lE m q] w (gZ w (dO m)) := by
 refine bV Tryz.func121 rfl aA w _ rfl _ rfl _ h ⟨rfl, rfl, trivial⟩ _ (by decide) ?_
 apply CaseB.mk <;> intro g
 rotate_left
 · have q : ¬ (1 ≤ m.parties) := by have g' := of_decide_eq_false g; omega
   exact aI ⟨_, rfl, tno fun e => q e.1, rfl⟩ (fun _ => rfl)
 have c1 : 1 ≤ m.parties := by have g' := of_decide_eq_true g; omega
 apply CaseB.mk <;> intro g
 rotate_left
 · have q : ¬ (m.parties ≤ 6) := by have g' := of_decide_eq_false g; omega
   exact aI ⟨_, rfl, tno fun e => q e.2.1, rfl⟩ (fun _ => rfl)
 have c2 : m.parties ≤ 6 := by have g' := of_decide_eq_true g; omega
 apply CaseB.mk <;> intro g
 rotate_left
 · have q : ¬ (0 ≤ m.round) := by have g' := of_decide_eq_false g; omega
   exact aI ⟨_, rfl, tno fun e => q e.2.2.1, rfl⟩ (fun _ => rfl)
 have c3 : 0 ≤ m.round := by have g' := of_decide_eq_true g; omega
 apply CaseB.mk <;> intro g
 rotate_left
 · have q : ¬ (m.round ≤ 9999) := by have g' := of_decide_eq_false g; omega
   exact aI ⟨_, rfl, tno fun e => q e.2.2.2.1, rfl⟩ (fun _ => rfl)
 have c4 : m.round ≤ 9999 := by have g' := of_decide_eq_true g; omega
 apply CaseB.mk <;> intro g
 rotate_left
 · have q : ¬ ((m.waits.length : Int) < m.parties) := by have g' := of_decide_eq_false g; omega
   exact aI ⟨_, rfl, tno fun e => q e.2.2.2.2.1, rfl⟩ (fun _ => rfl)
 have c5 : (m.waits.length : Int) < m.parties := by have g' := of_decide_eq_true g; omega
 refine aB _ cD0 rfl rfl rfl rfl ⟨rfl, rfl⟩ (fun A w hW => fI q m.waits w ⟨z39, trivial⟩ (by omega)) ?_
 rintro v L ⟨rfl, rfl⟩
 exact aI ⟨_, rfl, by simp [dO, c1, c2, c3, c4, c5], rfl⟩ (fun _ => rfl)
theorem sK (m : Sem) (q : Sl) (w : World) (h : At w [slo q cG 2 m.queue]) (hb : m.queue.length ≤ 1048576) :
   Calls Tryz.prog 119 #[pM m q] w (gZ w (SemOk m)) := by
 refine bV Tryz.func119 rfl aA w _ rfl _ rfl _ h ⟨rfl, rfl, trivial⟩ _ (by decide) ?_
 apply CaseB.mk <;> intro g
 · have q : ¬ (1 ≤ m.limit) := by have g' := of_decide_eq_true g; omega
   exact aI ⟨_, rfl, tno fun e => q e.l1, rfl⟩ (fun _ => rfl)
 have c1 : 1 ≤ m.limit := by have g' := of_decide_eq_false g; omega
 apply CaseB.mk <;> intro g
 · have q : ¬ (m.limit ≤ 9) := by have g' := of_decide_eq_true g; omega
   exact aI ⟨_, rfl, tno fun e => q e.l9, rfl⟩ (fun _ => rfl)
 have c2 : m.limit ≤ 9 := by have g' := of_decide_eq_false g; omega
 apply CaseB.mk <;> intro g
 · have q : ¬ (0 ≤ m.free) := by have g' := of_decide_eq_true g; omega
   exact aI ⟨_, rfl, tno fun e => q e.f0, rfl⟩ (fun _ => rfl)
 have c3 : 0 ≤ m.free := by have g' := of_decide_eq_false g; omega
 apply CaseB.mk <;> intro g
 · have q : ¬ (m.free ≤ m.limit) := by have g' := of_decide_eq_true g; omega
   exact aI ⟨_, rfl, tno fun e => q e.fl, rfl⟩ (fun _ => rfl)
 have c4 : m.free ≤ m.limit := by have g' := of_decide_eq_false g; omega
 apply CaseB.mk <;> intro g
 · have q : ¬ (m.queue.length ≤ 6) := by have g' := of_decide_eq_true g; omega
   exact aI ⟨_, rfl, tno fun e => q e.q6, rfl⟩ (fun _ => rfl)
 have c5 : m.queue.length ≤ 6 := by have g' := of_decide_eq_false g; omega
 refine LoopW.mk ⟨{ p : Nat × Sl // p.1 ≤ m.queue.length ∧ ∀ w ∈ m.queue.take p.1, 1 ≤ w.n ∧ w.n ≤ m.limit },
   fun p => .mk [(1, .p 0 0), (3, .v (p.1.2.val ((m.queue.map (·.t)).take p.1.1).length)), (33, .v (q.val m.queue.length)), (34, .v (.int .i64 (m.queue.length : Int))), (35, .v (.int .i64 (p.1.1 : Int)))] 1 0 [(0, 95, 3)] [((0, 0), .v (.int .i64 m.free)), ((0, 1), .v (.int .i64 m.limit)), ((0, 2), .v (q.val m.queue.length))] [own p.1.2 3 aJ 1 ((m.queue.map (·.t)).take p.1.1), slo q cG 2 m.queue],
   fun p => m.queue.length - p.1.1, ⟨(0, ⟨none, 0⟩), Nat.zero_le _, by simp⟩, ?_, ?_⟩
 · exact aC [99, 0] zw2 zw0 zw2 zw5 zw4 rfl rfl
 rintro ⟨⟨k, a⟩, hk, hinv⟩
 simp only at hk hinv
 apply CaseB.mk <;> intro g
 · have hlt : k < m.queue.length := by simpa using g
   have hw := nI k _ hlt (by omega)
   refine aG cI aA rfl rfl rfl rfl rfl ⟨rfl, rfl⟩ (hH 1 rfl) k rfl z48 (fun ad => ?_)
   apply CaseB.mk <;> intro g
   · have q : ¬ (1 ≤ (m.queue[k]).n) := by have g' := of_decide_eq_true g; omega
     exact aI ⟨_, rfl, tno fun e => q (e.cnt _ (List.getElem_mem hlt)).1, rfl⟩ (fun _ => rfl)
   have d1 : 1 ≤ (m.queue[k]).n := by have g' := of_decide_eq_false g; omega
   apply CaseB.mk <;> intro g
   · have q : ¬ ((m.queue[k]).n ≤ m.limit) := by have g' := of_decide_eq_true g; omega
     exact aI ⟨_, rfl, tno fun e => q (e.cnt _ (List.getElem_mem hlt)).2, rfl⟩ (fun _ => rfl)
   have d2 : (m.queue[k]).n ≤ m.limit := by have g' := of_decide_eq_false g; omega
   refine AllSl.mk fun u => ?_
   refine bR aD 1 aA (ys := [(m.queue[k]).t]) rfl rfl rfl rfl rfl rfl rfl rfl rfl (by decide) ⟨rfl, rfl⟩ rfl z40 z48 z48 (fun a2 => ?_)
   rw [aR hlt rfl rfl]
   refine ⟨⟨(k + 1, a2), by omega, fun x hx => ?_⟩, ?_, by simp only; omega⟩
   · rw [List.take_succ_eq_append_getElem hlt] at hx
     rcases List.mem_append.1 hx with hx | hx
     · exact hinv x hx
     · simp at hx; subst hx; exact ⟨d1, d2⟩
   · exact aC [0, 2] zw1 zw0 zw1 zw5 zw3 rfl rfl
 have hge : m.queue.length ≤ k := by simpa using g
 rw [List.take_of_length_le hge] at hinv
 have eT : (m.queue.map (·.t)).take k = m.queue.map (·.t) := List.take_of_length_le z96
 simp only [eT]
 refine aE aA z107 z107 z107 200 [((0, 0), .v (.int .i64 m.free)), ((0, 1), .v (.int .i64 m.limit)), ((0, 2), .v (q.val m.queue.length))] [1] [_] z136 z148 ⟨rfl, trivial⟩ rfl ?_
 refine bL _ cD0 rfl rfl rfl rfl ⟨rfl, rfl⟩ (fun A w hW => fI a _ w ⟨hW.rdOwn 0 rfl, trivial⟩ z106) ?_
 rintro v L ⟨rfl, rfl⟩
 apply CaseB.mk <;> intro g
 rotate_left
 · have q : ¬ (bD (m.queue.map (·.t)) = true) := by simpa using g
   exact aI ⟨_, rfl, tno fun e => q e.dis, rfl⟩ (fun _ => rfl)
 have c6 : bD (m.queue.map (·.t)) = true := g
 apply CaseB.mk <;> intro g
 · have c7 : m.queue = [] := by simpa using g
   exact aI ⟨_, rfl, iZ ⟨c1, c2, c3, c4, c5, hinv, c6, by rw [c7]; simp⟩, rfl⟩ (fun _ => rfl)
 have c7 : 0 < m.queue.length := by have g' : ¬ m.queue = [] := by simpa using g
                                    exact List.length_pos_iff.2 g'
 refine bM (ti := aU tab) cI aA rfl rfl rfl rfl rfl ⟨rfl, rfl⟩ (hH 0 rfl) 0 rfl z48 (fun ad => ?_)
 refine aI ⟨_, rfl, ?_, rfl⟩ (fun _ => rfl)
 have hh : ∀ w, m.queue[0]? = some w → w = m.queue[0] := fun w hw => by rw [List.getElem?_eq_getElem c7] at hw; injection hw with hw; exact hw.symm
 constructor
 · intro g
   have g' := of_decide_eq_true g
   exact ⟨c1, c2, c3, c4, c5, hinv, c6, fun w hw => by rw [hh w hw]; omega⟩
 · intro e
   have := e.hd _ (List.getElem?_eq_getElem c7)
   exact decide_eq_true (by omega)
theorem gY0 (p : ProgH) (o : Op) (w : World) (h : At w [fR (aV p)]) :
   Calls Tryz.prog 164 #[dJ p, .agg (cOp o).toArray] w (gZ w (OpOk p.pure o)) := by
 refine cM Tryz.func164 rfl aA w _ rfl _ rfl _ h ⟨rfl, rfl, trivial⟩ _ _ (by decide) ?_
 refine CaseB.mk (fun k1 => ?_) (fun k1 => ?_)
 · have hx := jM0 (p := p.pure) (o := o) (by simpa using k1)
   apply CaseB.mk <;> intro g
   · have g' : o.on = 0 := by simpa using g
     refine aB _ pW rfl rfl rfl rfl ⟨rfl, rfl⟩ (fun A w hW => gD _ w) ?_
     rintro v L ⟨rfl, rfl⟩
     exact aI ⟨_, rfl, by rw [hx]; simp [g'], rfl⟩ (fun _ => rfl)
   · have g' : ¬ o.on = 0 := by simpa using g
     exact aI ⟨_, rfl, tno fun e => g' (hx.1 e).1, rfl⟩ (fun _ => rfl)
 refine CaseB.mk (fun k2 => ?_) (fun k2 => ?_)
 · refine CaseB.mk (fun _ => ?_) (fun g => by rw [k2] at g; cases g)
   have hx := jN0 (p := p.pure) (o := o) (.inl (by simpa using k2))
   refine aE aA z107 z107 z107 200 [((0, 0), .v (p.h0.val p.sems.length)), ((1, 0), .v (.int .i64 o.kind)), ((1, 1), .v (.int .i64 o.on)), ((1, 2), .v (.int .i64 o.arg))] [0] [_] z129 z145 ⟨rfl, trivial⟩ rfl ?_
   refine bL _ vH rfl rfl rfl rfl ⟨rfl, rfl⟩ (fun A w hW => qB p.h0 p.sems.length o (A 1) w ⟨hW.var rfl rfl, trivial⟩) ?_
   rintro v L ⟨b, rfl, hb, rfl⟩
   refine CaseB.mk (fun g1 => ?_) (fun g1 => ?_)
   · obtain ⟨c1, c2⟩ := hb.1 g1
     have hlt : o.on.toNat < p.sems.length := by omega
     have e : p.pure.sems.getD o.on.toNat 0 = p.sems[o.on.toNat] := by simp [ProgH.pure, List.getD, hlt]
     refine CaseB.mk (fun g2 => ?_) (fun g2 => ?_)
     · have c3 : 1 ≤ o.arg := by simp at g2; omega
       refine bM (ti := aU tab) aD aA rfl rfl rfl rfl rfl ⟨rfl, rfl⟩ (aL 0 rfl (.ofR (eJ p))) o.on.toNat (by omega) z48 (fun ad => ?_)
       refine aI ⟨_, rfl, ?_, rfl⟩ (fun _ => rfl)
       rw [hx, e]
       show _ ↔ (0 ≤ o.on ∧ o.on < (p.sems.length : Int)) ∧ _
       simp [c1, c2, c3]
     · have c3 : ¬ 1 ≤ o.arg := by simp at g2; omega
       exact aI ⟨_, rfl, tno fun e => c3 (hx.1 e).2.1, rfl⟩ (fun _ => rfl)
   · exact aI ⟨_, rfl, tno fun e => z88, rfl⟩ (fun _ => rfl)
 refine CaseB.mk (fun k3 => ?_) (fun k3 => ?_)
 · skip
   have hx := jN0 (p := p.pure) (o := o) (.inr (by simpa using k3))
   refine aE aA z107 z107 z107 200 [((0, 0), .v (p.h0.val p.sems.length)), ((1, 0), .v (.int .i64 o.kind)), ((1, 1), .v (.int .i64 o.on)), ((1, 2), .v (.int .i64 o.arg))] [0] [_] z129 z145 ⟨rfl, trivial⟩ rfl ?_
   refine bL _ vH rfl rfl rfl rfl ⟨rfl, rfl⟩ (fun A w hW => qB p.h0 p.sems.length o (A 1) w ⟨hW.var rfl rfl, trivial⟩) ?_
   rintro v L ⟨b, rfl, hb, rfl⟩
   refine CaseB.mk (fun g1 => ?_) (fun g1 => ?_)
   · obtain ⟨c1, c2⟩ := hb.1 g1
     have hlt : o.on.toNat < p.sems.length := by omega
     have e : p.pure.sems.getD o.on.toNat 0 = p.sems[o.on.toNat] := by simp [ProgH.pure, List.getD, hlt]
     refine CaseB.mk (fun g2 => ?_) (fun g2 => ?_)
     · have c3 : 1 ≤ o.arg := by simp at g2; omega
       refine bM (ti := aU tab) aD aA rfl rfl rfl rfl rfl ⟨rfl, rfl⟩ (aL 0 rfl (.ofR (eJ p))) o.on.toNat (by omega) z48 (fun ad => ?_)
       refine aI ⟨_, rfl, ?_, rfl⟩ (fun _ => rfl)
       rw [hx, e]
       show _ ↔ (0 ≤ o.on ∧ o.on < (p.sems.length : Int)) ∧ _
       simp [c1, c2, c3]
     · have c3 : ¬ 1 ≤ o.arg := by simp at g2; omega
       exact aI ⟨_, rfl, tno fun e => c3 (hx.1 e).2.1, rfl⟩ (fun _ => rfl)
   · exact aI ⟨_, rfl, tno fun e => z88, rfl⟩ (fun _ => rfl)
 refine CaseB.mk (fun k4 => ?_) (fun k4 => ?_)
 · have hx := jO0 (p := p.pure) (o := o) (by simpa using k4)
   apply CaseB.mk <;> intro g
   · have g1 : 0 ≤ o.on := by simp at g; omega
     apply CaseB.mk <;> intro g
     · have g2 : o.on ≤ 2 := by simp at g; omega
       refine aB _ pW rfl rfl rfl rfl ⟨rfl, rfl⟩ (fun A w hW => gD _ w) ?_
       rintro v L ⟨rfl, rfl⟩
       exact aI ⟨_, rfl, by rw [hx]; simp [g1, g2], rfl⟩ (fun _ => rfl)
     · have g2 : ¬ o.on ≤ 2 := by simp at g; omega
       exact aI ⟨_, rfl, tno fun e => g2 (hx.1 e).2.1, rfl⟩ (fun _ => rfl)
   · have g1 : ¬ 0 ≤ o.on := by simp at g; omega
     exact aI ⟨_, rfl, tno fun e => g1 (hx.1 e).1, rfl⟩ (fun _ => rfl)
 refine CaseB.mk (fun k5 => ?_) (fun k5 => ?_)
 · skip
   have hx := opOk5 (p := p.pure) (o := o) (by simpa using k5)
   refine aB _ vH rfl rfl rfl rfl ⟨rfl, rfl⟩ (fun A w hW => qB p.h1 p.groups.length o (A 1) w ⟨hW.var rfl rfl, trivial⟩) ?_
   rintro v L ⟨b, rfl, hb, rfl⟩
   refine CaseB.mk (fun g1 => ?_) (fun g1 => ?_)
   rotate_left
   · exact aI ⟨_, rfl, tno fun e => z88, rfl⟩ (fun _ => rfl)
   have c := hb.1 g1
   have c' : 0 ≤ o.on ∧ o.on < (p.pure.groups.length : Int) := c
   refine CaseB.mk (fun g2 => ?_) (fun g2 => ?_)
   · have c3 : -9 ≤ o.arg := by simp at g2; omega
     exact aI ⟨_, rfl, by rw [hx]; simp only [c', c3, true_and, and_self]; simp, rfl⟩ (fun _ => rfl)
   · have c3 : ¬ -9 ≤ o.arg := by simp at g2; omega
     exact aI ⟨_, rfl, tno fun e => c3 (hx.1 e).2.1, rfl⟩ (fun _ => rfl)
 refine CaseB.mk (fun k6 => ?_) (fun k6 => ?_)
 · skip
   have hx := nI0 (p := p.pure) (o := o) (by simpa using k6)
   refine aB _ vH rfl rfl rfl rfl ⟨rfl, rfl⟩ (fun A w hW => qB p.h1 p.groups.length o (A 1) w ⟨hW.var rfl rfl, trivial⟩) ?_
   rintro v L ⟨b, rfl, hb, rfl⟩
   refine CaseB.mk (fun g1 => ?_) (fun g1 => ?_)
   rotate_left
   · exact aI ⟨_, rfl, tno fun e => z88, rfl⟩ (fun _ => rfl)
   have c := hb.1 g1
   have c' : 0 ≤ o.on ∧ o.on < (p.pure.groups.length : Int) := c
   exact aI ⟨_, rfl, by rw [hx]; simp only [c', true_and, and_self]; simp, rfl⟩ (fun _ => rfl)
 refine CaseB.mk (fun k7 => ?_) (fun k7 => ?_)
 · skip
   have hx := nJ0 (p := p.pure) (o := o) (by simpa using k7)
   refine aB _ vH rfl rfl rfl rfl ⟨rfl, rfl⟩ (fun A w hW => qB p.h2 p.barriers.length o (A 1) w ⟨hW.var rfl rfl, trivial⟩) ?_
   rintro v L ⟨b, rfl, hb, rfl⟩
   refine CaseB.mk (fun g1 => ?_) (fun g1 => ?_)
   rotate_left
   · exact aI ⟨_, rfl, tno fun e => z88, rfl⟩ (fun _ => rfl)
   have c := hb.1 g1
   have c' : 0 ≤ o.on ∧ o.on < (p.pure.barriers.length : Int) := c
   exact aI ⟨_, rfl, by rw [hx]; simp only [c', true_and, and_self]; simp, rfl⟩ (fun _ => rfl)
 refine CaseB.mk (fun k8 => ?_) (fun k8 => ?_)
 · skip
   have hx := nK0 (p := p.pure) (o := o) (by simpa using k8)
   refine aB _ vH rfl rfl rfl rfl ⟨rfl, rfl⟩ (fun A w hW => qB p.h3 p.rooms.length o (A 1) w ⟨hW.var rfl rfl, trivial⟩) ?_
   rintro v L ⟨b, rfl, hb, rfl⟩
   refine CaseB.mk (fun g1 => ?_) (fun g1 => ?_)
   rotate_left
   · exact aI ⟨_, rfl, tno fun e => z88, rfl⟩ (fun _ => rfl)
   have c := hb.1 g1
   have c' : 0 ≤ o.on ∧ o.on < (p.pure.rooms.length : Int) := c
   refine aB _ pW rfl rfl rfl rfl ⟨rfl, rfl⟩ (fun A w hW => gD _ w) ?_
   rintro v L ⟨rfl, rfl⟩
   exact aI ⟨_, rfl, by rw [hx]; simp only [c', true_and, and_self], rfl⟩ (fun _ => rfl)
 refine CaseB.mk (fun k9 => ?_) (fun k9 => ?_)
 · refine CaseB.mk (fun _ => ?_) (fun g => by rw [k9] at g; cases g)
   have hx := jP0 (p := p.pure) (o := o) (.inl (by simpa using k9))
   refine aB _ vH rfl rfl rfl rfl ⟨rfl, rfl⟩ (fun A w hW => qB p.h3 p.rooms.length o (A 1) w ⟨hW.var rfl rfl, trivial⟩) ?_
   rintro v L ⟨b, rfl, hb, rfl⟩
   refine CaseB.mk (fun g1 => ?_) (fun g1 => ?_)
   rotate_left
   · exact aI ⟨_, rfl, tno fun e => z88, rfl⟩ (fun _ => rfl)
   have c := hb.1 g1
   have c' : 0 ≤ o.on ∧ o.on < (p.pure.rooms.length : Int) := c
   exact aI ⟨_, rfl, by rw [hx]; simp only [c', true_and, and_self]; simp, rfl⟩ (fun _ => rfl)
 refine CaseB.mk (fun k10 => ?_) (fun k10 => ?_)
 · skip
   have hx := jP0 (p := p.pure) (o := o) (.inr (by simpa using k10))
   refine aB _ vH rfl rfl rfl rfl ⟨rfl, rfl⟩ (fun A w hW => qB p.h3 p.rooms.length o (A 1) w ⟨hW.var rfl rfl, trivial⟩) ?_
   rintro v L ⟨b, rfl, hb, rfl⟩
   refine CaseB.mk (fun g1 => ?_) (fun g1 => ?_)
   rotate_left
   · exact aI ⟨_, rfl, tno fun e => z88, rfl⟩ (fun _ => rfl)
   have c := hb.1 g1
   have c' : 0 ≤ o.on ∧ o.on < (p.pure.rooms.length : Int) := c
   exact aI ⟨_, rfl, by rw [hx]; simp only [c', true_and, and_self]; simp, rfl⟩ (fun _ => rfl)
 have hno : ¬ OpOk p.pure o := opOk0 (by simp at k1 k2 k3 k4 k5 k6 k7 k8 k9 k10; omega)
 exact aI ⟨_, rfl, tno hno, rfl⟩ (fun _ => rfl)
theorem vQ (p : ProgH) (w : World) (h : At w [fR (aV p)]) (hs : p.sems.length ≤ 1048576 ∧ p.groups.length ≤ 1048576 ∧ p.barriers.length ≤ 1048576 ∧ p.rooms.length ≤ 1048576) :
   Calls Tryz.prog 118 #[dJ p] w (gZ w (ProgOk p.pure)) := by
 refine bV Tryz.func118 rfl aA w _ rfl _ rfl _ h ⟨rfl, rfl, trivial⟩ _ (by decide) ?_
 refine aB _ fN0 rfl rfl rfl rfl ⟨rfl, rfl⟩ (fun A w hW => tM p.h0 p.sems 1 9 w ⟨hW.get 0 rfl (.ofR (eJ p)), trivial⟩ (by omega)) ?_
 rintro v L ⟨b0, rfl, hb0, rfl⟩
 apply CaseB.mk <;> intro g
 · exact aI ⟨_, rfl, tno fun e => (by have := hb0.2 e.sems; rw [this] at g; cases g), rfl⟩ (fun _ => rfl)
 have w0 := hb0.1 z103
 refine aB _ fN0 rfl rfl rfl rfl ⟨rfl, rfl⟩ (fun A w hW => tM p.h1 p.groups 0 9 w ⟨hW.get 0 rfl (.ofR (iP p)), trivial⟩ (by omega)) ?_
 rintro v L ⟨b1, rfl, hb1, rfl⟩
 apply CaseB.mk <;> intro g
 · exact aI ⟨_, rfl, tno fun e => (by have := hb1.2 e.groups; rw [this] at g; cases g), rfl⟩ (fun _ => rfl)
 have w1 := hb1.1 z103
 refine aB _ fN0 rfl rfl rfl rfl ⟨rfl, rfl⟩ (fun A w hW => tM p.h2 p.barriers 1 6 w ⟨hW.get 0 rfl (.ofR (eF p)), trivial⟩ (by omega)) ?_
 rintro v L ⟨b2, rfl, hb2, rfl⟩
 apply CaseB.mk <;> intro g
 · exact aI ⟨_, rfl, tno fun e => (by have := hb2.2 e.barriers; rw [this] at g; cases g), rfl⟩ (fun _ => rfl)
 have w2 := hb2.1 z103
 refine aB _ fN0 rfl rfl rfl rfl ⟨rfl, rfl⟩ (fun A w hW => tM p.h3 p.rooms 0 4 w ⟨hW.get 0 rfl (.ofR (gK p)), trivial⟩ (by omega)) ?_
 rintro v L ⟨b3, rfl, hb3, rfl⟩
 apply CaseB.mk <;> intro g
 · exact aI ⟨_, rfl, tno fun e => (by have := hb3.2 e.rooms; rw [this] at g; cases g), rfl⟩ (fun _ => rfl)
 have w3 := hb3.1 z103
 have hlen : p.pure.threads.length = p.threads.length := by simp [ProgH.pure]
 apply CaseB.mk <;> intro g
 · have q : ¬ 1 ≤ p.threads.length := by have g' := of_decide_eq_true g; omega
   exact aI ⟨_, rfl, tno fun e => q (hlen ▸ e.n1), rfl⟩ (fun _ => rfl)
 have n1 : 1 ≤ p.threads.length := by have g' := of_decide_eq_false g; omega
 apply CaseB.mk <;> intro g
 · have q : ¬ p.threads.length ≤ 4 := by simp at g; omega
   exact aI ⟨_, rfl, tno fun e => q (hlen ▸ e.n4), rfl⟩ (fun _ => rfl)
 have n4 : p.threads.length ≤ 4 := by simp at g; omega
 have hmem : ∀ (k : Nat) (hk : k < p.threads.length), (p.threads[k]).m ∈ p.pure.threads := fun k hk => List.mem_map_of_mem (List.getElem_mem hk)
 refine LoopW.mk ⟨{ k : Nat // k ≤ p.threads.length ∧ ∀ t ∈ p.pure.threads.take k, t.length ≤ 8 ∧ ∀ o ∈ t, OpOk p.pure o },
   fun k => .mk [(1, .p 0 0), (42, .v (p.h4.val p.threads.length)), (43, .v (.int .i64 (p.threads.length : Int))), (44, .v (.int .i64 (k.1 : Int)))] 1 0 [(0, 26, 5)] [((0, 0), .v (p.h0.val p.sems.length)), ((0, 1), .v (p.h1.val p.groups.length)), ((0, 2), .v (p.h2.val p.barriers.length)), ((0, 3), .v (p.h3.val p.rooms.length)), ((0, 4), .v (p.h4.val p.threads.length))] [fR (aV p)],
   fun k => p.threads.length - k.1, ⟨0, Nat.zero_le _, by simp⟩, ?_, ?_⟩
 · exact aC [0] zw2 zw0 zw2 zw5 zw4 rfl rfl
 rintro ⟨k, hk, hinv⟩
 apply CaseB.mk <;> intro g
 · have hlt : k < p.threads.length := by simpa using g
   have hget : p.pure.threads[k]'(by rw [hlen]; exact hlt) = (p.threads[k]).m := by simp [ProgH.pure]
   refine aG dR aA rfl rfl rfl rfl rfl ⟨rfl, rfl⟩ (aL 0 rfl (.trans (.R_R (aY p)) (.ofR bG))) k rfl z48 (fun ad => ?_)
   apply CaseB.mk <;> intro g
   · have q : ¬ (p.threads[k]).m.length ≤ 8 := by simp at g; omega
     exact aI ⟨_, rfl, tno fun e => q (e.ops _ (hmem k hlt)).1, rfl⟩ (fun _ => rfl)
   have n8 : (p.threads[k]).m.length ≤ 8 := by simp at g; omega
   refine LoopW.mk ⟨{ j : Nat // j ≤ (p.threads[k]).m.length ∧ ∀ o ∈ (p.threads[k]).m.take j, OpOk p.pure o },
     fun j => .mk [(1, .p 0 0), (42, .v (p.h4.val p.threads.length)), (43, .v (.int .i64 (p.threads.length : Int))), (44, .v (.int .i64 (k : Int))), (51, .v ((p.threads[k]).q.val (p.threads[k]).m.length)), (52, .v (.int .i64 ((p.threads[k]).m.length : Int))), (53, .v (.int .i64 (j.1 : Int)))] 1 0 [(0, 26, 5)] [((0, 0), .v (p.h0.val p.sems.length)), ((0, 1), .v (p.h1.val p.groups.length)), ((0, 2), .v (p.h2.val p.barriers.length)), ((0, 3), .v (p.h3.val p.rooms.length)), ((0, 4), .v (p.h4.val p.threads.length))] [fR (aV p)],
     fun j => (p.threads[k]).m.length - j.1, ⟨0, Nat.zero_le _, by simp⟩, ?_, ?_⟩
   · exact aC [0] zw2 zw0 zw2 zw5 zw4 rfl rfl
   rintro ⟨j, hj, hinv2⟩
   apply CaseB.mk <;> intro g
   · have hlj : j < (p.threads[k]).m.length := by simpa using g
     refine aG oH aA rfl rfl rfl rfl rfl ⟨rfl, rfl⟩ (aL 0 rfl (.trans (.R_R (aY p)) (.ofR (fW _ _ k hlt)))) j rfl z48 (fun ad2 => ?_)
     refine aB _ cl164 rfl rfl rfl rfl ⟨rfl, rfl⟩ (fun A w hW => gY0 p _ w ⟨hW.get 0 rfl (.refl _), trivial⟩) ?_
     rintro v L ⟨b, rfl, hb, rfl⟩
     apply CaseB.mk <;> intro g
     · exact aI ⟨_, rfl, tno fun e => z57, rfl⟩ (fun _ => rfl)
     have hw := bE j _ hlj (by omega)
     refine ⟨⟨j + 1, by omega, fun o ho => ?_⟩, ?_, by simp; omega⟩
     · rw [List.take_succ_eq_append_getElem hlj] at ho
       rcases List.mem_append.1 ho with ho | ho
       · exact hinv2 o ho
       · simp at ho; subst ho; exact hb.1 z103
     · exact aC [0] zw1 zw0 zw1 zw5 zw3 rfl rfl
   have hge2 : (p.threads[k]).m.length ≤ j := by simpa using g
   have hw := bE k _ hlt (by omega)
   refine ⟨⟨k + 1, by omega, fun t ht => ?_⟩, ?_, by simp; omega⟩
   · rw [List.take_succ_eq_append_getElem (by rw [hlen]; exact hlt)] at ht
     rcases List.mem_append.1 ht with ht | ht
     · exact hinv t ht
     · simp only [List.mem_singleton] at ht
       rw [hget] at ht
       subst ht
       exact ⟨n8, by rw [List.take_of_length_le hge2] at hinv2; exact hinv2⟩
   · exact aC [0] zw1 zw0 zw1 zw5 zw3 rfl rfl
 have hge : p.threads.length ≤ k := by simpa using g
 refine aI ⟨_, rfl, iZ ⟨w0, w1, w2, w3, by rw [hlen]; exact n1, by rw [hlen]; exact n4, fun t ht => ?_⟩, rfl⟩ (fun _ => rfl)
 rw [List.take_of_length_le (by rw [hlen]; exact hge)] at hinv
 exact hinv t ht
def cT : OnceH := ⟨⟨0, 0, 0, []⟩, ⟨none, 0⟩⟩
def rest (ops : List Op) : Int := if ops.length = 0 then 3 else 0
def start (p : Prog) : State := ⟨p.threads.map fun _ => 0, p.threads.map rest, p.sems.map fun n => ⟨n, n, []⟩, [⟨0, 0, 0, []⟩, ⟨0, 0, 0, []⟩, ⟨0, 0, 0, []⟩], p.groups.map fun n => ⟨n, []⟩, p.barriers.map fun n => ⟨n, 0, []⟩, p.rooms.map fun n => ⟨n, [], [], [], false⟩, [], 0⟩
def State.zero : State := ⟨[], [], [], [], [], [], [], [], 0⟩
def StateH.zero : StateH := ⟨[], [], [], [], [], [], [], [], 0, ⟨none, 0⟩, ⟨none, 0⟩, ⟨none, 0⟩, ⟨none, 0⟩, ⟨none, 0⟩, ⟨none, 0⟩, ⟨none, 0⟩, ⟨none, 0⟩⟩
theorem eA : ∀ g ∈ aK StateH.zero, dP g := by
 intro g hg
 simp [aK, StateH.zero, lF, jJ, iO, gG, mT, iB] at hg
 rcases hg with rfl | rfl | rfl | rfl | rfl | rfl | rfl | rfl <;> exact ⟨rfl, rfl, rfl, rfl⟩
def Started (p : Prog) (v : Value) (L : List Fct) : Prop := ∃ (y : StateH) (b : Bool), v = .tuple #[aM y, .bool b] ∧ (b = true ↔ ProgOk p) ∧ (b = true → y.pure = start p) ∧ (b = false → y.pure = State.zero) ∧ L = [fO (aK y)]
theorem xH {α : Type} {inner : α → List Fct} {xs : List α} (h : ∀ x ∈ xs, ∀ g ∈ inner x, dP g) : ∀ g ∈ xs.flatMap inner, dP g := fun g hg => by
 obtain ⟨x, hx, hg⟩ := List.mem_flatMap.1 hg
 exact h x hx g hg
theorem cL0 (p : ProgH) (w : World) (h : At w [fR (aV p)]) (hs : p.sems.length ≤ 1048576 ∧ p.groups.length ≤ 1048576 ∧ p.barriers.length ≤ 1048576 ∧ p.rooms.length ≤ 1048576) :
   Calls Tryz.prog 104 #[dJ p] w (Ret w (Started p.pure)) := by
 refine bV Tryz.func104 rfl aA w _ rfl _ rfl _ h ⟨rfl, rfl, trivial⟩ _ (by decide) ?_
 refine aB _ mV0 rfl rfl rfl rfl ⟨rfl, rfl⟩ (fun A w hW => vQ p w ⟨hW.get 0 rfl (.refl _), trivial⟩ hs) ?_
 rintro v L ⟨b, rfl, hb, rfl⟩
 apply CaseB.mk <;> intro g
 · have hn : ¬ ProgOk p.pure := fun e => by rw [hb.2 e] at g; cases g
   refine aP (.joinO [90] (Gs := [_]) ⟨.inr ⟨Nat.le_of_ble_eq_true rfl, eA⟩, trivial⟩ rfl (G := aK StateH.zero) (.of_eq (by simp))) ?_
   exact bC [0] ⟨StateH.zero, false, rfl, tno hn, fun e => z110, fun _ => rfl, rfl⟩ z151 rfl ⟨rfl, trivial⟩ (fun _ => rfl)
 have ok := hb.1 z103
 have n4 : p.threads.length ≤ 4 := by have := ok.n4; simpa [ProgH.pure] using this
 have m0 : p.sems.length ≤ 3 := ok.sems.1
 have m1 : p.groups.length ≤ 3 := ok.groups.1
 have m2 : p.barriers.length ≤ 3 := ok.barriers.1
 have m3 : p.rooms.length ≤ 3 := ok.rooms.1
 refine qX cX cT aA rfl rfl rfl rfl rfl (by decide) ⟨rfl, rfl⟩ 3 rfl z48 z48 (fun y => ?_)
 obtain ⟨LP, hLP⟩ : ∃ l, l = p.threads.map (fun _ => (0 : Int)) := ⟨_, rfl⟩
 obtain ⟨LS, hLS⟩ : ∃ l, l = p.threads.map (fun x => rest x.m) := ⟨_, rfl⟩
 have lP : LP.length = p.threads.length := by rw [hLP]; simp
 have lS : LS.length = p.threads.length := by rw [hLS]; simp
 refine LoopW.mk ⟨{ q : Nat × Sl × Sl // q.1 ≤ p.threads.length },
   fun q => .mk [(1, .p 0 0), (2, .p 1 0), (4, .p 2 0), (23, .v (p.h4.val p.threads.length)), (24, .v (.int .i64 (p.threads.length : Int))), (25, .v (.int .i64 (q.1.1 : Int)))] 3 0 [(0, 26, 5), (1, 35, 9), (2, 35, 9)]
     [((0, 0), .v (p.h0.val p.sems.length)), ((0, 1), .v (p.h1.val p.groups.length)), ((0, 2), .v (p.h2.val p.barriers.length)), ((0, 3), .v (p.h3.val p.rooms.length)), ((0, 4), .v (p.h4.val p.threads.length)), ((2, 0), .v (q.1.2.1.val (LP.take q.1.1).length)), ((2, 1), .v (q.1.2.2.val (LS.take q.1.1).length)), ((2, 2), .v (.slice none 0 0)), ((2, 3), .v (y.val 3)), ((2, 4), .v (.slice none 0 0)), ((2, 5), .v (.slice none 0 0)), ((2, 6), .v (.slice none 0 0)), ((2, 7), .v (.slice none 0 0)), ((2, 8), .v (.int .i64 0))]
     [own q.1.2.1 3 aJ 1 (LP.take q.1.1), own q.1.2.2 3 aJ 1 (LS.take q.1.1), own y 102 eB 4 [cT, cT, cT], fR (aV p)],
   fun q => p.threads.length - q.1.1, ⟨(0, ⟨none, 0⟩, ⟨none, 0⟩), Nat.zero_le _⟩, ?_, ?_⟩
 · exact aC [99, 98, 0, 1] zw2 zw0 zw2 zw5 zw4 rfl rfl
 rintro ⟨⟨k, a, s⟩, hk⟩
 simp only at hk
 apply CaseB.mk <;> intro g
 · have hlt : k < p.threads.length := by simpa using g
   have eP : LP.take k ++ [0] = LP.take (k + 1) := by rw [hLP]; exact aR hlt rfl rfl
   have eS : ∀ x, x = rest (p.threads[k]).m → LS.take k ++ [x] = LS.take (k + 1) := fun x hx => by rw [hLS]; exact aR hlt rfl hx
   have hw := bE k _ hlt (by omega)
   refine aG dR aA rfl rfl rfl rfl rfl ⟨rfl, rfl⟩ (aL 3 rfl (.trans (.R_R (aY p)) (.ofR bG))) k rfl z48 (fun ad => ?_)
   refine AllSl.mk fun u => ?_
   refine bR aD 1 aA (ys := [0]) rfl rfl rfl rfl rfl rfl rfl rfl rfl (by decide) ⟨rfl, rfl⟩ rfl z40 z48 z48 (fun a2 => ?_)
   rw [eP]
   apply CaseB.mk <;> intro g
   · have q : (p.threads[k]).m.length = 0 := by simp at g; simp [g]
     refine AllSl.mk fun u2 => ?_
     refine bR aD 3 aA (ys := [3]) rfl rfl rfl rfl rfl rfl rfl rfl rfl (by decide) ⟨rfl, rfl⟩ rfl z40 z48 z48 (fun s2 => ?_)
     rw [eS 3 (by simp [rest, q])]
     refine ⟨⟨(k + 1, a2, s2), by omega⟩, ?_, by simp only; omega⟩
     exact aC [2, 0, 4, 5] zw1 zw0 zw1 zw5 zw3 rfl rfl
   · have q : ¬ (p.threads[k]).m.length = 0 := by simp at g; simp [g]
     refine AllSl.mk fun u2 => ?_
     refine bR aD 3 aA (ys := [0]) rfl rfl rfl rfl rfl rfl rfl rfl rfl (by decide) ⟨rfl, rfl⟩ rfl z40 z48 z48 (fun s2 => ?_)
     rw [eS 0 (by simp [rest, q])]
     refine ⟨⟨(k + 1, a2, s2), by omega⟩, ?_, by simp only; omega⟩
     exact aC [2, 0, 4, 5] zw1 zw0 zw1 zw5 zw3 rfl rfl
 have hge : p.threads.length ≤ k := by simpa using g
 have eP : LP.take k = LP := List.take_of_length_le (by omega)
 have eS : LS.take k = LS := List.take_of_length_le (by omega)
 obtain ⟨L0, hL0⟩ : ∃ l, l = p.sems.map (fun n => (⟨⟨n, n, []⟩, ⟨none, 0⟩⟩ : SemH)) := ⟨_, rfl⟩
 have lenL0 : L0.length = p.sems.length := by rw [hL0]; simp
 refine LoopW.mk ⟨{ q : Nat × Sl // q.1 ≤ p.sems.length },
   fun q => .mk [(1, .p 0 0), (2, .p 1 0), (4, .p 2 0), (45, .v (p.h0.val p.sems.length)), (46, .v (.int .i64 (p.sems.length : Int))), (47, .v (.int .i64 (q.1.1 : Int)))] 3 0 [(0, 26, 5), (1, 35, 9), (2, 35, 9)]
     [((0, 0), .v (p.h0.val p.sems.length)), ((0, 1), .v (p.h1.val p.groups.length)), ((0, 2), .v (p.h2.val p.barriers.length)), ((0, 3), .v (p.h3.val p.rooms.length)), ((0, 4), .v (p.h4.val p.threads.length)), ((2, 0), .v (a.val LP.length)), ((2, 1), .v (s.val LS.length)), ((2, 2), .v (q.1.2.val (L0.take q.1.1).length)), ((2, 3), .v (y.val 3)), ((2, 4), .v (.slice none 0 0)), ((2, 5), .v (.slice none 0 0)), ((2, 6), .v (.slice none 0 0)), ((2, 7), .v (.slice none 0 0)), ((2, 8), .v (.int .i64 0))]
     [own q.1.2 95 gF 3 (L0.take q.1.1), own a 3 aJ 1 LP, own s 3 aJ 1 LS, own y 102 eB 4 [cT, cT, cT], fR (aV p)],
   fun q => p.sems.length - q.1.1, ⟨(0, ⟨none, 0⟩), Nat.zero_le _⟩, ?_, ?_⟩
 · exact aC [99, 0, 1, 2, 3] zw16 zw0 zw16 zw5 zw34 rfl rfl
 rintro ⟨⟨k0, c0⟩, hk⟩
 simp only at hk
 apply CaseB.mk <;> intro g
 · have hlt : k0 < p.sems.length := by simpa using g
   have e : ∀ x, x = (⟨⟨p.sems[k0], p.sems[k0], []⟩, ⟨none, 0⟩⟩ : SemH) → L0.take k0 ++ [x] = L0.take (k0 + 1) := fun x hx => by rw [hL0]; exact aR hlt rfl hx
   have hw := bE k0 _ hlt (by omega)
   refine aG aD aA rfl rfl rfl rfl rfl ⟨rfl, rfl⟩ (aL 4 rfl (.ofR (eJ p))) k0 rfl z48 (fun ad => ?_)
   refine AllSl.mk fun u => ?_
   refine bR dC 1 aA (ys := [⟨⟨p.sems[k0], p.sems[k0], []⟩, ⟨none, 0⟩⟩]) rfl rfl rfl rfl rfl rfl rfl rfl rfl (by decide) ⟨rfl, rfl⟩ rfl z40 z48 z48 (fun c0' => ?_)
   rw [e _ rfl]
   refine ⟨⟨(k0 + 1, c0'), by omega⟩, ?_, by simp only; omega⟩
   exact aC [0, 2, 3, 4, 5] zw1 zw0 zw1 zw5 zw3 rfl rfl
 have hge0 : p.sems.length ≤ k0 := by simpa using g
 have e0 : L0.take k0 = L0 := List.take_of_length_le (by omega)
 obtain ⟨L1, hL1⟩ : ∃ l, l = p.groups.map (fun n => (⟨⟨n, []⟩, ⟨none, 0⟩⟩ : GroupH)) := ⟨_, rfl⟩
 have lenL1 : L1.length = p.groups.length := by rw [hL1]; simp
 refine LoopW.mk ⟨{ q : Nat × Sl // q.1 ≤ p.groups.length },
   fun q => .mk [(1, .p 0 0), (2, .p 1 0), (4, .p 2 0), (61, .v (p.h1.val p.groups.length)), (62, .v (.int .i64 (p.groups.length : Int))), (63, .v (.int .i64 (q.1.1 : Int)))] 3 0 [(0, 26, 5), (1, 35, 9), (2, 35, 9)]
     [((0, 0), .v (p.h0.val p.sems.length)), ((0, 1), .v (p.h1.val p.groups.length)), ((0, 2), .v (p.h2.val p.barriers.length)), ((0, 3), .v (p.h3.val p.rooms.length)), ((0, 4), .v (p.h4.val p.threads.length)), ((2, 0), .v (a.val LP.length)), ((2, 1), .v (s.val LS.length)), ((2, 2), .v (c0.val L0.length)), ((2, 3), .v (y.val 3)), ((2, 4), .v (q.1.2.val (L1.take q.1.1).length)), ((2, 5), .v (.slice none 0 0)), ((2, 6), .v (.slice none 0 0)), ((2, 7), .v (.slice none 0 0)), ((2, 8), .v (.int .i64 0))]
     [own q.1.2 108 dQ 2 (L1.take q.1.1), own c0 95 gF 3 L0, own a 3 aJ 1 LP, own s 3 aJ 1 LS, own y 102 eB 4 [cT, cT, cT], fR (aV p)],
   fun q => p.groups.length - q.1.1, ⟨(0, ⟨none, 0⟩), Nat.zero_le _⟩, ?_, ?_⟩
 · refine aC [99, 0, 1, 2, 3, 4] ?_ ?_ ?_ ?_ ?_ rfl rfl
   · exact zw27
   · exact zw0
   · exact zw27
   · exact zw5
   · repeat (first | exact trivial | refine ⟨.inl ⟨_, rfl, (by first | rfl | ((first | (rw [e0]; done))))⟩, ?_⟩ | refine ⟨.inr z146, ?_⟩)
 rintro ⟨⟨k1, c1⟩, hk⟩
 simp only at hk
 apply CaseB.mk <;> intro g
 · have hlt : k1 < p.groups.length := by simpa using g
   have e : ∀ x, x = (⟨⟨p.groups[k1], []⟩, ⟨none, 0⟩⟩ : GroupH) → L1.take k1 ++ [x] = L1.take (k1 + 1) := fun x hx => by rw [hL1]; exact aR hlt rfl hx
   have hw := bE k1 _ hlt (by omega)
   refine aG aD aA rfl rfl rfl rfl rfl ⟨rfl, rfl⟩ (aL 5 rfl (.ofR (iP p))) k1 rfl z48 (fun ad => ?_)
   refine AllSl.mk fun u => ?_
   refine bR cJ 1 aA (ys := [⟨⟨p.groups[k1], []⟩, ⟨none, 0⟩⟩]) rfl rfl rfl rfl rfl rfl rfl rfl rfl (by decide) ⟨rfl, rfl⟩ rfl z40 z48 z48 (fun c1' => ?_)
   rw [e _ rfl]
   refine ⟨⟨(k1 + 1, c1'), by omega⟩, ?_, by simp only; omega⟩
   exact aC [0, 2, 3, 4, 5, 6] zw1 zw0 zw1 zw5 zw3 rfl rfl
 have hge1 : p.groups.length ≤ k1 := by simpa using g
 have e1 : L1.take k1 = L1 := List.take_of_length_le (by omega)
 obtain ⟨L2, hL2⟩ : ∃ l, l = p.barriers.map (fun n => (⟨⟨n, 0, []⟩, ⟨none, 0⟩⟩ : BarrierH)) := ⟨_, rfl⟩
 have lenL2 : L2.length = p.barriers.length := by rw [hL2]; simp
 refine LoopW.mk ⟨{ q : Nat × Sl // q.1 ≤ p.barriers.length },
   fun q => .mk [(1, .p 0 0), (2, .p 1 0), (4, .p 2 0), (76, .v (p.h2.val p.barriers.length)), (77, .v (.int .i64 (p.barriers.length : Int))), (78, .v (.int .i64 (q.1.1 : Int)))] 3 0 [(0, 26, 5), (1, 35, 9), (2, 35, 9)]
     [((0, 0), .v (p.h0.val p.sems.length)), ((0, 1), .v (p.h1.val p.groups.length)), ((0, 2), .v (p.h2.val p.barriers.length)), ((0, 3), .v (p.h3.val p.rooms.length)), ((0, 4), .v (p.h4.val p.threads.length)), ((2, 0), .v (a.val LP.length)), ((2, 1), .v (s.val LS.length)), ((2, 2), .v (c0.val L0.length)), ((2, 3), .v (y.val 3)), ((2, 4), .v (c1.val L1.length)), ((2, 5), .v (q.1.2.val (L2.take q.1.1).length)), ((2, 6), .v (.slice none 0 0)), ((2, 7), .v (.slice none 0 0)), ((2, 8), .v (.int .i64 0))]
     [own q.1.2 114 cY 3 (L2.take q.1.1), own c1 108 dQ 2 L1, own c0 95 gF 3 L0, own a 3 aJ 1 LP, own s 3 aJ 1 LS, own y 102 eB 4 [cT, cT, cT], fR (aV p)],
   fun q => p.barriers.length - q.1.1, ⟨(0, ⟨none, 0⟩), Nat.zero_le _⟩, ?_, ?_⟩
 · exact aC [99, 0, 1, 2, 3, 4, 5] zw18 zw0 zw18 zw5 zw36 rfl rfl
 rintro ⟨⟨k2, c2⟩, hk⟩
 simp only at hk
 apply CaseB.mk <;> intro g
 · have hlt : k2 < p.barriers.length := by simpa using g
   have e : ∀ x, x = (⟨⟨p.barriers[k2], 0, []⟩, ⟨none, 0⟩⟩ : BarrierH) → L2.take k2 ++ [x] = L2.take (k2 + 1) := fun x hx => by rw [hL2]; exact aR hlt rfl hx
   have hw := bE k2 _ hlt (by omega)
   refine aG aD aA rfl rfl rfl rfl rfl ⟨rfl, rfl⟩ (aL 6 rfl (.ofR (eF p))) k2 rfl z48 (fun ad => ?_)
   refine AllSl.mk fun u => ?_
   refine bR cC 1 aA (ys := [⟨⟨p.barriers[k2], 0, []⟩, ⟨none, 0⟩⟩]) rfl rfl rfl rfl rfl rfl rfl rfl rfl (by decide) ⟨rfl, rfl⟩ rfl z40 z48 z48 (fun c2' => ?_)
   rw [e _ rfl]
   refine ⟨⟨(k2 + 1, c2'), by omega⟩, ?_, by simp only; omega⟩
   exact aC [0, 2, 3, 4, 5, 6, 7] zw1 zw0 zw1 zw5 zw3 rfl rfl
 have hge2 : p.barriers.length ≤ k2 := by simpa using g
 have e2 : L2.take k2 = L2 := List.take_of_length_le (by omega)
 obtain ⟨L3, hL3⟩ : ∃ l, l = p.rooms.map (fun n => (⟨⟨n, [], [], [], false⟩, ⟨none, 0⟩, ⟨none, 0⟩, ⟨none, 0⟩⟩ : ChanH)) := ⟨_, rfl⟩
 have lenL3 : L3.length = p.rooms.length := by rw [hL3]; simp
 refine LoopW.mk ⟨{ q : Nat × Sl // q.1 ≤ p.rooms.length },
   fun q => .mk [(1, .p 0 0), (2, .p 1 0), (4, .p 2 0), (91, .v (p.h3.val p.rooms.length)), (92, .v (.int .i64 (p.rooms.length : Int))), (93, .v (.int .i64 (q.1.1 : Int)))] 3 0 [(0, 26, 5), (1, 35, 9), (2, 35, 9)]
     [((0, 0), .v (p.h0.val p.sems.length)), ((0, 1), .v (p.h1.val p.groups.length)), ((0, 2), .v (p.h2.val p.barriers.length)), ((0, 3), .v (p.h3.val p.rooms.length)), ((0, 4), .v (p.h4.val p.threads.length)), ((2, 0), .v (a.val LP.length)), ((2, 1), .v (s.val LS.length)), ((2, 2), .v (c0.val L0.length)), ((2, 3), .v (y.val 3)), ((2, 4), .v (c1.val L1.length)), ((2, 5), .v (c2.val L2.length)), ((2, 6), .v (q.1.2.val (L3.take q.1.1).length)), ((2, 7), .v (.slice none 0 0)), ((2, 8), .v (.int .i64 0))]
     [own q.1.2 119 fD 5 (L3.take q.1.1), own c2 114 cY 3 L2, own c1 108 dQ 2 L1, own c0 95 gF 3 L0, own a 3 aJ 1 LP, own s 3 aJ 1 LS, own y 102 eB 4 [cT, cT, cT], fR (aV p)],
   fun q => p.rooms.length - q.1.1, ⟨(0, ⟨none, 0⟩), Nat.zero_le _⟩, ?_, ?_⟩
 · exact aC [99, 0, 1, 2, 3, 4, 5, 6] zw19 zw0 zw19 zw5 zw37 rfl rfl
 rintro ⟨⟨k3, c3⟩, hk⟩
 simp only at hk
 apply CaseB.mk <;> intro g
 · have hlt : k3 < p.rooms.length := by simpa using g
   have e : ∀ x, x = (⟨⟨p.rooms[k3], [], [], [], false⟩, ⟨none, 0⟩, ⟨none, 0⟩, ⟨none, 0⟩⟩ : ChanH) → L3.take k3 ++ [x] = L3.take (k3 + 1) := fun x hx => by rw [hL3]; exact aR hlt rfl hx
   have hw := bE k3 _ hlt (by omega)
   refine aG aD aA rfl rfl rfl rfl rfl ⟨rfl, rfl⟩ (aL 7 rfl (.ofR (gK p))) k3 rfl z48 (fun ad => ?_)
   refine AllSl.mk fun u => ?_
   refine bR cN 1 aA (ys := [⟨⟨p.rooms[k3], [], [], [], false⟩, ⟨none, 0⟩, ⟨none, 0⟩, ⟨none, 0⟩⟩]) rfl rfl rfl rfl rfl rfl rfl rfl rfl (by decide) ⟨rfl, rfl⟩ rfl z40 z48 z48 (fun c3' => ?_)
   rw [e _ rfl]
   refine ⟨⟨(k3 + 1, c3'), by omega⟩, ?_, by simp only; omega⟩
   exact aC [0, 2, 3, 4, 5, 6, 7, 8] zw1 zw0 zw1 zw5 zw3 rfl rfl
 have hge3 : p.rooms.length ≤ k3 := by simpa using g
 have e3 : L3.take k3 = L3 := List.take_of_length_le (by omega)
 simp only [e3]
 generalize hy : (⟨LP, LS, L0, [cT, cT, cT], L1, L2, L3, [], 0, a, s, c0, y, c1, c2, c3, ⟨none, 0⟩⟩ : StateH) = Y
 have nil0 : ∀ g ∈ L0.flatMap oG, dP g := xH fun x hx g hg => by
   rw [hL0] at hx; obtain ⟨n, _, rfl⟩ := List.mem_map.1 hx; simp [oG] at hg; subst hg; exact ⟨rfl, rfl, rfl, rfl⟩
 have nil1 : ∀ g ∈ L1.flatMap iV, dP g := xH fun x hx g hg => by
   rw [hL1] at hx; obtain ⟨n, _, rfl⟩ := List.mem_map.1 hx; simp [iV] at hg; subst hg; exact ⟨rfl, rfl, rfl, rfl⟩
 have nil2 : ∀ g ∈ L2.flatMap dZ, dP g := xH fun x hx g hg => by
   rw [hL2] at hx; obtain ⟨n, _, rfl⟩ := List.mem_map.1 hx; simp [dZ] at hg; subst hg; exact ⟨rfl, rfl, rfl, rfl⟩
 have nil3 : ∀ g ∈ L3.flatMap gJ, dP g := xH fun x hx g hg => by
   rw [hL3] at hx; obtain ⟨n, _, rfl⟩ := List.mem_map.1 hx; simp [gJ] at hg; rcases hg with rfl | rfl | rfl <;> exact ⟨rfl, rfl, rfl, rfl⟩
 have gH : ∀ g ∈ [cT, cT, cT].flatMap mS, dP g := xH fun x hx g hg => by
   simp at hx; subst hx; simp [mS, cT] at hg; subst hg; exact ⟨rfl, rfl, rfl, rfl⟩
 have nil5 : ∀ g ∈ [own ⟨none, 0⟩ 3 aJ 1 ([] : List Int)], dP g := fun g hg => by
   simp at hg; subst hg; exact ⟨rfl, rfl, rfl, rfl⟩
 refine aP (.joinO [4, 5, 3, 90, 6, 91, 2, 92, 1, 93, 0, 94, 95] (Gs := [[_], [_], [_], _, [_], _, [_], _, [_], _, [_], _, _])
   ⟨.inl ⟨_, rfl, .own⟩, .inl ⟨_, rfl, .own⟩, .inl ⟨_, rfl, .own⟩, .inr ⟨Nat.le_of_ble_eq_true rfl, nil0⟩, .inl ⟨_, rfl, .own⟩, .inr ⟨Nat.le_of_ble_eq_true rfl, gH⟩, .inl ⟨_, rfl, .own⟩, .inr ⟨Nat.le_of_ble_eq_true rfl, nil1⟩, .inl ⟨_, rfl, .own⟩, .inr ⟨Nat.le_of_ble_eq_true rfl, nil2⟩, .inl ⟨_, rfl, .own⟩, .inr ⟨Nat.le_of_ble_eq_true rfl, nil3⟩, .inr ⟨Nat.le_of_ble_eq_true rfl, nil5⟩, trivial⟩ rfl (G := aK Y) (.of_eq z61)) ?_
 have hYp : Y.pure = start p.pure := by
   rw [← hy]
   simp [StateH.pure, start, ProgH.pure, hLP, hLS, hL0, hL1, hL2, hL3, cT]
 exact bC [0] ⟨Y, true, by rw [← hy], iZ ok, fun _ => hYp, fun e => z110, rfl⟩ z151 rfl ⟨rfl, trivial⟩ (fun _ => rfl)
def Sem.small20 (m : Sem) : Prop := m.queue.length ≤ 1048576
def Once.small20 (m : Once) : Prop := m.waits.length ≤ 1048576
def Group.small20 (m : Group) : Prop := m.waits.length ≤ 1048576
def Barrier.small20 (m : Barrier) : Prop := m.waits.length ≤ 1048576
def Chan.small20 (m : Chan) : Prop := m.items.length ≤ 1048576 ∧ m.senders.length ≤ 1048576 ∧ m.getters.length ≤ 1048576
def State.small20 (s : State) : Prop := s.places.length ≤ 1048576 ∧ s.status.length ≤ 1048576 ∧ eC0 Sem.small20 s.sems ∧ eC0 Once.small20 s.onces ∧ eC0 Group.small20 s.groups ∧ eC0 Barrier.small20 s.barriers ∧ eC0 Chan.small20 s.chans ∧ s.said.length ≤ 1048576
def OpS.small20 (m : List Op) : Prop := m.length ≤ 1048576
def Prog.small20 (s : Prog) : Prop := s.sems.length ≤ 1048576 ∧ s.groups.length ≤ 1048576 ∧ s.barriers.length ≤ 1048576 ∧ s.rooms.length ≤ 1048576 ∧ eC0 OpS.small20 s.threads
theorem eF0 (x y : Waiting) (w : World) : (binOp .neq 179 (.agg (cJ0 x).toArray) (.agg (cJ0 y).toArray)).run Tryz.prog w = .ok (.bool (decide (x ≠ y))) w := by
 have h := jI0 (P := Tryz.prog) (t := 179) (it := 3) (xs := [x.kind, x.on, x.arg]) (ys := [y.kind, y.on, y.arg]) z107 z107 z107 rfl z107 w
 have e : ([x.kind, x.on, x.arg] ≠ [y.kind, y.on, y.arg]) ↔ x ≠ y := by cases x; cases y; simp
 rw [show decide (x ≠ y) = decide ([x.kind, x.on, x.arg] ≠ [y.kind, y.on, y.arg]) from by simp only [e]]
 exact h
def aN {β : Type} (es : List (Int × β)) (t : Int) : List β := (es.filter fun e => e.1 == t).map (·.2)
theorem zD {β : Type} (m : List (Int × β)) (k : Int) (v : β) (t : Int) : cH (fU m k v) t = if k = t then some v else cH m t := by
 induction m with
 | nil => simp only [fU, cH]
 | cons p r ih =>
   obtain ⟨q, u⟩ := p
   simp only [fU]
   by_cases e : q = k
   · subst e
     simp only [if_true, cH]
     by_cases e2 : q = t <;> simp [e2]
   · simp only [e, if_false, cH, ih]
     by_cases e2 : q = t
     · subst e2
       have : ¬ k = q := fun h => e h.symm
       simp [this]
     · simp [e2]
theorem uV {β : Type} (es : List (Int × β)) (t : Int) : cH (dU es) t = if aN es t = [] then none else some (aN es t) := by
 have : ∀ (es : List (Int × β)) (m : List (Int × List β)) (f : List β), (cH m t = if f = [] then none else some f) → cH (es.foldl oJ m) t = if f ++ aN es t = [] then none else some (f ++ aN es t) := fun es => by
   induction es with
   | nil => intro m f h; simpa [aN] using h
   | cons e r ih =>
     intro m f h
     obtain ⟨k, x⟩ := e
     simp only [List.foldl_cons]
     by_cases hk : k = t
     · subst hk
       have h1 : cH (oJ m (k, x)) k = some (f ++ [x]) := by
         rw [oJ, zD, if_pos rfl, h]
         by_cases hf : f = []
         · simp [hf]
         · simp [hf]
       have := ih (oJ m (k, x)) (f ++ [x]) (by rw [h1]; simp)
       rw [this]
       simp [aN]
     · have h1 : cH (oJ m (k, x)) t = cH m t := by rw [oJ, zD, if_neg hk]
       have := ih (oJ m (k, x)) f (by rw [h1]; exact h)
       rw [this]
       have e2 : aN ((k, x) :: r) t = aN r t := by simp [aN, hk]
       rw [e2]
 have := this es [] [] (by simp [cH])
 simpa [dU] using this
theorem eG0 {β : Type} (es : List (Int × β)) (t : Int) : (cH (dU es) t).getD [] = aN es t := by
 rw [uV]
 by_cases h : aN es t = [] <;> simp [h]
theorem oK {β : Type} {es : List (Int × β)} {t : Int} : aN es t = [] ↔ ∀ e ∈ es, e.1 ≠ t := by
 simp [aN, List.filter_eq_nil_iff]
def lH {β : Type} (m : List (Int × β)) : Prop := (m.map (·.1)).Nodup
theorem gZ0 {β : Type} (m : List (Int × β)) (k : Int) (v : β) : (fU m k v).map (·.1) = if k ∈ m.map (·.1) then m.map (·.1) else m.map (·.1) ++ [k] := by
 induction m with
 | nil => simp [fU]
 | cons p r ih =>
   obtain ⟨q, u⟩ := p
   simp only [fU]
   by_cases e : q = k
   · simp [e]
   · have e' : ¬ k = q := fun h => e h.symm
     simp only [e, if_false, List.map_cons, ih, List.mem_cons, e', false_or]
     split <;> simp
theorem vR {β : Type} (es : List (Int × β)) : lH (dU es) := by
 have : ∀ (es : List (Int × β)) (m : List (Int × List β)), lH m → lH (es.foldl oJ m) := fun es => by
   induction es with
   | nil => intro m h; exact h
   | cons e r ih =>
     intro m h
     refine ih _ ?_
     simp only [lH, oJ, gZ0] at h ⊢
     split
     · exact h
     · rename_i hn
       rw [List.nodup_append]
       exact ⟨h, by simp, fun a ha b hb => by simp at hb; subst hb; rintro rfl; exact hn ha⟩
 exact this es [] (by simp [lH])
theorem cM0 {β : Type} {ps : List (Int × LH β)} : lH (pm ps) ↔ lH ps := by
 simp [lH, pm, Function.comp_def]
theorem hB0 {β : Type} {m : List (Int × β)} {t : Int} : cH m t = none ↔ t ∉ m.map (·.1) := by
 induction m with
 | nil => simp [cH]
 | cons p r ih =>
   obtain ⟨q, u⟩ := p
   simp only [cH]
   by_cases e : q = t
   · simp [e]
   · have e' : ¬ t = q := fun h => e h.symm
     simp [e, e', ih]
theorem wG {β : Type} {m : List (Int × β)} {t : Int} {u : β} (h : cH m t = some u) : (t, u) ∈ m := by
 induction m with
 | nil => simp [cH] at h
 | cons p r ih =>
   obtain ⟨q, v⟩ := p
   simp only [cH] at h
   by_cases e : q = t
   · simp only [e, if_true, Option.some.injEq] at h
     subst h; subst e; simp
   · simp only [e, if_false] at h
     exact List.mem_cons_of_mem _ (ih h)
theorem cN0 {β : Type} (m : List (Int × β)) (t : Int) : (fL m t).Sublist m := by
 induction m with
 | nil => exact .refl _
 | cons p r ih =>
   obtain ⟨q, v⟩ := p
   simp only [fL]
   split
   · exact List.sublist_cons_self _ _
   · exact ih.cons_cons _
theorem hC0 {β : Type} {m : List (Int × β)} (h : lH m) (t : Int) : lH (fL m t) := h.sublist ((cN0 m t).map _)
theorem jQ0 {β : Type} {m : List (Int × β)} (h : lH m) (t x : Int) : cH (fL m t) x = if x = t then none else cH m x := by
 induction m with
 | nil => simp [fL, cH]
 | cons p r ih =>
   obtain ⟨q, v⟩ := p
   have hq : q ∉ r.map (·.1) ∧ lH r := by simpa [lH] using h
   simp only [fL]
   by_cases e : q = t
   · subst e
     simp only [if_true]
     by_cases ex : x = q
     · subst ex; simp only [if_true]; exact hB0.2 hq.1
     · have : ¬ q = x := fun h => ex h.symm
       simp [ex, cH, this]
   · simp only [e, if_false, cH, ih hq.2]
     by_cases ex : q = x
     · subst ex; simp [e]
     · simp [ex]
theorem cO0 {β : Type} {m : List (Int × β)} (h : ∀ x, cH m x = none) : m = [] := by
 cases m with
 | nil => rfl
 | cons p r =>
   have := h p.1
   simp [cH] at this
theorem wH {β : Type} {ty : TypeId} {enc : β → List Value} {sz : Nat} {ps : List (Int × LH β)} {t : Int} {u : LH β} (h : (t, u) ∈ ps) : RdIn (nO ty enc sz ps) (slo u.q enc sz u.xs) :=
 RdIn.own (o := false) (e := ty) (List.mem_flatMap.2 ⟨_, h, by simp⟩)
structure Left {β : Type} (ps qs : List (Int × LH β)) (k : Nat) : Prop where
 sub : qs.Sublist ps
 key : lH qs
 get : ∀ x, cH qs x = if 0 ≤ x ∧ x < k then none else cH ps x
theorem Left.start {β : Type} {ps : List (Int × LH β)} (h : lH ps) : Left ps ps 0 := ⟨.refl _, h, fun x => by rw [if_neg (by omega)]⟩
theorem Left.next {β : Type} {ps qs : List (Int × LH β)} {k : Nat} (h : Left ps qs k) : Left ps (fL qs (k : Int)) (k + 1) := by
 refine ⟨(cN0 _ _).trans h.sub, hC0 h.key _, fun x => ?_⟩
 rw [jQ0 h.key, h.get]
 by_cases e : x = k
 · rw [if_pos e, if_pos (by omega)]
 · rw [if_neg e]
   by_cases e2 : 0 ≤ x ∧ x < k
   · rw [if_pos e2, if_pos (by omega)]
   · rw [if_neg e2, if_neg (by omega)]
theorem Left.at {β : Type} {ps qs : List (Int × LH β)} {k : Nat} (h : Left ps qs k) {es : List (Int × β)} (he : pm ps = dU es) : ((cH qs (k : Int)).getD LH.nil).xs = aN es k := by
 have h1 := h.get k
 rw [if_neg (by omega)] at h1
 have h2 := eG0 es (k : Int)
 rw [← he, tI] at h2
 rw [h1, ← h2]
 cases cH ps (k : Int) <;> rfl
theorem Left.done {β : Type} {ps qs : List (Int × LH β)} {k : Nat} (h : Left ps qs k) {es : List (Int × β)} (he : pm ps = dU es) : qs = [] ↔ ∀ e ∈ es, 0 ≤ e.1 ∧ e.1 < k := by
 constructor
 · rintro rfl e hm
   refine Classical.byContradiction fun hn => ?_
   have h1 := h.get e.1
   rw [if_neg hn] at h1
   have h2 := uV es e.1
   have h3 : aN es e.1 ≠ [] := fun h0 => oK.1 h0 e hm rfl
   rw [if_neg h3, ← he, tI, ← h1] at h2
   simp [cH] at h2
 · intro hall
   refine cO0 fun x => ?_
   rw [h.get]
   split
   · rfl
   · rename_i hn
     have h3 : aN es x = [] := oK.2 fun e hm hx => hn (hx ▸ hall e hm)
     have h2 := uV es x
     rw [if_pos h3, ← he, tI] at h2
     cases hq : cH ps x with
     | none => rfl
     | some u => rw [hq] at h2; simp at h2
def jW (o : Op) : Waiting := ⟨o.kind, o.on, if o.kind = 2 ∨ o.kind = 8 then o.arg else 0⟩
def lI (ops : List Op) (at_ st : Int) (w : List Waiting) (o : List Int) : Prop :=
 0 ≤ at_ ∧ at_ ≤ ops.length ∧ ((at_ = ops.length ∧ st = 3 ∧ w = [] ∧ o = []) ∨
   ∃ op, ops[at_.toNat]? = some op ∧ ((st = 0 ∧ w = [] ∧ o = []) ∨ (st = 1 ∧ o = [] ∧ w = [jW op]) ∨ (st = 2 ∧ w = [] ∧ op.kind = 4 ∧ o = [op.on])))
structure Fits (p : Prog) (s : State) : Prop where
 prog : ProgOk p
 np : s.places.length = p.threads.length
 ns : s.status.length = p.threads.length
 lsems : s.sems.length = p.sems.length
 lgroups : s.groups.length = p.groups.length
 lbarriers : s.barriers.length = p.barriers.length
 lchans : s.chans.length = p.rooms.length
 lonces : s.onces.length = 3
 lsaid : s.said.length ≤ 64
 f0 : 0 ≤ s.fault
 f4 : s.fault ≤ 4
 sems : ∀ (i : Nat) x, s.sems[i]? = some x → SemOk x ∧ p.sems[i]? = some x.limit
 groups : ∀ x ∈ s.groups, eY x
 barriers : ∀ (i : Nat) x, s.barriers[i]? = some x → dO x ∧ p.barriers[i]? = some x.parties
 chans : ∀ (i : Nat) x, s.chans[i]? = some x → x.valid = true ∧ p.rooms[i]? = some x.room
 onces : ∀ x ∈ s.onces, eG x
 said : ∀ v ∈ s.said, aW v = true
 threads : ∀ (t : Nat) ops at_ st, p.threads[t]? = some ops → s.places[t]? = some at_ → s.status[t]? = some st → lI ops at_ st (aN (bH s) t) (aN (cD s) t)
 ev : ∀ e ∈ bH s, 0 ≤ e.1 ∧ e.1 < p.threads.length
 ow : ∀ e ∈ cD s, 0 ≤ e.1 ∧ e.1 < p.threads.length
theorem oX {α β : Type} {f : Nat → α → List β} {C : Nat} : ∀ {i : Nat} {xs : List α}, (∀ i x, x ∈ xs → (f i x).length ≤ C) → (evL f i xs).length ≤ xs.length * C
 | i, [], _ => by simp [evL]
 | i, x :: r, h => by
   have h1 := h i x (by simp)
   have h2 := oX (i := i + 1) (xs := r) fun i y hy => h i y (by simp [hy])
   have e : (r.length + 1) * C = r.length * C + C := Nat.succ_mul _ _
   simp only [evL, List.length_append, List.length_cons, e]
   omega
theorem eV {m : Once} (h : eG m) : m.waits.length ≤ 6 := by
 rcases h with h | h | h
 · rw [h.2.2.2]; simp
 · exact cW h.2.2.2.1
 · rw [h.2.2.2]; simp
theorem fY {m : Barrier} (h : dO m) : m.waits.length ≤ 6 := cW h.2.2.2.2.2
theorem fM {m : Group} (h : eY m) : m.waits.length ≤ 6 := cW h.2.1
theorem mV {m : Chan} (h : m.valid = true) : m.senders.length + m.getters.length ≤ 6 := by
 have hv : m.Valid := by simpa [Chan.valid] using h
 have := cW hv.di
 simpa [Chan.threads] using this
theorem tN (m : Chan) (i s g : Sl) (w : World) (h : At w [slo i aJ 1 m.items, slo s jE 2 m.senders, slo g aJ 1 m.getters]) (hb : m.small) :
   Calls Tryz.prog 181 #[jP m i s g] w (Ret w fun v L => v = .bool m.valid ∧ L = []) := by
 obtain ⟨b1, b2, b3⟩ := hb
 have bT : m.threads.length ≤ 8589934592 := by simp [Chan.threads]; omega
 have hno : ∀ {P : Prop}, ¬ P → (m.Valid → P) → ∀ A, hC A [SV.lit false] = Value.bool m.valid := fun h1 h2 _ => Chan.invalid fun hv => h1 (h2 hv)
 refine bV Tryz.func181 rfl aA w _ rfl _ rfl _ h z147 _ (by decide) ?_
 refine CaseB.mk (fun h1 => ?_) (fun h1 => ?_)
 · exact aI ⟨rfl, rfl⟩ (hno (by simp at h1; omega) Chan.Valid.r0)
 · have r0 : 0 ≤ m.room := by simp at h1; omega
   refine CaseB.mk (fun h2 => ?_) (fun h2 => ?_)
   · exact aI ⟨rfl, rfl⟩ (hno (by simp at h2; omega) Chan.Valid.r1)
   · have r1 : m.room ≤ 4 := by simp at h2; omega
     refine CaseB.mk (fun h3 => ?_) (fun h3 => ?_)
     · exact aI ⟨rfl, rfl⟩ (hno (by simp at h3; omega) Chan.Valid.it)
     · have it : (m.items.length : Int) ≤ m.room := by simp at h3; omega
       refine CaseB.mk (fun h4 => ?_) (fun h4 => ?_)
       · exact aI ⟨rfl, rfl⟩ (hno (P := m.senders.length ≤ 6) (by simp at h4; omega) (fun hv => by have := cW hv.di; simp [Chan.threads] at this; omega))
       refine CaseB.mk (fun h5 => ?_) (fun h5 => ?_)
       · exact aI ⟨rfl, rfl⟩ (hno (P := m.getters.length ≤ 6) (by simp at h5; omega) (fun hv => by have := cW hv.di; simp [Chan.threads] at this; omega))
       have e7 : m.senders.take 7 = m.senders := List.take_of_length_le (by simp at h4; omega)
       refine LoopW.mk ⟨{ k : Nat // k ≤ m.items.length ∧ ∀ x ∈ m.items.take k, aW x = true },
         fun p => .mk [(1, .p 0 0), (3, .v (.int .i64 p.1))] 1 0 [(0, 119, 5)] [((0, 0), .v (.int .i64 m.room)), ((0, 1), .v (i.val m.items.length)), ((0, 2), .v (s.val m.senders.length)), ((0, 3), .v (g.val m.getters.length)), ((0, 4), .v (.bool m.closed))] [slo i aJ 1 m.items, slo s jE 2 m.senders, slo g aJ 1 m.getters],
         fun p => m.items.length - p.1, ⟨0, Nat.zero_le _, by simp⟩, ?_, ?_⟩
       · exact aC [0, 1, 2] zw2 zw0 zw2 zw5 zw4 rfl rfl
       · rintro ⟨k, hk, ha⟩
         refine CaseB.mk (fun h => ?_) (fun h => ?_)
         · have hlt : k < m.items.length := by simpa using h
           refine aG aD aA rfl rfl rfl rfl rfl ⟨rfl, rfl⟩ z40 k rfl z48 (fun ad => ?_)
           refine aB _ pX rfl rfl rfl rfl ⟨rfl, rfl⟩ (fun A w hW => gE _ w) ?_
           rintro v L ⟨rfl, rfl⟩
           refine CaseB.mk (fun h => ?_) (fun h => ?_)
           · exact aI ⟨rfl, rfl⟩ (hno z100 (fun hv => hv.iv _ (List.getElem_mem hlt)))
           · have hw := nI k _ hlt b1
             refine ⟨⟨k + 1, by omega, jA hlt ha z100⟩, ?_, by simp; omega⟩
             exact aC [0, 1, 2] zw1 zw0 zw1 zw5 zw3 rfl rfl
         · have hge : m.items.length ≤ k := by simpa using h
           rw [List.take_of_length_le hge] at ha
           refine LoopW.mk ⟨{ k : Nat // k ≤ m.senders.length ∧ ∀ x ∈ m.senders.take k, aW x.v = true },
             fun p => .mk [(1, .p 0 0), (4, .v (.int .i64 p.1))] 1 0 [(0, 119, 5)] [((0, 0), .v (.int .i64 m.room)), ((0, 1), .v (i.val m.items.length)), ((0, 2), .v (s.val m.senders.length)), ((0, 3), .v (g.val m.getters.length)), ((0, 4), .v (.bool m.closed))] [slo i aJ 1 m.items, slo s jE 2 m.senders, slo g aJ 1 m.getters],
             fun p => m.senders.length - p.1, ⟨0, Nat.zero_le _, by simp⟩, ?_, ?_⟩
           · exact aC [0, 1, 2] zw2 zw0 zw2 zw5 zw4 rfl rfl
           · rintro ⟨k, hk, hs⟩
             refine CaseB.mk (fun h => ?_) (fun h => ?_)
             · have hlt : k < m.senders.length := by simpa using h
               refine aG hU aA rfl rfl rfl rfl rfl ⟨rfl, rfl⟩ z40 k rfl z48 (fun ad => ?_)
               refine aB _ pX rfl rfl rfl rfl ⟨rfl, rfl⟩ (fun A w hW => gE _ w) ?_
               rintro v L ⟨rfl, rfl⟩
               refine CaseB.mk (fun h => ?_) (fun h => ?_)
               · exact aI ⟨rfl, rfl⟩ (hno z100 (fun hv => hv.sv _ (List.getElem_mem hlt)))
               · have hw := nI k _ hlt b2
                 refine ⟨⟨k + 1, by omega, jA (p := fun l : Letter => aW l.v = true) hlt hs z100⟩, ?_, by simp; omega⟩
                 exact aC [0, 1, 2] zw1 zw0 zw1 zw5 zw3 rfl rfl
             · have hge : m.senders.length ≤ k := by simpa using h
               rw [List.take_of_length_le hge] at hs
               refine aE aA z107 z107 z107 200 [((0, 2), .v (s.val m.senders.length)), ((0, 3), .v (g.val m.getters.length))] [0, 1, 2] [_, _, _] z142 z152 ⟨rfl, rfl, rfl, trivial⟩ rfl ?_
               refine bL _ fP0 rfl rfl rfl rfl ⟨rfl, rfl⟩ (fun A w hW => nK s m.senders w ⟨z39, trivial⟩ b2) ?_
               rw [e7]
               rintro v L ⟨y, rfl, rfl⟩
               refine lN (ti := aU tab) aD aA  rfl rfl rfl rfl rfl rfl rfl rfl rfl (by decide) ⟨rfl, rfl⟩ z44 z40 z48 z48 z105 (fun z => ?_)
               refine bL _ fR0 rfl rfl rfl rfl ⟨rfl, rfl⟩ (fun A w hW => qY z m.threads w ⟨z39, trivial⟩ bT) ?_
               rintro v L ⟨rfl, rfl⟩
               refine CaseB.mk (fun h => ?_) (fun h => ?_)
               · exact aI ⟨rfl, rfl⟩ (hno z100 Chan.Valid.di)
               · have hd : bD m.threads = true := by simpa using h
                 have fin : (m.senders ≠ [] → (m.items.length : Int) = m.room ∧ m.getters = [] ∧ m.closed = false) → (m.getters ≠ [] → m.items = [] ∧ m.closed = false) → m.Valid := fun x y => ⟨r0, r1, it, ha, hs, hd, x, y⟩
                 refine CaseB.mk (fun q1 => ?_) (fun q1 => ?_)
                 · have hs1 : m.senders ≠ [] := eI.1 q1
                   refine CaseB.mk (fun q2 => ?_) (fun q2 => ?_)
                   · exact aI ⟨rfl, rfl⟩ (fun _ => Chan.invalid (fun hv => by have := (hv.se hs1).1; simp at q2; omega))
                   · have e2 : (m.items.length : Int) = m.room := by simp at q2; omega
                     refine CaseB.mk (fun q3 => ?_) (fun q3 => ?_)
                     · exact aI ⟨rfl, rfl⟩ (fun _ => Chan.invalid (fun hv => eI.1 q3 (hv.se hs1).2.1))
                     · have e3 : m.getters = [] := by
                         cases hg : m.getters with
                         | nil => rfl
                         | cons a r => rw [hg] at q3; simp at q3
                       refine CaseB.mk (fun q4 => ?_) (fun q4 => ?_)
                       · exact aI ⟨rfl, rfl⟩ (fun _ => Chan.invalid (fun hv => by have := (hv.se hs1).2.2; rw [q4] at this; cases this))
                       · have hS : m.senders ≠ [] → (m.items.length : Int) = m.room ∧ m.getters = [] ∧ m.closed = false := fun _ => ⟨e2, e3, q4⟩
                         refine CaseB.mk (fun q5 => ?_) (fun q5 => ?_)
                         · have hg : m.getters = [] := by simpa using q5
                           exact aI ⟨rfl, rfl⟩ (fun _ => Chan.isvalid (fin hS (fun hn => absurd hg hn)))
                         · have hg : m.getters ≠ [] := by simpa using q5
                           refine CaseB.mk (fun q6 => ?_) (fun q6 => ?_)
                           · have hi : m.items = [] := by simpa using q6
                             refine aI ⟨rfl, rfl⟩ (fun _ => ?_)
                             show Value.bool (!m.closed) = _
                             cases hc : m.closed with
                             | false => exact Chan.isvalid (fin hS (fun _ => ⟨hi, hc⟩))
                             | true => exact Chan.invalid (fun hv => by have := (hv.ge hg).2; rw [hc] at this; cases this)
                           · have hi : m.items ≠ [] := by simpa using q6
                             exact aI ⟨rfl, rfl⟩ (fun _ => Chan.invalid (fun hv => hi (hv.ge hg).1))
                 · have hs1 : m.senders = [] := by
                     cases hg : m.senders with
                     | nil => rfl
                     | cons a r => rw [hg] at q1; simp at q1
                   have hS : m.senders ≠ [] → (m.items.length : Int) = m.room ∧ m.getters = [] ∧ m.closed = false := fun hn => absurd hs1 hn
                   refine CaseB.mk (fun q5 => ?_) (fun q5 => ?_)
                   · have hg : m.getters = [] := by simpa using q5
                     exact aI ⟨rfl, rfl⟩ (fun _ => Chan.isvalid (fin hS (fun hn => absurd hg hn)))
                   · have hg : m.getters ≠ [] := by simpa using q5
                     refine CaseB.mk (fun q6 => ?_) (fun q6 => ?_)
                     · have hi : m.items = [] := by simpa using q6
                       refine aI ⟨rfl, rfl⟩ (fun _ => ?_)
                       show Value.bool (!m.closed) = _
                       cases hc : m.closed with
                       | false => exact Chan.isvalid (fin hS (fun _ => ⟨hi, hc⟩))
                       | true => exact Chan.invalid (fun hv => by have := (hv.ge hg).2; rw [hc] at this; cases this)
                     · have hi : m.items ≠ [] := by simpa using q6
                       exact aI ⟨rfl, rfl⟩ (fun _ => Chan.invalid (fun hv => hi (hv.ge hg).1))
end Go.Proofs.YtijmjecehppbfaaGreat
