/- FnMoreChoices: texts that its proof stands on, part 3. -/
import Derived.Laws.StructEq
import Derived.Laws.OwnMore
import Derived.Laws.Strings
import Derived.Test.YtijmjecehppbfaaGreatQMoreChoicesb
namespace Go.Proofs.YtijmjecehppbfaaGreat
set_option maxRecDepth 100000
set_option maxHeartbeats 100000000
open Go Go.Sx Go.RowKit
theorem list2 {α β : Type} {fs : List α} {h : α → β} {a b : β} (hF : fs.map h = [a, b]) : ∃ f g, fs = [f, g] ∧ h f = a ∧ h g = b := by
 cases fs with
 | nil => simp at hF
 | cons f r =>
   cases r with
   | nil => simp at hF
   | cons g r =>
     cases r with
     | nil => simp at hF; exact ⟨f, g, rfl, hF.1, hF.2⟩
     | cons _ _ => simp at hF
theorem sW {P : Program} {t : TypeId} {d : TypeDesc} (hd : P.underlying t = some d) (ha : mM d = false) (cs : Array Value) (off : Nat) (v : Value) (h : cs[off]? = some v) (w : World) : (part t cs off).run P w = .ok v w := by
 unfold part
 rw [Sem.run_bind, mJ hd, ha]
 simp [h]
theorem eqLet (x y : Letter) (w : World) : (binOp .neq 187 (.agg (fX x).toArray) (.agg (fX y).toArray)).run Tryz.prog w = .ok (.bool (decide (x ≠ y))) w := by
 have hS : Tryz.prog.underlying 187 = some (.struct (Tryz.prog.fieldsOf 187)) := by kernel_rfl
 have hI : Tryz.prog.underlying 3 = some (.int .i64) := by kernel_rfl
 have hF : (Tryz.prog.fieldsOf 187).toList.map (fun f => (f.name == "_", f.type, f.offset)) = [(false, 3, 0), (false, 3, 1)] := by kernel_rfl
 have hp : Tryz.prog.stoodInHeld 187 = false := by kernel_rfl
 obtain ⟨xt, xv⟩ := x
 obtain ⟨yt, yv⟩ := y
 rw [run_neq_struct, show (10000 : Nat) = 9999 + 1 from rfl, run_equalIn_agg w 9999 187 _ _ hS hp]
 obtain ⟨f, g, e, hf, hg⟩ := list2 hF
 simp only [Prod.mk.injEq] at hf hg
 obtain ⟨f1, f2, f3⟩ := hf
 obtain ⟨g1, g2, g3⟩ := hg
 have f1' : f.name ≠ "_" := by simpa using f1
 have g1' : g.name ≠ "_" := by simpa using g1
 have p1 := sW hI rfl (fX ⟨xt, xv⟩).toArray 0 (.int .i64 xt) rfl w
 have p2 := sW hI rfl (fX ⟨yt, yv⟩).toArray 0 (.int .i64 yt) rfl w
 have p3 := sW hI rfl (fX ⟨xt, xv⟩).toArray 1 (.int .i64 xv) rfl w
 have p4 := sW hI rfl (fX ⟨yt, yv⟩).toArray 1 (.int .i64 yv) rfl w
 have q1 : (Op.equalIn 9999 3 (.int .i64 xt) (.int .i64 yt)).run Tryz.prog w = .ok (xt == yt) w := run_equalIn_int w 9998 3 .i64 .i64 xt yt hI
 have q2 : (Op.equalIn 9999 3 (.int .i64 xv) (.int .i64 yv)).run Tryz.prog w = .ok (xv == yv) w := run_equalIn_int w 9998 3 .i64 .i64 xv yv hI
 simp only [e, Op.eqFields, f2, f3, g2, g3, f1', g1', ne_eq, not_false_eq_true, if_true, Sem.run_bind, p1, p2, Result.andThen_ok, q1]
 by_cases h1 : xt = yt
 · subst h1
   by_cases h2 : xv = yv
   · subst h2; simp [p3, q2]
   · simp [h2, p3, p4, q2]
 · simp [h1]
theorem jO0 (i j : Sl) (xs ys : List Letter) (w : World) (h : At w [slo i fX 2 xs, slo j fX 2 ys]) (hb : xs.length ≤ 4294967296) (hb2 : ys.length ≤ 4294967296) :
   Calls Tryz.prog 151 #[i.val xs.length, j.val ys.length] w (Ret w fun v L => v = .bool (decide (xs = ys)) ∧ L = []) := by
 refine cB Tryz.func151 rfl aA w _ rfl _ rfl _ h ⟨rfl, rfl, rfl, rfl, trivial⟩ _ _ (by decide) ?_
 refine CaseB.mk (fun h => ?_) (fun h => ?_)
 · have hne : xs ≠ ys := by rintro rfl; simp at h
   refine aH ⟨?_, rfl⟩ (fun _ => rfl)
   simp [hne]
 · have hl : xs.length = ys.length := by simp at h; omega
   refine LoopW.mk ⟨{ k : Nat // k ≤ xs.length ∧ xs.take k = ys.take k },
     fun p => .mk [(0, .v (i.val xs.length)), (1, .v (j.val ys.length)), (12, .v (.int .i64 xs.length)), (13, .v (.int .i64 p.1))] 0 0 [] [] [slo i fX 2 xs, slo j fX 2 ys],
     fun p => xs.length - p.1, ⟨0, Nat.zero_le _, rfl⟩, ?_, ?_⟩
   · exact aC [0, 1] zw2 zw0 zw2 zw5 zw4 rfl rfl
   · rintro ⟨k, hk, he⟩
     refine CaseB.mk (fun h => ?_) (fun h => ?_)
     · have hlt : k < xs.length := by simpa using h
       have hlt2 : k < ys.length := by omega
       obtain ⟨q1, q2⟩ := eO he hlt hlt2
       refine aF aA z102 z102 z102 200 [] [0, 1] [_, _] trivial trivial ⟨rfl, rfl, trivial⟩ rfl ?_
       refine bO (ti := aU tab) gR aA rfl rfl rfl rfl rfl ⟨rfl, rfl⟩ z35 k rfl z43 (fun ad => ?_)
       refine bO (ti := aU tab) gR aA rfl rfl rfl rfl rfl ⟨rfl, rfl⟩ z35 k rfl z43 (fun ad2 => ?_)
       refine kT rfl rfl rfl ⟨rfl, rfl⟩ (.bool (decide (xs[k] ≠ ys[k]))) (fun w => (run_eqGuard_agg w _ _ _ _ _ _ z102)) (fun w => (eqLet _ _ w)) ?_
       refine CaseB.mk (fun h => ?_) (fun h => ?_)
       · have hne := q2 z95
         refine aH ⟨?_, rfl⟩ (fun _ => rfl)
         simp [hne]
       · have heq := q1 z95
         have hw := lK k _ hlt hb
         refine ⟨⟨k + 1, by omega, heq⟩, ?_, by simp; omega⟩
         exact aC [0, 1] zw1 zw0 zw1 zw5 zw3 rfl rfl
     · have hge : xs.length ≤ k := by simpa using h
       have heq : xs = ys := by rw [List.take_of_length_le hge, List.take_of_length_le (by omega)] at he; exact he
       refine aH ⟨?_, rfl⟩ (fun _ => rfl)
       simp [heq]
theorem cD0 (i j : Sl) (xs ys : List Int) (w : World) (h : At w [slo i aJ 1 xs, slo j aJ 1 ys]) (hb : xs.length ≤ 4294967296) (hb2 : ys.length ≤ 4294967296) :
   Calls Tryz.prog 13 #[i.val xs.length, j.val ys.length] w (Ret w fun v L => v = .bool (decide (xs = ys)) ∧ L = []) := by
 refine cB Tryz.func13 rfl aA w _ rfl _ rfl _ h ⟨rfl, rfl, rfl, rfl, trivial⟩ _ _ (by decide) ?_
 refine CaseB.mk (fun h => ?_) (fun h => ?_)
 · have hne : xs ≠ ys := by rintro rfl; simp at h
   refine aH ⟨?_, rfl⟩ (fun _ => rfl)
   simp [hne]
 · have hl : xs.length = ys.length := by simp at h; omega
   refine LoopW.mk ⟨{ k : Nat // k ≤ xs.length ∧ xs.take k = ys.take k },
     fun p => .mk [(0, .v (i.val xs.length)), (1, .v (j.val ys.length)), (5, .v (.int .i64 p.1))] 0 0 [] [] [slo i aJ 1 xs, slo j aJ 1 ys],
     fun p => xs.length - p.1, ⟨0, Nat.zero_le _, rfl⟩, ?_, ?_⟩
   · exact aC [0, 1] zw2 zw0 zw2 zw5 zw4 rfl rfl
   · rintro ⟨k, hk, he⟩
     refine CaseB.mk (fun h => ?_) (fun h => ?_)
     · have hlt : k < xs.length := by simpa using h
       have hlt2 : k < ys.length := by omega
       obtain ⟨q1, q2⟩ := eO he hlt hlt2
       refine aF aA z102 z102 z102 200 [] [0, 1] [_, _] trivial trivial ⟨rfl, rfl, trivial⟩ rfl ?_
       refine bO (ti := aU tab) aE aA rfl rfl rfl rfl rfl ⟨rfl, rfl⟩ z35 k rfl z43 (fun ad => ?_)
       refine bO (ti := aU tab) aE aA rfl rfl rfl rfl rfl ⟨rfl, rfl⟩ z35 k rfl z43 (fun ad2 => ?_)
       refine CaseB.mk (fun h => ?_) (fun h => ?_)
       · have hne := q2 z95
         refine aH ⟨?_, rfl⟩ (fun _ => rfl)
         simp [hne]
       · have heq := q1 z95
         have hw := lK k _ hlt hb
         refine ⟨⟨k + 1, by omega, heq⟩, ?_, by simp; omega⟩
         exact aC [0, 1] zw1 zw0 zw1 zw5 zw3 rfl rfl
     · have hge : xs.length ≤ k := by simpa using h
       have heq : xs = ys := by rw [List.take_of_length_le hge, List.take_of_length_le (by omega)] at he; exact he
       refine aH ⟨?_, rfl⟩ (fun _ => rfl)
       simp [heq]
theorem aM0 (m : Chan) (i s g : Sl) (w : World) (h : At w [slo i aJ 1 m.items, slo s fX 2 m.senders, slo g aJ 1 m.getters]) (hb : m.small) :
   Calls Tryz.prog 144 #[iZ m i s g] w (Ret w fun v L => ∃ i' s' g' : Sl, v = iZ m i' s' g' ∧ L = [own i' 3 aJ 1 m.items, own s' 187 fX 2 m.senders, own g' 3 aJ 1 m.getters]) := by
 obtain ⟨b1, b2, b3⟩ := hb
 refine bZ Tryz.func144 rfl aA w _ rfl _ rfl _ h z140 _ (by decide) ?_
 refine aF aA z102 z102 z102 200 [((0, 0), .v (.int .i64 m.room)), ((0, 1), .v (i.val m.items.length)), ((0, 2), .v (s.val m.senders.length)), ((0, 3), .v (g.val m.getters.length)), ((0, 4), .v (.bool m.closed))] [0, 1, 2] [_, _, _] z117 z133 ⟨rfl, rfl, rfl, trivial⟩ rfl ?_
 repeat' ((conv => whnf); (first
   | refine BothW.mk ?_ ?_
   | refine AllSl.mk fun y => ?_
   | (refine oS rfl rfl ?_; refine mQ (ti := aU tab) aE aA (xs := ([] : List Int)) rfl rfl rfl rfl rfl rfl rfl rfl rfl (by decide) ⟨rfl, rfl⟩ z39 z35 z43 z43 z100 (fun y => ?_))
   | (refine oS rfl rfl ?_; refine mQ (ti := aU tab) gR aA (xs := ([] : List Letter)) rfl rfl rfl rfl rfl rfl rfl rfl rfl (by decide) ⟨rfl, rfl⟩ z39 z35 z43 z43 z100 (fun y => ?_))
   | fail))
 all_goals
   exact bG [2, 1, 0] ⟨_, _, _, rfl, rfl⟩ z128 rfl ⟨rfl, rfl, rfl, trivial⟩ (fun _ => rfl)
theorem nH (s : Sl) (l : List Letter) (w : World) (h : At w [slo s fX 2 l]) (hb : l.length ≤ 4294967296) :
   Calls Tryz.prog 182 #[s.val l.length] w (Ret w fun v L => ∃ y : Sl, v = y.val ((l.take 7).map Letter.t).length ∧ L = [own y 3 aJ 1 ((l.take 7).map Letter.t)]) := by
 refine bZ Tryz.func182 rfl aA w _ rfl _ rfl _ h ⟨rfl, rfl, trivial⟩ _ (by decide) ?_
 refine AllSl.mk fun y0 => ?_
 refine LoopW.mk ⟨{ p : Nat × Sl // p.1 ≤ l.length ∧ p.1 ≤ 7 },
   fun p => .mk [(0, .v (s.val l.length)), (3, .v (p.1.2.val ((l.take p.1.1).map Letter.t).length)), (4, .v (.int .i64 p.1.1))] 0 0 [] [] [own p.1.2 3 aJ 1 ((l.take p.1.1).map Letter.t), slo s fX 2 l],
   fun p => l.length - p.1.1, ⟨(0, y0), Nat.zero_le _, by omega⟩, ?_, ?_⟩
 · exact aC [0, 1] zw2 zw0 zw2 zw5 zw4 rfl rfl
 · rintro ⟨⟨k, out⟩, hk, hk7⟩
   simp only at hk hk7
   have hend : ¬ (k < l.length ∧ k ≤ 6) → (l.take k).map Letter.t = (l.take 7).map Letter.t := fun hn => by
     rcases Nat.lt_or_ge k l.length with h1 | h1
     · have : k = 7 := by omega
       rw [this]
     · rw [List.take_of_length_le h1, List.take_of_length_le (by omega)]
   refine CaseB.mk (fun h => ?_) (fun h => ?_)
   · have hlt : k < l.length := by simpa using h
     refine CaseB.mk (fun h => ?_) (fun h => ?_)
     · have h6 : k ≤ 6 := by simp at h; omega
       have hT : (l.take (k + 1)).map Letter.t = (l.take k).map Letter.t ++ [l[k].t] := by
         rw [List.take_succ_eq_append_getElem hlt, List.map_append]; rfl
       refine aG gR aA rfl rfl rfl rfl rfl ⟨rfl, rfl⟩ z35 k rfl z43 (fun ad => ?_)
       refine AllSl.mk fun y => ?_
       refine bQ aE 1 aA (ys := [l[k].t]) rfl rfl rfl rfl rfl rfl rfl rfl rfl (by decide) ⟨rfl, rfl⟩ rfl z35 z43 z43 (fun z => ?_)
       refine ⟨⟨(k + 1, z), by omega, by omega⟩, ?_, by simp; omega⟩
       have hw := lK k _ hlt hb
       exact aC [0, 2] zw9 zw0 zw9 zw5 zw24 rfl rfl
     · have h6 : ¬ k ≤ 6 := by simp at h; omega
       have hT := hend (fun h => h6 h.2)
       exact bG [0] ⟨out, rfl, rfl⟩ ⟨.inl ⟨_, rfl, z81⟩, trivial⟩ rfl ⟨rfl, trivial⟩ (fun _ => z81)
   · have hlt : ¬ k < l.length := by simpa using h
     have hT := hend (fun h => hlt h.1)
     exact bG [0] ⟨out, rfl, rfl⟩ ⟨.inl ⟨_, rfl, z81⟩, trivial⟩ rfl ⟨rfl, trivial⟩ (fun _ => z81)
theorem sX (m k : Chan) : m = k ↔ m.room = k.room ∧ m.closed = k.closed ∧ m.items = k.items ∧ m.senders = k.senders ∧ m.getters = k.getters := by
 cases m; cases k; simp only [Chan.mk.injEq]; constructor
 · rintro ⟨h1, h2, h3, h4, h5⟩; exact ⟨h1, h5, h2, h3, h4⟩
 · rintro ⟨h1, h2, h3, h4, h5⟩; exact ⟨h1, h3, h4, h5, h2⟩
theorem oP0 (m k : Chan) (i s g i2 s2 g2 : Sl) (w : World) (h : At w [slo i aJ 1 m.items, slo s fX 2 m.senders, slo g aJ 1 m.getters, slo i2 aJ 1 k.items, slo s2 fX 2 k.senders, slo g2 aJ 1 k.getters]) (hb : m.small) (hb2 : k.small) :
   Calls Tryz.prog 93 #[iZ m i s g, iZ k i2 s2 g2] w (Ret w fun v L => v = .bool (decide (m = k)) ∧ L = []) := by
 obtain ⟨b1, b2, b3⟩ := hb
 obtain ⟨c1, c2, c3⟩ := hb2
 refine cB Tryz.func93 rfl aA w _ rfl _ rfl _ h ⟨rfl, rfl, rfl, rfl, rfl, rfl, rfl, rfl, rfl, rfl, rfl, rfl, trivial⟩ _ _ (by decide) ?_
 refine CaseB.mk (fun h1 => ?_) (fun h1 => ?_)
 · refine CaseB.mk (fun h2 => ?_) (fun h2 => ?_)
   · refine aB _ bV0 rfl rfl rfl rfl ⟨rfl, rfl⟩ (fun A w hW => lL i i2 m.items k.items w ⟨z34, z34, trivial⟩ b1 c1) ?_
     rintro v L ⟨rfl, rfl⟩
     refine CaseB.mk (fun h3 => ?_) (fun h3 => ?_)
     · refine aB _ cl151 rfl rfl rfl rfl ⟨rfl, rfl⟩ (fun A w hW => jO0 s s2 m.senders k.senders w ⟨z34, z34, trivial⟩ b2 c2) ?_
       rintro v L ⟨rfl, rfl⟩
       refine CaseB.mk (fun h4 => ?_) (fun h4 => ?_)
       · refine aB _ bV0 rfl rfl rfl rfl ⟨rfl, rfl⟩ (fun A w hW => lL g g2 m.getters k.getters w ⟨z34, z34, trivial⟩ b3 c3) ?_
         rintro v L ⟨rfl, rfl⟩
         refine aH ⟨?_, rfl⟩ (fun _ => rfl)
         simp at h1 h2 h3 h4
         simp [sX, h1, h2, h3, h4]
       · refine aH ⟨?_, rfl⟩ (fun _ => rfl)
         simp at h4
         simp [sX, h4]
     · refine aH ⟨?_, rfl⟩ (fun _ => rfl)
       simp at h3
       simp [sX, h3]
   · refine aH ⟨?_, rfl⟩ (fun _ => rfl)
     simp at h2
     simp [sX, h2]
 · refine aH ⟨?_, rfl⟩ (fun _ => rfl)
   simp at h1
   simp [sX, h1]
end Go.Proofs.YtijmjecehppbfaaGreat
namespace Go.Sx
set_option maxRecDepth 100000
set_option maxHeartbeats 100000000
open Go Go.RowKit
def sY (G : List Fct) (b : Nat) : Prop := ∃ f ∈ G, f.foot b
structure NewG (w w' : World) (G L : List Fct) : Prop where
 all : ∀ f ∈ L, f.P w' ∧ f.old = false ∧ ∀ b, f.foot b → (w.heap.size ≤ b ∨ sY G b) ∧ b < w'.heap.size
 dj : L.Pairwise Dj
def eA0 (w : World) (G : List Fct) (R : Value → List Fct → Prop) : Ending → World → Prop := fun e w' =>
 ∃ v L, e = .returned v ∧ ExtX (sY G) w w' ∧ NewG w w' G L ∧ R v L
def vG (w : World) (g : Nat) (ty : TypeId) (sz : Nat) (G : List Fct) (R : Value → List Value → List Fct → Prop) : Ending → World → Prop := fun e w' =>
 ∃ v cs L, e = .returned v ∧ ExtX (fun b => b = g ∨ sY G b) w w' ∧ Blk w' g ty cs ∧ cs.length = sz ∧ NewG w w' G L ∧ (∀ f ∈ L, ∀ b, f.foot b → b ≠ g) ∧ R v cs L
def lD : List Fct → Prop
 | [] => True
 | f :: r => f.isOwn = true ∧ f.old = false ∧ lD r
theorem nI : ∀ {F : List Fct}, lD F → ∀ f ∈ F, f.isOwn = true ∧ f.old = false
 | [], _, f, hf => by cases hf
 | g :: r, h, f, hf => by
   rcases List.mem_cons.1 hf with rfl | hf
   · exact ⟨h.1, h.2.1⟩
   · exact nI h.2.2 f hf
structure AtG (w : World) (G Fo : List Fct) : Prop where
 at_ : At w (G ++ Fo)
 ok : lD G
 dj : (G ++ Fo).Pairwise Dj
abbrev wX (P : Program) (w : World) (N : Nat) (G : List Fct) : Env := ⟨P, w, sY G, N, 0, fun _ => 0⟩
abbrev nJ (P : Program) (w : World) (N g : Nat) (G : List Fct) : Env := ⟨P, w, fun b => b = g ∨ sY G b, N, 1, fun _ => g⟩
theorem WD.initG (P : Program) (w : World) (N : Nat) (A : Nat → Nat) {G Fo : List Fct} (h : AtG w G Fo) (ho : kV Fo) : WD (wX P w N G) A 0 [] [] (G ++ Fo) w := by
 refine ⟨by simp, by simp, by simp [dS], by simp, Nat.le_refl _, ExtX.refl _ _, fun f hf => ?_, h.dj⟩
 obtain ⟨h1, h2⟩ := wP h.at_ f hf
 refine ⟨h1, fun b hb => ⟨h2 b hb, by simp⟩, fun e b hb => .inr ?_⟩
 rcases List.mem_append.1 hf with hf | hf
 · exact ⟨f, hf, hb⟩
 · rw [(gP ho f hf).2] at e; cases e
theorem WD.initPG (P : Program) (w : World) (N g : Nat) (ty : TypeId) (cs : List Value) {G Fo : List Fct} (hg : Blk w g ty cs) (h : AtG w G Fo) (hoff : ∀ f ∈ G ++ Fo, ∀ b, f.foot b → b ≠ g) (ho : kV Fo) :
   WD (nJ P w N g G) (fun _ => g) 1 [(0, ty, cs.length)] (fG 0 0 (cs.map .v) []) (G ++ Fo) w := by
 have hlt : g < w.heap.size := (Array.getElem?_eq_some_iff.1 hg).1
 refine ⟨?_, ?_, ?_, fun k hk => rfl, Nat.le_refl _, ExtX.refl _ _, fun f hf => ?_, h.dj⟩
 · intro k ty' sz hk
   simp only [List.mem_singleton, Prod.mk.injEq] at hk
   obtain ⟨rfl, rfl, rfl⟩ := hk
   exact ⟨Nat.zero_lt_one, hlt, .inr (.inl rfl), _, hg, by simp⟩
 · intro k ty1 sz1 k' ty2 sz2 h1 h2 _
   simp only [List.mem_singleton, Prod.mk.injEq] at h1 h2
   rw [h1.1, h2.1]
 · intro k o v hv
   rw [dJ] at hv
   split at hv
   · rename_i hc
     obtain ⟨rfl, _, hc3⟩ := hc
     rw [Nat.sub_zero, List.getElem?_map] at hv
     cases hx : cs[o]? with
     | none => rw [hx] at hv; simp at hv
     | some u =>
       rw [hx] at hv; simp at hv; subst hv
       refine ⟨⟨ty, cs.length, by simp⟩, ?_, trivial⟩
       rw [cell_of_row _ _ _ _ _ _ hg]
       show cs.toArray[o]? = some u
       simpa using hx
   · simp [dS] at hv
 · obtain ⟨h1, h2⟩ := wP h.at_ f hf
   refine ⟨h1, fun b hb => ⟨h2 b hb, fun k ty sz _ => (hoff f hf b hb).symm⟩, fun e b hb => .inr (.inr ?_)⟩
   rcases List.mem_append.1 hf with hf | hf
   · exact ⟨f, hf, hb⟩
   · rw [(gP ho f hf).2] at e; cases e
section
variable {P : Program} {f : FuncId} {fn : Func} {x : Code} {R : Ending → World → Prop} {ti : Nat → TI}
theorem qT (hf : P.funcs[f]? = some fn) (hb : fn.body = some x) (hti : ∀ t, bK P t (ti t)) (w : World) (N : Nat) (hN : fn.ntmps = N) (rs : List ResultVar) (hrs : fn.results.toList = rs) (G Fo : List Fct) (hF : AtG w G Fo) (ho : kV Fo)
   (l : List Value) (args : Array Value) (ha : args.toList = l) (hl : Nat.ble l.length N = true)
   (hv : dZ (wX P w N G) ti x (nZ (wX P w N G) ti rs R) (.mk (rJ 0 (l.map .v)) 0 0 [] [] (G ++ Fo))) : Calls P f args w R := by
 subst hN; subst hrs
 exact pQ hf hb (wX P w fn.ntmps G) rfl rfl hti (l.map .v) 0 [] [] (G ++ Fo) (A := fun _ => 0) (by simp [ha, show (SV.den (fun _ => 0) ∘ SV.v) = id from rfl]) (fun s hs => by obtain ⟨u, _, rfl⟩ := List.mem_map.1 hs; trivial) z82 (WD.initG P w _ _ hF ho) hv
theorem rY (hf : P.funcs[f]? = some fn) (hb : fn.body = some x) (hti : ∀ t, bK P t (ti t)) (w : World) (N : Nat) (hN : fn.ntmps = N) (rs : List ResultVar) (hrs : fn.results.toList = rs) (g : Nat) (ty : TypeId) (cs : List Value) (sz : Nat) (hsz : dG cs = sz) (hg : Blk w g ty cs) (G Fo : List Fct) (hF : AtG w G Fo) (hoff : ∀ f ∈ G ++ Fo, ∀ b, f.foot b → b ≠ g) (ho : kV Fo)
   (l : List Value) (args : Array Value) (ha : args.toList = .pointer (some ⟨g, 0, none⟩) :: l) (hl : Nat.ble (l.length + 1) N = true)
   (hv : dZ (nJ P w N g G) ti x (nZ (nJ P w N g G) ti rs R) (.mk (rJ 0 (.p 0 0 :: l.map .v)) 1 0 [(0, ty, sz)] (fG 0 0 (cs.map .v) []) (G ++ Fo))) : Calls P f args w R := by
 subst hN; subst hrs
 rw [dF] at hsz
 subst hsz
 exact pQ hf hb (nJ P w fn.ntmps g G) rfl rfl hti (.p 0 0 :: l.map .v) 1 [(0, ty, cs.length)] (fG 0 0 (cs.map .v) []) (G ++ Fo) (A := fun _ => g) z60
   (fun s hs => by
     rcases List.mem_cons.1 hs with rfl | hs
     · exact Nat.zero_lt_one
     · obtain ⟨u, _, rfl⟩ := List.mem_map.1 hs; trivial) z82 (WD.initPG P w _ _ _ _ hg hF hoff ho) hv
end
theorem kS {P : Program} {w : World} {N : Nat} {n : Nat} {B : List (Nat × TypeId × Nat)} {M : List ((Nat × Nat) × SV)} {F G : List Fct} {R : Value → List Fct → Prop} {l : List SV} (ix : List Nat) {L : List Fct} {v : Value} (hR : R v L) (hF : FW F ix L) (hix : kL ix = true) (ho : oQ L) (hv : ∀ A, gZ A l = v) :
   RetW (∀ A w', WD (wX P w N G) A n B M F w' → eA0 w G R (.returned (gZ A l)) w') := by
 refine ⟨fun A w' h => ?_⟩
 rw [hv A]
 have hs := h.pick ix hF hix
 refine ⟨v, L, rfl, h.ext, ⟨fun f hf => ?_, hs.dj⟩, hR⟩
 obtain ⟨h1, h2, h3⟩ := hs.fct f hf
 exact ⟨h1, eV ho f hf, fun b hb => ⟨h3 (eV ho f hf) b hb, (h2 b hb).1⟩⟩
theorem vH {P : Program} {w : World} {N g ty sz : Nat} {n : Nat} {B : List (Nat × TypeId × Nat)} {M : List ((Nat × Nat) × SV)} {F G : List Fct} {R : Value → List Value → List Fct → Prop} {l : List SV} (ix : List Nat) {L : List Fct} {v : Value} {cs : List Value} (hR : R v cs L) (hB : iH B 0 = some (ty, sz)) (hM : nE M 0 0 sz = some cs)
   (hF : FW F ix L) (hix : kL ix = true) (ho : oQ L) (hv : ∀ A, gZ A l = v) :
   RetW (∀ A w', WD (nJ P w N g G) A n B M F w' → vG w g ty sz G R (.returned (gZ A l)) w') := by
 refine ⟨fun A w' h => ?_⟩
 rw [hv A]
 have hs := h.pick ix hF hix
 obtain ⟨hb, hl⟩ := h.blk (cQ hB) hM
 have ha : A 0 = g := h.a0 0 (by show 0 < 1; omega)
 rw [ha] at hb
 have hne : ∀ f ∈ L, ∀ b, f.foot b → b ≠ g := fun f hf b hb e => ((hs.fct f hf).2.1 b hb).2 0 ty sz (cQ hB) (ha.trans e.symm)
 refine ⟨v, cs, L, rfl, h.ext, hb, hl, ⟨fun f hf => ?_, hs.dj⟩, hne, hR⟩
 obtain ⟨h1, h2, h3⟩ := hs.fct f hf
 refine ⟨h1, eV ho f hf, fun b hb => ⟨?_, (h2 b hb).1⟩⟩
 rcases h3 (eV ho f hf) b hb with h4 | h4 | h4
 · exact .inl h4
 · exact absurd h4 (hne f hf b hb)
 · exact .inr h4
def gX0 : List Nat → Nat → Bool
 | [], _ => false
 | x :: r, k => match Nat.beq x k with
   | true => true
   | false => gX0 r k
theorem wY : ∀ {l : List Nat} {k : Nat}, gX0 l k = true ↔ k ∈ l
 | [], k => by simp [gX0]
 | x :: r, k => by
   simp only [gX0, List.mem_cons]
   by_cases h : x = k
   · subst h; rw [Nat.beq_refl]; simp
   · have h' : ¬ k = x := fun e => h e.symm
     rw [show Nat.beq x k = false from by rw [← Bool.not_eq_true]; intro e; exact h (Nat.eq_of_beq_eq_true e)]
     simp [wY, h']
def jC (ix : List Nat) : Nat → List Fct → List Fct
 | _, [] => []
 | k, f :: r => match gX0 ix k with
   | true => jC ix (k + 1) r
   | false => f :: jC ix (k + 1) r
theorem mT (ix : List Nat) : ∀ (F : List Fct) (k : Nat), (jC ix k F).Sublist F
 | [], _ => List.Sublist.refl _
 | f :: r, k => by
   simp only [jC]
   split
   · exact (mT ix r (k + 1)).cons _
   · exact (mT ix r (k + 1)).cons_cons _
theorem oB (ix : List Nat) : ∀ (F : List Fct) (k : Nat), ∀ f ∈ jC ix k F, ∃ j, F[j]? = some f ∧ ¬ (k + j) ∈ ix
 | [], _, f, hf => by cases hf
 | g :: r, k, f, hf => by
   simp only [jC] at hf
   split at hf
   · obtain ⟨j, h1, h2⟩ := oB ix r (k + 1) f hf
     exact ⟨j + 1, by simpa using h1, by rw [show k + (j + 1) = k + 1 + j by omega]; exact h2⟩
   · rename_i hm
     rcases List.mem_cons.1 hf with rfl | hf
     · exact ⟨0, rfl, fun h => by rw [Nat.add_zero, ← wY] at h; rw [h] at hm; cases hm⟩
     · obtain ⟨j, h1, h2⟩ := oB ix r (k + 1) f hf
       exact ⟨j + 1, by simpa using h1, by rw [show k + (j + 1) = k + 1 + j by omega]; exact h2⟩
theorem yR {F : List Fct} : ∀ {ix : List Nat} {G : List Fct}, FK F ix G → ∀ f ∈ G, ∃ i ∈ ix, F[i]? = some f
 | [], [], _, f, hf => by cases hf
 | [], _ :: _, h, _, _ => h.elim
 | _ :: _, [], h, _, _ => h.elim
 | i :: ix, g :: r, h, f, hf => by
   rcases List.mem_cons.1 hf with rfl | hf
   · exact ⟨i, by simp, h.1⟩
   · obtain ⟨j, h1, h2⟩ := yR h.2 f hf
     exact ⟨j, by simp [h1], h2⟩
inductive Der : Fct → Fct → Prop
 | sl {o : Bool} {i : Sl} {sz n : Nat} {cs : List Value} : Der (fSl o i sz cs n) (fSl true i sz cs n)
 | own {o : Bool} {i : Sl} {e sz n : Nat} {cs : List Value} : Der (kC o i e sz cs n) (fSl true i sz cs n)
 | gen {g f : Fct} (h1 : ∀ w, g.P w → f.P w) (h2 : ∀ b, f.foot b → g.foot b) (h3 : f.isOwn = false) (h4 : f.old = true) : Der g f
theorem Der.out {g f : Fct} (h : Der g f) : (∀ w, g.P w → f.P w) ∧ (∀ b, f.foot b → g.foot b) ∧ f.isOwn = false ∧ f.old = true := by
 cases h with
 | sl => exact ⟨fun _ h => h, fun _ h => h, rfl, rfl⟩
 | own => exact ⟨fun _ h => oP h, fun _ h => h.2, rfl, rfl⟩
 | gen h1 h2 h3 h4 => exact ⟨h1, h2, h3, h4⟩
def FD (F : List Fct) : List Nat → List Fct → Prop
 | [], [] => True
 | j :: jx, f :: r => (∃ g, F[j]? = some g ∧ Der g f) ∧ FD F jx r
 | _, _ => False
theorem gA0 {F : List Fct} : ∀ {ix : List Nat} {G : List Fct}, FD F ix G → ∀ f ∈ G, ∃ i ∈ ix, ∃ g, F[i]? = some g ∧ Der g f
 | [], [], _, f, hf => by cases hf
 | [], _ :: _, h, _, _ => h.elim
 | _ :: _, [], h, _, _ => h.elim
 | i :: ix, g :: r, h, f, hf => by
   rcases List.mem_cons.1 hf with rfl | hf
   · obtain ⟨g, h1, h2⟩ := h.1
     exact ⟨i, by simp, g, h1, h2⟩
   · obtain ⟨j, h1, h2⟩ := gA0 h.2 f hf
     exact ⟨j, by simp [h1], h2⟩
section
variable {E : Env} {ti : Nat → TI} {A : Nat → Nat} {T : List (Nat × SV)} {n c : Nat} {B : List (Nat × TypeId × Nat)} {M : List ((Nat × Nat) × SV)} {F Fs : List Fct} {o : Oper} {next : St → Prop} {a : Act} {w w' : World}
def aN0 (ix jx : List Nat) : Bool := match jx with
 | [] => true
 | j :: r => match gX0 ix j with
   | true => false
   | false => aN0 ix r
theorem yS : ∀ {ix jx : List Nat}, aN0 ix jx = true → ∀ j ∈ jx, ¬ j ∈ ix
 | _, [], _, j, hj => by cases hj
 | ix, k :: r, h, j, hj => by
   simp only [aN0] at h
   split at h
   · cases h
   · rename_i hm
     rcases List.mem_cons.1 hj with rfl | hj
     · intro e; rw [wY.2 e] at hm; cases hm
     · exact yS h j hj
theorem WD.atG (h : WD E A n B M F w) (ix : List Nat) {G : List Fct} (hG : FK F ix G) (hix : kL ix = true) (hok : lD G) (jx : List Nat) {Fo : List Fct} (hFo : FD F jx Fo) (hm : aN0 ix jx = true) : AtG w G Fo := by
 have hg : ∀ f ∈ G, f.P w ∧ ∀ b, f.foot b → b < w.heap.size := fun f hf => by
   obtain ⟨i, _, hi⟩ := yR hG f hf
   exact h.nth i hi
 have hoo : ∀ f ∈ Fo, (f.P w ∧ ∀ b, f.foot b → b < w.heap.size) ∧ f.isOwn = false := fun f hf => by
   obtain ⟨i, _, g, hi, hd⟩ := gA0 hFo f hf
   obtain ⟨d1, d2, d3, _⟩ := hd.out
   exact ⟨⟨d1 w (h.nth i hi).1, fun b hb => (h.nth i hi).2 b (d2 b hb)⟩, d3⟩
 have hat : ∀ L : List Fct, (∀ f ∈ L, f.P w ∧ ∀ b, f.foot b → b < w.heap.size) → At w L := fun L => by
   induction L with
   | nil => intro _; trivial
   | cons f r ih => intro hl; exact ⟨hl f (by simp), ih fun f hf => hl f (by simp [hf])⟩
 refine ⟨hat _ fun f hf => ?_, hok, ?_⟩
 · rcases List.mem_append.1 hf with hf | hf
   · exact hg f hf
   · exact (hoo f hf).1
 · rw [List.pairwise_append]
   refine ⟨(h.pick ix (FK.fw hG) hix).dj, ?_, fun f hf g hg => ?_⟩
   · rw [List.pairwise_iff_getElem]
     intro p q hp hq _ hor
     rw [(hoo _ (List.getElem_mem hp)).2, (hoo _ (List.getElem_mem hq)).2] at hor
     simp at hor
   · obtain ⟨i, hi1, hi2⟩ := yR hG f hf
     obtain ⟨j, hj1, g0, hj2, hd⟩ := gA0 hFo g hg
     have hne : i ≠ j := fun e => yS hm j hj1 (by rw [← e]; exact hi1)
     have hdj := fV h.dj hne hi2 hj2
     intro _ b hb hb'
     exact hdj (.inl (nI hok f hf).1) b hb (hd.out.2.1 b hb')
theorem WD.atG_off (h : WD E A n B M F w) {k ty sz : Nat} (hB : iH B k = some (ty, sz)) {ga : Nat} (hga : ga = A k) {ix : List Nat} {G : List Fct} (hG : FK F ix G) {jx : List Nat} {Fo : List Fct} (hFo : FD F jx Fo) : ∀ f ∈ G ++ Fo, ∀ b, f.foot b → b ≠ ga := by
 subst hga
 intro f hf b hb e
 rcases List.mem_append.1 hf with hf | hf
 · obtain ⟨i, _, hi⟩ := yR hG f hf
   exact ((h.fct _ (List.mem_of_getElem? hi)).2.1 b hb).2 k ty sz (cQ hB) e.symm
 · obtain ⟨i, _, g, hi, hd⟩ := gA0 hFo f hf
   exact ((h.fct _ (List.mem_of_getElem? hi)).2.1 b (hd.out.2.1 b hb)).2 k ty sz (cQ hB) e.symm
theorem WD.callG (h : WD E A n B M F w) {ix : List Nat} {G : List Fct} (hG : FK F ix G) (hok : lD G) (hex : ExtX (sY G) w w') {L : List Fct} (hL : NewG w w' G L) : WD E A n B M (L ++ jC ix 0 F) w' := by
 have hgf : ∀ b, sY G b → b < w.heap.size ∧ (∀ k ty sz, (k, ty, sz) ∈ B → A k ≠ b) ∧ (E.w0.heap.size ≤ b ∨ E.X b) ∧ ∀ f ∈ jC ix 0 F, ¬ f.foot b := by
   rintro b ⟨g, hg, hb⟩
   obtain ⟨i, hi1, hi2⟩ := yR hG g hg
   obtain ⟨h1, h2, h3⟩ := h.fct _ (List.mem_of_getElem? hi2)
   obtain ⟨o1, o2⟩ := nI hok g hg
   refine ⟨(h2 b hb).1, (h2 b hb).2, h3 o2 b hb, fun f hf hfb => ?_⟩
   obtain ⟨j, hj1, hj2⟩ := oB ix F 0 f hf
   rw [Nat.zero_add] at hj2
   exact fV h.dj (fun e => hj2 (by rw [← e]; exact hi1)) hi2 hj1 (.inl o1) b hb hfb
 have hsub := h.sub (mT ix F 0)
 have h' := hsub.grow hex (fun k ty sz hk hg => (hgf _ hg).2.1 k ty sz hk rfl) (fun f hf b hb hg => (hgf b hg).2.2.2 f hf hb) (fun b hb hg => (hgf b hg).2.2.1.resolve_left (by omega))
 refine ⟨h'.key, h'.inj, h'.mem, h'.a0, h'.n0, h'.ext, ?_, ?_⟩
 · intro f hf
   rcases List.mem_append.1 hf with hf | hf
   · obtain ⟨h1, h2, h3⟩ := hL.all f hf
     refine ⟨h1, fun b hb => ⟨(h3 b hb).2, fun k ty sz hk e => ?_⟩, fun _ b hb => ?_⟩
     · rcases (h3 b hb).1 with h4 | h4
       · have := (h.key k ty sz hk).2.1
         omega
       · exact (hgf b h4).2.1 k ty sz hk e
     · rcases (h3 b hb).1 with h4 | h4
       · exact .inl (Nat.le_trans h.ext.size h4)
       · exact (hgf b h4).2.2.1
   · exact h'.fct f hf
 · rw [List.pairwise_append]
   refine ⟨hL.dj, h'.dj, fun f hf g hg _ b hb hb' => ?_⟩
   rcases ((hL.all f hf).2.2 b hb).1 with h4 | h4
   · have := ((hsub.fct g hg).2.1 b hb').1
     omega
   · exact (hgf b h4).2.2.2 g hg hb'
theorem jN (R : Value → List Fct → Prop) (ix : List Nat) {G : List Fct} {k : Call} {fo : Operand} {g : FuncId} {cap : List (Nat × Nat)} {l : List SV} {d : Nat} (hc : aD E.P g = true)
   (hop : o.op = .call k) (hk : k.callee = .value fo) (hf : bF T fo = some (.f g cap)) (ha : jB T k.args.toList = some l) (hd : Dst E o d) (hG : FK F ix G) (hok : lD G)
   (hcall : ∀ A w, WD E A n B M F w → Calls E.P g ((l.map (SV.den A)) ++ cap.map (fun x => ptr A x.1 x.2)).toArray w (eA0 w G R))
   (hnext : ∀ v L, R v L → next (.mk ((d, .v v) :: T) n (c + 1) B M (L ++ jC ix 0 F))) :
   OpW (dI E o next T n c B M F) := by
 refine ⟨fun A a w hW hT => ?_⟩
 unfold Oper.wp
 rw [jL hT hc hop hk hf ha, Oper.upon_enter]
 refine (hcall A w hW).mono ?_
 rintro e w' ⟨v, L, rfl, he, hL, hR⟩
 refine ⟨_, ⟨_, hW.callG hG hok he hL, ?_⟩, hnext v L hR⟩
 rw [hd.1]
 exact (hT.step w').put (v := .v v) hd.lt trivial
theorem WD.turnX (h : WD E A n B M F w) {k g : Nat} {i : Sl} {e sz p q : Nat} {cs ds : List Value} (hk : F[k]? = some (kC false i e sz cs p)) (hi : i.a = some ⟨g, 0, none⟩)
   (hX : ExtX (fun b => b = g) w w') (ho : w'.ownsRow 0 e sz (i.val q) q ds) : WD E A n B M (kC false i e sz ds q :: F.eraseIdx k) w' := by
 have hfk := h.fct _ (List.mem_of_getElem? hk)
 have hgf : (kC false i e sz cs p).foot g := ⟨_, hi, rfl⟩
 have hfg : ∀ b, (kC false i e sz ds q).foot b → b = g := by
   rintro b ⟨ad, h1, rfl⟩
   rw [hi] at h1; injection h1 with h1; subst h1; rfl
 have hsub := h.sub (kK F k)
 have hdj := eX h.dj hk
 have hW' : WD E A n B M (F.eraseIdx k) w' := by
   refine hsub.grow hX (fun k' ty sz' hk' e => (hfk.2.1 g hgf).2 k' ty sz' hk' e) (fun f hf b hb e => hdj f hf (.inl rfl) g hgf (e ▸ hb)) (fun b hb e => ?_)
   subst e
   exact (hfk.2.2 rfl b hgf).resolve_left (by omega)
 refine ⟨hW'.key, hW'.inj, hW'.mem, hW'.a0, hW'.n0, hW'.ext, ?_, ?_⟩
 · intro f hf
   rcases List.mem_cons.1 hf with rfl | hf
   · refine ⟨ho, fun b hb => ?_, fun _ b hb => ?_⟩
     · obtain rfl := hfg b hb
       exact ⟨Nat.lt_of_lt_of_le (hfk.2.1 b hgf).1 hX.size, (hfk.2.1 b hgf).2⟩
     · obtain rfl := hfg b hb
       exact hfk.2.2 rfl b hgf
   · exact hW'.fct f hf
 · rw [List.pairwise_cons]
   refine ⟨fun f hf _ b hb hb' => ?_, hW'.dj⟩
   obtain rfl := hfg b hb
   exact hdj f hf (.inl rfl) b hgf hb'
theorem yT {P : Program} {i : Sl} {e sz p g off : Nat} {cs vs : List Value} (hown : w.ownsRow 0 e sz (i.val p) p cs) (hi : i.a = some ⟨g, 0, none⟩) (hle : off + vs.length ≤ p * sz) (h1 : ∀ v ∈ vs, v.oneCell' = true) :
   ∃ w', (storeCells ⟨g, off, none⟩ vs).run P w = .ok () w' ∧ ExtX (fun b => b = g) w w' ∧ w'.ownsRow 0 e sz (i.val p) p (cs.take off ++ vs ++ cs.drop (off + vs.length)) := by
 rcases qP hown with ⟨h2, _⟩ | ⟨g', cur, h2, h3, h4, h5, h6, h7⟩
 · rw [hi] at h2; cases h2
 · rw [hi] at h2
   injection h2 with h2
   injection h2 with h2
   subst h2
   have hpc : p * sz ≤ i.c * sz := Nat.mul_le_mul_right _ h4
   have hrun := run_storeCells_at (P := P) g off e vs 0 cur w h3 z101 h1
   refine ⟨_, hrun, ?_⟩
   simp only [Nat.add_zero]
   generalize hcs' : (List.take off cur.toList ++ vs ++ List.drop (off + vs.length) cur.toList).toArray = cs'
   have hsz : cs'.size = i.c * sz := by rw [← hcs']; simp; omega
   have hnew : (w.setRow g cs').heap[g]? = some (.cells cs' e (0, 0)) := setRow_heap w g cur cs' e (0, 0) h3
   have hother : ∀ b, b ≠ g → (w.setRow g cs').heap[b]? = w.heap[b]? := fun b hb => by
     simp only [World.setRow, Array.getElem?_modify]
     rw [if_neg (fun e => hb e.symm)]
   have hhsz : (w.setRow g cs').heap.size = w.heap.size := by simp [World.setRow]
   have hl := hown.1
   refine ⟨⟨rfl, rfl, rfl, by rw [hhsz]; exact Nat.le_refl _, fun b _ hb => hother b hb⟩, by simp; omega, .inr ⟨g, i.c, cs', by simp only [Sl.val, hi], Nat.zero_le _, hnew, h4, h5, hsz, ?_⟩⟩
   rw [← hcs', ← h7]
   have hcl : cur.toList.length = i.c * sz := by simpa using h6
   have e1 : (List.take (p * sz) cur.toList).take off = cur.toList.take off := by rw [List.take_take]; congr 1; omega
   have e2 : (List.take (p * sz) cur.toList).drop (off + vs.length) = (cur.toList.drop (off + vs.length)).take (p * sz - (off + vs.length)) := by rw [List.drop_take]
   rw [e1, e2]
   have e3 : (List.take off cur.toList ++ vs).length = off + vs.length := by rw [List.length_append, List.length_take, hcl]; omega
   show List.take (p * sz) (List.take off cur.toList ++ vs ++ List.drop (off + vs.length) cur.toList) = _
   rw [List.take_append, e3, List.take_of_length_le (by rw [e3]; omega)]
theorem yU {α : Type} {enc : α → List Value} {sz : Nat} (he : Enc enc sz) {xs : List α} {j off : Nat} {y : α} {vs : List Value} (hj : j < xs.length) (hle : off + vs.length ≤ sz) (hy : enc y = (enc xs[j]).take off ++ vs ++ (enc xs[j]).drop (off + vs.length)) :
   cells enc (xs.set j y) = (cells enc xs).take (j * sz + off) ++ vs ++ (cells enc xs).drop (j * sz + off + vs.length) := by
 have hsp : xs = xs.take j ++ xs[j] :: xs.drop (j + 1) := by rw [← List.drop_eq_getElem_cons hj, List.take_append_drop]
 have hset : xs.set j y = xs.take j ++ y :: xs.drop (j + 1) := by rw [List.set_eq_take_append_cons_drop, if_pos hj]
 have hc : cells enc xs = cells enc (xs.take j) ++ (enc xs[j] ++ cells enc (xs.drop (j + 1))) := by
   conv => lhs; rw [hsp]
   rw [mC]; rfl
 have hlt : (cells enc (xs.take j)).length = j * sz := by rw [mB he]; simp; rw [Nat.min_eq_left (by omega)]
 have hle2 : (enc xs[j]).length = sz := he.len _
 have t1 : (cells enc xs).take (j * sz + off) = cells enc (xs.take j) ++ (enc xs[j]).take off := by
   rw [hc, List.take_append, hlt, List.take_of_length_le (by rw [hlt]; omega), Nat.add_sub_cancel_left, List.take_append, hle2, show off - sz = 0 by omega]
   simp
 have t2 : (cells enc xs).drop (j * sz + off + vs.length) = (enc xs[j]).drop (off + vs.length) ++ cells enc (xs.drop (j + 1)) := by
   rw [hc, List.drop_append, hlt, List.drop_of_length_le (by rw [hlt]; omega), show j * sz + off + vs.length - j * sz = off + vs.length by omega, List.drop_append, hle2, show off + vs.length - sz = 0 by omega]
   simp
 rw [hset, mC, t1, t2]
 show cells enc (xs.take j) ++ (enc y ++ cells enc (xs.drop (j + 1))) = _
 rw [hy]
 simp [List.append_assoc]
theorem cP {α : Type} {enc : α → List Value} {sz : Nat} (_he : Enc enc sz) (k1 : Nat) {t e : TypeId} {x ix : Operand} {i : Sl} {xs : List α} {kd : IntKind} {m : Int} {d : Nat} {agg : Bool} {size : Nat} {zero : List Value} {fs : List (Nat × Nat × Bool)} {ik : Option IntKind} {kk bytes : Nat} {agg2 : Bool} {zero2 : List Value} {fs2 : List (Nat × Nat × Bool)} {el2 : Option TypeId} {ik2 : Option IntKind} {kk2 bytes2 : Nat}
   (hti : ∀ t, bK E.P t (ti t)) (hop : o.op = .indexAddr t x ix) {m0 : Nat} (hx : bF T x = some (.v (i.val m0))) (hix : bF T ix = some (.v (.int kd m)))
   (ht : ti t = .mk agg size zero fs (some e) ik kk bytes) (hte : ti e = .mk agg2 sz zero2 fs2 el2 ik2 kk2 bytes2) (hd : Dst E o d)
   (hF : F[k1]? = some (own i e enc sz xs)) (hm0 : m0 = xs.length) (j : Nat) (hj : m = (j : Int)) (hlt : j < xs.length)
   (hnext : ∀ g, i.a = some ⟨g, 0, none⟩ → next (.mk ((d, .v (.pointer (some ⟨g, j * sz, none⟩))) :: T) n c B M F)) :
   OpW (dI E o next T n c B M F) := by
 subst hm0
 refine ⟨fun A a w hW hT => ?_⟩
 have hown := (hW.nth k1 hF).1
 rcases qP hown with ⟨_, h2, _⟩ | ⟨g, cur, h2, _⟩
 · omega
 have htt := hti t
 rw [ht] at htt
 obtain ⟨ii, dd, z, e1, e2, e3, e4, e5, e6, e7, e8, e9, e10, e11⟩ := aS htt
 have htt2 := hti e
 rw [hte] at htt2
 obtain ⟨ii2, dd2, z2, k1, k2, k3, k4, k5, k6, k7, k8, k9, k10, k11⟩ := aS htt2
 have hdd := gD e8
 subst hj
 have hr : (execOp a.eval o).run E.P w = .ok (.value (.pointer (some ⟨g, j * sz, none⟩))) w := by
   have hx' : a.eval x = .slice (some ⟨g, 0, none⟩) xs.length i.c := by rw [(aI hT hx).1]; simp [SV.den, Sl.val, h2]
   have hix' : a.eval ix = .int kd j := (aI hT hix).1
   simp [execOp, hop, Instr.indexAt, hx', hix', asIntOf, underlying, e2, hdd, dE k1, k4, hlt]
   unfold Addr.add
   split <;> simp_all
 refine aW hr ?_
 rw [hd.1]
 exact ⟨_, ⟨_, hW, hT.put (v := .v (.pointer (some ⟨g, j * sz, none⟩))) hd.lt trivial⟩, hnext g h2⟩
theorem yV {t : TypeId} {x : Operand} {k : Nat} {g off o2 sz2 d : Nat} {ag : Bool} {agg : Bool} {size : Nat} {zero : List Value} {fs : List (Nat × Nat × Bool)} {el : Option TypeId} {ik : Option IntKind} {kk bytes : Nat}
   (hti : ∀ t, bK E.P t (ti t)) (hop : o.op = .fieldAddr t x k) (hx : bF T x = some (.v (.pointer (some ⟨g, off, none⟩)))) (ht : ti t = .mk agg size zero fs el ik kk bytes) (hk : nth fs k = some (o2, sz2 + 1, ag)) (hd : Dst E o d)
   (hnext : next (.mk ((d, .v (.pointer (some ⟨g, off + o2, none⟩))) :: T) n c B M F)) : OpW (dI E o next T n c B M F) := by
 refine ⟨fun A a w hW hT => ?_⟩
 have htt := hti t
 rw [ht] at htt
 obtain ⟨ii, dd, z, e1, e2, e3, e4, e5, e6, e7, e8, e9, e10, e11⟩ := aS htt
 obtain ⟨fields, f, fi, fd, rfl, hfi, rfl, g1, g2, g3, g4⟩ := sK e7 hk
 have hx' : a.eval x = .pointer (some ⟨g, off, none⟩) := (aI hT hx).1
 have hr : (execOp a.eval o).run E.P w = .ok (.value (.pointer (some ⟨g, off + f.offset, none⟩))) w := by
   have hadd : (⟨g, off, none⟩ : Addr).add f.offset = ⟨g, off + f.offset, none⟩ := aC0 (fun _ => g) 0 off f.offset
   simp [execOp, hop, hx', Instr.fieldAt, underlying, e2, hfi, Instr.sureAddr, fieldPlace, dE g1, g2, hadd]
 refine aW hr ?_
 rw [hd.1]
 exact ⟨_, ⟨_, hW, hT.put (v := .v (.pointer (some ⟨g, off + f.offset, none⟩))) hd.lt trivial⟩, hnext⟩
theorem bS {α : Type} {enc : α → List Value} {sz : Nat} (he : Enc enc sz) (k1 : Nat) {xs : List α} {i : Sl} {t e : TypeId} {x y : Operand} {g ad : Nat} {s : SV} {l : List SV} {sz2 : Nat} {agg : Bool} {zero : List Value} {fs : List (Nat × Nat × Bool)} {el : Option TypeId} {ik : Option IntKind} {kk bytes : Nat}
   (hti : ∀ t, bK E.P t (ti t)) (hop : o.op = .store t x y) (hd : o.dst = none) (hx : bF T x = some (.v (.pointer (some ⟨g, ad, none⟩)))) (hy : bF T y = some s) (hl : iR s = some l) (ht : ti t = .mk agg sz2 zero fs el ik kk bytes) (hlen : dG l = sz2)
   (hF : F[k1]? = some (own i e enc sz xs)) (hi : i.a = some ⟨g, 0, none⟩) (j off : Nat) (y0 : α) (had : ad = j * sz + off) (hj : j < xs.length) (hle : Nat.ble (off + sz2) sz = true) (vs : List Value) (hvs : ∀ A, l.map (SV.den A) = vs)
   (hy0 : enc y0 = (enc xs[j]).take off ++ vs ++ (enc xs[j]).drop (off + vs.length))
   (hnext : next (.mk T n (c + 1) B M (own i e enc sz (xs.set j y0) :: F.eraseIdx k1))) : OpW (dI E o next T n c B M F) := by
 refine ⟨fun A a w hW hT => ?_⟩
 have hown := (hW.nth k1 hF).1
 have htt := hti t
 rw [ht] at htt
 obtain ⟨ii, dd, z, e1, e2, e3, e4, e5, e6, e7, e8, e9, e10, e11⟩ := aS htt
 obtain ⟨h1, h2⟩ := aI hT hy
 have h3 : a.eval x = .pointer (some ⟨g, ad, none⟩) := (aI hT hx).1
 obtain ⟨c1, c2, c3⟩ := iS (A := A) hl h2
 rw [hvs A] at c1
 have hvl : vs.length = sz2 := by rw [← hvs A, List.length_map, ← dF]; exact hlen
 have hle' := Nat.le_of_ble_eq_true hle
 have hjs : (j + 1) * sz ≤ xs.length * sz := Nat.mul_le_mul_right _ hj
 rw [Nat.succ_mul] at hjs
 subst had
 obtain ⟨w', hrun, hX, hnew⟩ := yT (P := E.P) (w := w) (off := j * sz + off) (vs := vs) hown hi (by omega) (fun v hv => by
   rw [← hvs A] at hv
   obtain ⟨q, hq, rfl⟩ := List.mem_map.1 hv
   exact c3 q hq)
 rw [← yU he hj (by omega) hy0] at hnew
 have hr : (execOp a.eval o).run E.P w = .ok .skip w' := by
   have hcs : (s.den A).cells.size = ii.size := by
     have : (s.den A).cells.toList.length = vs.length := by rw [c1]
     simp at this
     rw [this, hvl, e4]
   simp only [execOp, hop, Instr.storeAt, h1, h3, Instr.sureAddr, Sem.run_bind, Sem.run_pure, Result.andThen_ok, storeVar, dE e1]
   rw [if_neg (by simp [hcs]), c1]
   simp only [Result.andThen_ok, hrun]
 refine iT hr ?_
 rw [hd]
 refine ⟨_, ⟨_, ?_, hT.step w'⟩, hnext⟩
 show WD E A n B M (kC false i e sz (cells enc (xs.set j y0)) (xs.set j y0).length :: F.eraseIdx k1) w'
 have hlen' : (xs.set j y0).length = xs.length := by simp
 rw [hlen']
 exact hW.turnX hF hi hX hnew
theorem yW {α : Type} {enc : α → List Value} {sz : Nat} (he : Enc enc sz) (z0 : α) {t e : TypeId} {x : Operand} {kd : IntKind} {m : Int} {d : Nat} {agg : Bool} {size : Nat} {zero : List Value} {fs : List (Nat × Nat × Bool)} {ik : Option IntKind} {kk bytes : Nat} {agg2 : Bool} {zero2 : List Value} {fs2 : List (Nat × Nat × Bool)} {el2 : Option TypeId} {ik2 : Option IntKind} {kk2 bytes2 : Nat}
   (hti : ∀ t, bK E.P t (ti t)) (hop : o.op = .makeSlice t x x) (hx : bF T x = some (.v (.int kd m)))
   (ht : ti t = .mk agg size zero fs (some e) ik kk bytes) (hte : ti e = .mk agg2 sz zero2 fs2 el2 ik2 kk2 bytes2) (hz : zero2 = enc z0) (h0 : 0 < sz) (hd : Dst E o d)
   (q : Nat) (hq : m = (q : Int)) (hb : bytes2 * q ≤ 281474976710656) (hm : q ≤ maxLen)
   (hnext : ∀ y : Sl, next (.mk ((d, .v (y.val q)) :: T) n (c + 1) B M (own y e enc sz (List.replicate q z0) :: F))) :
   OpW (dI E o next T n c B M F) := by
 refine ⟨fun A a w hW hT => ?_⟩
 have htt := hti t
 rw [ht] at htt
 obtain ⟨ii, dd, z, e1, e2, e3, e4, e5, e6, e7, e8, e9, e10, e11⟩ := aS htt
 have htt2 := hti e
 rw [hte] at htt2
 obtain ⟨ii2, dd2, z2, k1, k2, k3, k4, k5, k6, k7, k8, k9, k10, k11⟩ := aS htt2
 have hdd := gD e8
 subst hq
 obtain ⟨w', hr, ho, hg⟩ := run_make_full (P := E.P) w 0 t e ii2 z2 sz (by rw [e2, hdd]) k1 k5 k4 kd kd q (by rw [k11]; exact hb) hm (Nat.zero_le _)
 have hx' : a.eval x = .int kd (q : Int) := (aI hT hx).1
 have hrr : (execOp a.eval o).run E.P w = .ok (.value (.slice (some ⟨w.heap.size, 0, none⟩) q q)) w' := by
   simp only [execOp, hop, hx', hr, Sem.run_bind, Sem.run_pure, Result.andThen_ok]
 have hzc : z2.cells.toList = enc z0 := by rw [k6, hz]
 have hcells : (madeCells z2.cells (q * sz)).toList = cells enc (List.replicate q z0) := by
   have hzs : z2.cells.size = sz := by have := congrArg List.length hzc; rw [he.len] at this; simpa using this
   apply List.ext_getElem?
   intro j
   by_cases hj : j < q * sz
   · have hk : j / sz < q := Nat.div_lt_of_lt_mul (by rwa [Nat.mul_comm] at hj)
     have hrm : j % sz < sz := Nat.mod_lt _ h0
     have hr' : j % sz < (enc ((List.replicate q z0)[j / sz]'(by simpa using hk))).length := by rw [he.len]; exact hrm
     have h2 := pR he (xs := List.replicate q z0) (by simpa using hk) (List.getElem?_eq_getElem hr')
     rw [Nat.div_add_mod'] at h2
     rw [h2]
     simp only [madeCells, Array.toList_map, Array.toList_range, List.getElem?_map, List.getElem?_range hj, Option.map_some, List.getElem_replicate]
     congr 1
     rw [hzs, getElem!_pos z2.cells (j % sz) (by rw [hzs]; exact hrm)]
     have : z2.cells[j % sz]'(by rw [hzs]; exact hrm) = z2.cells.toList[j % sz]'(by simpa [hzs] using hrm) := by simp
     rw [this]
     simp only [hzc]
   · rw [List.getElem?_eq_none (by simp [madeCells]; omega), List.getElem?_eq_none (by rw [mB he]; simp; omega)]
 rw [hcells] at ho
 refine aW hrr ?_
 rw [hd.1]
 have hnew : New w w' [own (⟨some ⟨w.heap.size, 0, none⟩, q⟩ : Sl) e enc sz (List.replicate q z0)] := by
   refine ⟨fun f hf => ?_, List.pairwise_singleton _ _⟩
   simp only [List.mem_singleton] at hf
   subst hf
   have ho' : w'.ownsRow 0 e sz ((⟨some ⟨w.heap.size, 0, none⟩, q⟩ : Sl).val (List.replicate q z0).length) (List.replicate q z0).length (cells enc (List.replicate q z0)) := by
     rw [List.length_replicate]; exact ho
   refine ⟨ho', rfl, ?_⟩
   rintro b ⟨ad, q1, rfl⟩
   simp only [Option.some.injEq] at q1
   subst q1
   have hlt := (ho.lt w.heap.size (by simp [Value.ownBlock])).2
   exact ⟨Nat.le_refl _, hlt⟩
 have hex : Ext w w' := ExtX.grown hg (fun g hg => by cases hg)
 exact ⟨_, ⟨_, hW.learn hex hnew, (hT.step w').put (v := .v ((⟨some ⟨w.heap.size, 0, none⟩, q⟩ : Sl).val q)) hd.lt trivial⟩, hnext _⟩
end
theorem oQ0 (g : Nat) (ty : TypeId) (cs : List Value) (w w' : World) (hb : ∀ b, b = g → w'.heap[b]? = w.heap[b]?) : Blk w g ty cs → Blk w' g ty cs := fun h => by
 unfold Blk at *
 rw [hb g rfl]; exact h
abbrev vY (g : Nat) (ty : TypeId) (cs : List Value) : Fct := .other true false (fun b => b = g) (fun w => Blk w g ty cs) (oQ0 g ty cs)
section
variable {E : Env} {ti : Nat → TI} {A : Nat → Nat} {T : List (Nat × SV)} {n c : Nat} {B : List (Nat × TypeId × Nat)} {M Ms : List ((Nat × Nat) × SV)} {F Fs : List Fct} {o : Oper} {next : St → Prop} {a : Act} {w w' : World}
theorem WD.var (h : WD E A n B M F w) {k ty sz : Nat} {cs : List Value} (hB : iH B k = some (ty, sz)) (hM : nE M k 0 sz = some cs) : (vY (A k) ty cs).P w ∧ ∀ b, (vY (A k) ty cs).foot b → b < w.heap.size :=
 ⟨(h.blk (cQ hB) hM).1, fun b hb => by
   obtain rfl : b = A k := hb
   exact (h.key k ty sz (cQ hB)).2.1⟩
theorem WD.varAt (h : WD E A n B M F w) (j : Nat) {g ty : Nat} {cs : List Value} (hi : F[j]? = some (vY g ty cs)) : (vY g ty cs).P w ∧ ∀ b, (vY g ty cs).foot b → b < w.heap.size := h.nth j hi
theorem iJ (R : Value → List Fct → Prop) {k : Call} {fo : Operand} {g : FuncId} {cap : Array Value} {l : List SV} {d : Nat} (hc : aD E.P g = true)
   (hop : o.op = .call k) (hk : k.callee = .value fo) (hf : bF T fo = some (.v (.func (.func g) #[] cap))) (ha : jB T k.args.toList = some l) (hd : Dst E o d)
   (hcall : ∀ A w, WD E A n B M F w → Calls E.P g ((l.map (SV.den A)) ++ cap.toList).toArray w (Ret w R))
   (hnext : ∀ v L, R v L → next (.mk ((d, .v v) :: T) n (c + 1) B M (L ++ F))) :
   OpW (dI E o next T n c B M F) := by
 refine ⟨fun A a w hW hT => ?_⟩
 have hargs : (k.args.map a.eval).toList = l.map (SV.den A) := by rw [Array.toList_map]; exact iP hT ha
 have hfv := (aI hT hf).1
 have hr : (execOp a.eval o).run E.P w = .ok (.enter g ((l.map (SV.den A)) ++ cap.toList).toArray) w := by
   have hcat : (k.args.map a.eval) ++ cap = ((l.map (SV.den A)) ++ cap.toList).toArray := by
     apply Array.ext'; rw [Array.toList_append, hargs]
   simp only [execOp, hop, resolve, hk, Sem.run_bind, hfv, SV.den, Deferred.ofValue, Sem.run_pure, Result.andThen_ok, Array.empty_append, invoke, hcat, kJ hc]
 unfold Oper.wp
 rw [hr, Oper.upon_enter]
 refine (hcall A w hW).mono ?_
 rintro e w' ⟨v, L, rfl, he, hL, hR⟩
 refine ⟨_, ⟨_, hW.learn he hL, ?_⟩, hnext v L hR⟩
 rw [hd.1]
 exact (hT.step w').put (v := .v v) hd.lt trivial
theorem mU (k1 : Nat) {t ty : TypeId} {x : Operand} {g d : Nat} {cs : List Value} {v : Value} {size : Nat} {zero : List Value} {fs : List (Nat × Nat × Bool)} {el : Option TypeId} {ik : Option IntKind} {kk bytes : Nat}
   (hti : ∀ t, bK E.P t (ti t)) (hop : o.op = .load t x) (hx : bF T x = some (.v (.pointer (some ⟨g, 0, none⟩)))) (ht : ti t = .mk false size zero fs el ik kk bytes) (hF : F[k1]? = some (vY g ty cs)) (hv : cs[0]? = some v) (hd : Dst E o d)
   (hnext : next (.mk ((d, .v v) :: T) n c B M F)) : OpW (dI E o next T n c B M F) := by
 refine ⟨fun A a w hW hT => ?_⟩
 have htt := hti t
 rw [ht] at htt
 obtain ⟨ii, dd, z, e1, e2, e3, e4, e5, e6, e7, e8, e9, e10, e11⟩ := aS htt
 have hx' : a.eval x = .pointer (some ⟨g, 0, none⟩) := (aI hT hx).1
 have hb : Blk w g ty cs := (hW.nth k1 hF).1
 have hc : w.cell? ⟨g, 0, none⟩ = some v := by
   rw [cell_of_row _ _ _ _ _ _ hb]
   show cs.toArray[0]? = some v
   simpa using hv
 have hr : (execOp a.eval o).run E.P w = .ok (.value v) w := by
   simp [execOp, hop, hx', Instr.loadAt, Instr.sureAddr, gY (w := w) e2 e3 _ _ hc]
 refine aW hr ?_
 rw [hd.1]
 exact ⟨_, ⟨_, hW, hT.put (v := .v v) hd.lt trivial⟩, hnext⟩
theorem gG {id : Nat} {ops : Array Oper} {K : St → Prop} (k1 : Nat) {i : Sl} {e sz q : Nat} {cs : List Value} (hF : F[k1]? = some (kC false i e sz cs q)) (h0 : 0 < q)
   (h : ∀ g, i.a = some ⟨g, 0, none⟩ → q ≤ i.c → i.c ≤ maxLen → DrawW (∀ a w, Den E (.mk T n c B M F) a w → (Code.region id ops true).wp E.P (rH E K) a w)) :
   DrawW (∀ a w, Den E (.mk T n c B M F) a w → (Code.region id ops true).wp E.P (rH E K) a w) := by
 refine ⟨fun a w hd => ?_⟩
 obtain ⟨A, hW, hT⟩ := hd
 rcases qP (hW.nth k1 hF).1 with ⟨_, h2, _⟩ | ⟨g, cur, h2, _, h3, h4, _⟩
 · omega
 · exact (h g h2 h3 h4).out a w ⟨A, hW, hT⟩
theorem jO {t e : TypeId} {x ix : Operand} {i : Sl} {m0 sz : Nat} {kd : IntKind} {m : Int} {d g : Nat} {agg : Bool} {size : Nat} {zero : List Value} {fs : List (Nat × Nat × Bool)} {ik : Option IntKind} {kk bytes : Nat} {agg2 : Bool} {zero2 : List Value} {fs2 : List (Nat × Nat × Bool)} {el2 : Option TypeId} {ik2 : Option IntKind} {kk2 bytes2 : Nat}
   (hti : ∀ t, bK E.P t (ti t)) (hop : o.op = .indexAddr t x ix) (hx : bF T x = some (.v (i.val m0))) (hix : bF T ix = some (.v (.int kd m)))
   (ht : ti t = .mk agg size zero fs (some e) ik kk bytes) (hte : ti e = .mk agg2 sz zero2 fs2 el2 ik2 kk2 bytes2) (hd : Dst E o d) (hi : i.a = some ⟨g, 0, none⟩) (j : Nat) (hj : m = (j : Int)) (hlt : j < m0) {n0 : Nat} {B0 : List (Nat × TypeId × Nat)}
   (hnext : next (.mk ((d, .v (.pointer (some ⟨g, j * sz, none⟩))) :: T) n c B M F)) :
   OpW (∀ A, ∃ s : SV, (∀ a w, WD E A n0 B0 Ms Fs w → TD E A T n c a w → (execOp a.eval o).run E.P w = .ok (.value (s.den A)) w ∧ s.okT n c w) ∧ (∃ d, Dst E o d ∧ next (.mk ((d, s) :: T) n c B M F))) := by
 refine ⟨fun A => ⟨.v (.pointer (some ⟨g, j * sz, none⟩)), fun a w hW hT => ⟨?_, trivial⟩, d, hd, hnext⟩⟩
 have htt := hti t
 rw [ht] at htt
 obtain ⟨ii, dd, z, e1, e2, e3, e4, e5, e6, e7, e8, e9, e10, e11⟩ := aS htt
 have htt2 := hti e
 rw [hte] at htt2
 obtain ⟨ii2, dd2, z2, k1, k2, k3, k4, k5, k6, k7, k8, k9, k10, k11⟩ := aS htt2
 have hdd := gD e8
 subst hj
 have hx' : a.eval x = .slice (some ⟨g, 0, none⟩) m0 i.c := by rw [(aI hT hx).1]; simp [SV.den, Sl.val, hi]
 have hix' : a.eval ix = .int kd j := (aI hT hix).1
 simp [execOp, hop, Instr.indexAt, hx', hix', asIntOf, underlying, e2, hdd, dE k1, k4, hlt, SV.den]
 unfold Addr.add
 split <;> simp_all
theorem gB0 {α : Type} {enc : α → List Value} {sz : Nat} (he : Enc enc sz) (k1 : Nat) {xs : List α} {i : Sl} {t e : TypeId} {x : Operand} {g ad d : Nat} {v : Value} {size : Nat} {zero : List Value} {fs : List (Nat × Nat × Bool)} {el : Option TypeId} {ik : Option IntKind} {kk bytes : Nat}
   (hti : ∀ t, bK E.P t (ti t)) (hop : o.op = .load t x) (hx : bF T x = some (.v (.pointer (some ⟨g, ad, none⟩)))) (ht : ti t = .mk false size zero fs el ik kk bytes) (hd : Dst E o d)
   (hF : F[k1]? = some (own i e enc sz xs)) (hi : i.a = some ⟨g, 0, none⟩) (j off : Nat) (had : ad = j * sz + off) (hj : j < xs.length) (hv : (enc xs[j])[off]? = some v)
   (hnext : next (.mk ((d, .v v) :: T) n (c + 1) B M F)) : OpW (opD E o Ms Fs next T n c B M F) := by
 refine ⟨opD0.up fun hkf A a w hW hT => ?_⟩
 have htt := hti t
 rw [ht] at htt
 obtain ⟨ii, dd, z, e1, e2, e3, e4, e5, e6, e7, e8, e9, e10, e11⟩ := aS htt
 have hx' : a.eval x = .pointer (some ⟨g, ad, none⟩) := (aI hT hx).1
 have hrd := oP (hW.nth k1 hF).1
 obtain ⟨ad0, h1, h2⟩ := hrd.2.2.2 (by omega)
 rw [hi] at h1
 injection h1 with h1
 subst h1
 subst had
 have hc : w.cell? ⟨g, j * sz + off, none⟩ = some v := by
   have := h2 _ _ (pR he hj hv)
   have ha : (⟨g, 0, none⟩ : Addr).add (j * sz + off) = ⟨g, j * sz + off, none⟩ := by unfold Addr.add; split <;> simp_all
   rwa [ha] at this
 have hr : (execOp a.eval o).run E.P w = .ok (.value v) w := by
   simp [execOp, hop, hx', Instr.loadAt, Instr.sureAddr, gY (w := w) e2 e3 _ _ hc]
 refine aW hr ?_
 rw [hd.1]
 exact ⟨_, _, F, hW, fun w2 => (hT.step w2).put (v := .v v) hd.lt trivial, hkf, hnext⟩
theorem gH {α : Type} {enc : α → List Value} {sz : Nat} (he : Enc enc sz) (k1 : Nat) {xs : List α} {i : Sl} {t e : TypeId} {x y : Operand} {g ad : Nat} {s : SV} {l : List SV} {sz2 : Nat} {agg : Bool} {zero : List Value} {fs : List (Nat × Nat × Bool)} {el : Option TypeId} {ik : Option IntKind} {kk bytes : Nat}
   (hti : ∀ t, bK E.P t (ti t)) (hop : o.op = .store t x y) (hd : o.dst = none) (hx : bF T x = some (.v (.pointer (some ⟨g, ad, none⟩)))) (hy : bF T y = some s) (hl : iR s = some l) (ht : ti t = .mk agg sz2 zero fs el ik kk bytes) (hlen : dG l = sz2)
   (hF : F[k1]? = some (own i e enc sz xs)) (hi : i.a = some ⟨g, 0, none⟩) (j off : Nat) (y0 : α) (had : ad = j * sz + off) (hj : j < xs.length) (hle : Nat.ble (off + sz2) sz = true) (vs : List Value) (hvs : ∀ A, l.map (SV.den A) = vs)
   (hy0 : enc y0 = (enc xs[j]).take off ++ vs ++ (enc xs[j]).drop (off + vs.length)) (hkeep : kM Fs F → kM Fs (F.eraseIdx k1))
   (hnext : next (.mk T n (c + 1) B M (own i e enc sz (xs.set j y0) :: F.eraseIdx k1))) : OpW (opD E o Ms Fs next T n c B M F) := by
 refine ⟨opD0.up fun hkf A a w hW hT => ?_⟩
 have hown := (hW.nth k1 hF).1
 have htt := hti t
 rw [ht] at htt
 obtain ⟨ii, dd, z, e1, e2, e3, e4, e5, e6, e7, e8, e9, e10, e11⟩ := aS htt
 obtain ⟨h1, h2⟩ := aI hT hy
 have h3 : a.eval x = .pointer (some ⟨g, ad, none⟩) := (aI hT hx).1
 obtain ⟨c1, c2, c3⟩ := iS (A := A) hl h2
 rw [hvs A] at c1
 have hvl : vs.length = sz2 := by rw [← hvs A, List.length_map, ← dF]; exact hlen
 have hle' := Nat.le_of_ble_eq_true hle
 have hjs : (j + 1) * sz ≤ xs.length * sz := Nat.mul_le_mul_right _ hj
 rw [Nat.succ_mul] at hjs
 subst had
 obtain ⟨w', hrun, hX, hnew⟩ := yT (P := E.P) (w := w) (off := j * sz + off) (vs := vs) hown hi (by omega) (fun v hv => by
   rw [← hvs A] at hv
   obtain ⟨q, hq, rfl⟩ := List.mem_map.1 hv
   exact c3 q hq)
 rw [← yU he hj (by omega) hy0] at hnew
 have hr : (execOp a.eval o).run E.P w = .ok .skip w' := by
   have hcs : (s.den A).cells.size = ii.size := by
     have : (s.den A).cells.toList.length = vs.length := by rw [c1]
     simp at this
     rw [this, hvl, e4]
   simp only [execOp, hop, Instr.storeAt, h1, h3, Instr.sureAddr, Sem.run_bind, Sem.run_pure, Result.andThen_ok, storeVar, dE e1]
   rw [if_neg (by simp [hcs]), c1]
   simp only [Result.andThen_ok, hrun]
 refine iT hr ?_
 rw [hd]
 refine ⟨_, _, _, ?_, fun w2 => hT.step w2, fun f hf => List.mem_cons_of_mem _ (hkeep hkf f hf), hnext⟩
 show WD E A n B M (kC false i e sz (cells enc (xs.set j y0)) (xs.set j y0).length :: F.eraseIdx k1) w'
 have hlen' : (xs.set j y0).length = xs.length := by simp
 rw [hlen']
 exact hW.turnX hF hi hX hnew
end
section
variable {E : Env} {ti : Nat → TI} {A : Nat → Nat} {T : List (Nat × SV)} {n c : Nat} {B : List (Nat × TypeId × Nat)} {M Ms : List ((Nat × Nat) × SV)} {F Fs : List Fct} {o : Oper} {next : St → Prop} {a : Act} {w w' : World}
theorem WD.callPG (h : WD E A n B M F w) {k ty sz : Nat} (hk : (k, ty, sz) ∈ B) {cs : List Value} {ix : List Nat} {G : List Fct} (hG : FK F ix G) (hok : lD G) (hex : ExtX (fun b => b = A k ∨ sY G b) w w') (hnew : Blk w' (A k) ty cs) (hl : cs.length = sz) {L : List Fct} (hL : NewG w w' G L) :
   WD E A n B (fG k 0 (cs.map .v) M) (L ++ jC ix 0 F) w' := by
 obtain ⟨hk1, hk2, hk3, cs0, hk4, hk5⟩ := h.key k ty sz hk
 have hgf : ∀ b, sY G b → b < w.heap.size ∧ (∀ k ty sz, (k, ty, sz) ∈ B → A k ≠ b) ∧ (E.w0.heap.size ≤ b ∨ E.X b) ∧ ∀ f ∈ jC ix 0 F, ¬ f.foot b := by
   rintro b ⟨g, hg, hb⟩
   obtain ⟨i, hi1, hi2⟩ := yR hG g hg
   obtain ⟨h1, h2, h3⟩ := h.fct _ (List.mem_of_getElem? hi2)
   obtain ⟨o1, o2⟩ := nI hok g hg
   refine ⟨(h2 b hb).1, (h2 b hb).2, h3 o2 b hb, fun f hf hfb => ?_⟩
   obtain ⟨j, hj1, hj2⟩ := oB ix F 0 f hf
   rw [Nat.zero_add] at hj2
   exact fV h.dj (fun e => hj2 (by rw [← e]; exact hi1)) hi2 hj1 (.inl o1) b hb hfb
 have hsub := h.sub (mT ix F 0)
 refine ⟨?_, h.inj, ?_, h.a0, h.n0, h.ext.trans' hex (fun i hi e => ?_), ?_, ?_⟩
 · intro k' ty' sz' hk'
   obtain ⟨g1, g2, g3, cs2, g4, g5⟩ := h.key k' ty' sz' hk'
   refine ⟨g1, Nat.lt_of_lt_of_le g2 hex.size, g3, ?_⟩
   by_cases e : A k' = A k
   · rw [e, hk4] at g4
     simp only [Option.some.injEq, Obj.cells.injEq] at g4
     obtain ⟨rfl, rfl, _⟩ := g4
     exact ⟨cs.toArray, by rw [e]; exact hnew, by simp; omega⟩
   · exact ⟨cs2, by rw [hex.block _ g2 (fun h' => h'.elim e (fun h' => (hgf _ h').2.1 k' ty' sz' hk' rfl))]; exact g4, g5⟩
 · intro k' o' v hv
   rw [dJ] at hv
   split at hv
   · rename_i hc
     obtain ⟨rfl, _, hc3⟩ := hc
     rw [Nat.sub_zero, List.getElem?_map] at hv
     cases hx : cs[o']? with
     | none => rw [hx] at hv; simp at hv
     | some u =>
       rw [hx] at hv; simp at hv; subst hv
       refine ⟨⟨ty, sz, hk⟩, ?_, trivial⟩
       rw [cell_of_row _ _ _ _ _ _ hnew]
       show cs.toArray[o']? = some u
       simpa using hx
   · rename_i hc
     obtain ⟨⟨ty', sz', hk'⟩, g2, g3⟩ := h.mem k' o' v hv
     refine ⟨⟨ty', sz', hk'⟩, ?_, g3⟩
     by_cases e : A k' = A k
     · have ek : k' = k := h.inj _ _ _ _ _ _ hk' hk e
       subst ek
       rw [cell_of_row _ _ _ _ _ _ hk4] at g2
       have : o' < cs0.size := (Array.getElem?_eq_some_iff.1 g2).1
       exact absurd ⟨rfl, Nat.zero_le _, by simp; omega⟩ hc
     · rw [← g2]
       exact World.cell?_of_block (hex.block _ (h.key _ _ _ hk').2.1 (fun h' => h'.elim e (fun h' => (hgf _ h').2.1 _ _ _ hk' rfl)))
 · rcases e with e | e
   · subst e
     rcases hk3 with hk3 | hk3
     · omega
     · exact hk3
   · exact (hgf i e).2.2.1.resolve_left (by omega)
 · intro f hf
   rcases List.mem_append.1 hf with hf | hf
   · obtain ⟨h1, h2, h3⟩ := hL.all f hf
     refine ⟨h1, fun b hb => ⟨(h3 b hb).2, fun k ty sz hk e => ?_⟩, fun _ b hb => ?_⟩
     · rcases (h3 b hb).1 with h4 | h4
       · have := (h.key k ty sz hk).2.1
         omega
       · exact (hgf b h4).2.1 k ty sz hk e
     · rcases (h3 b hb).1 with h4 | h4
       · exact .inl (Nat.le_trans h.ext.size h4)
       · exact (hgf b h4).2.2.1
   · obtain ⟨g1, g2, g3⟩ := hsub.fct f hf
     exact ⟨Fct.keep g1 (fun b hb => (g2 b hb).1) hex (fun b hb e => e.elim (fun e => (g2 b hb).2 k ty sz hk e.symm) (fun e => (hgf b e).2.2.2 f hf hb)), fun b hb => ⟨Nat.lt_of_lt_of_le (g2 b hb).1 hex.size, (g2 b hb).2⟩, g3⟩
 · rw [List.pairwise_append]
   refine ⟨hL.dj, hsub.dj, fun f hf g hg _ b hb hb' => ?_⟩
   rcases ((hL.all f hf).2.2 b hb).1 with h4 | h4
   · have := ((hsub.fct g hg).2.1 b hb').1
     omega
   · exact (hgf b h4).2.2.2 g hg hb'
theorem cF (R : Value → List Value → List Fct → Prop) (ix : List Nat) {G : List Fct} {k : Call} {fo : Operand} {g : FuncId} {cap : List (Nat × Nat)} {l : List SV} {d kb ty sz : Nat} {cs : List Value} (hc : aD E.P g = true)
   (hop : o.op = .call k) (hk : k.callee = .value fo) (hf : bF T fo = some (.f g cap)) (ha : jB T k.args.toList = some (.p kb 0 :: l)) (hd : Dst E o d) (hB : iH B kb = some (ty, sz)) (hM : nE M kb 0 sz = some cs) (hG : FK F ix G) (hok : lD G)
   (hcall : ∀ A w ga, ga = A kb → WD E A n B M F w → Blk w ga ty cs → Calls E.P g (.pointer (some ⟨ga, 0, none⟩) :: ((l.map (SV.den A)) ++ cap.map (fun x => ptr A x.1 x.2))).toArray w (vG w ga ty sz G R))
   (hnext : ∀ v cs L, R v cs L → kI kb 0 (cs.map .v) M fun M' => next (.mk ((d, .v v) :: T) n (c + 1) B M' (L ++ jC ix 0 F))) :
   OpW (dI E o next T n c B M F) := by
 refine ⟨fun A a w hW hT => ?_⟩
 unfold Oper.wp
 rw [jL hT hc hop hk hf ha, Oper.upon_enter]
 refine (hcall A w (A kb) rfl hW (hW.blk (cQ hB) hM).1).mono ?_
 rintro e w' ⟨v, cs', L, rfl, he, hb, hl, hL, hoff, hR⟩
 have hn := hnext v cs' L hR
 rw [eJ] at hn
 refine ⟨_, ⟨_, hW.callPG (cQ hB) hG hok he hb hl hL, ?_⟩, hn⟩
 rw [hd.1]
 exact (hT.step w').put (v := .v v) hd.lt trivial
end
theorem gY0 (G : List Fct) (w w' : World) (hb : ∀ b, (∃ f ∈ G, f.foot b) → w'.heap[b]? = w.heap[b]?) (h : ∀ f ∈ G, f.P w) : ∀ f ∈ G, f.P w' :=
 fun f hf => f.st w w' (fun b hfb => hb b ⟨f, hf, hfb⟩) (h f hf)
abbrev fB (old : Bool) (G : List Fct) : Fct := .other old false (fun b => ∃ f ∈ G, f.foot b) (fun w => ∀ f ∈ G, f.P w) (gY0 G)
section
variable {E : Env} {A : Nat → Nat} {T : List (Nat × SV)} {n c : Nat} {B : List (Nat × TypeId × Nat)} {M Ms : List ((Nat × Nat) × SV)} {F Fs : List Fct} {o : Oper} {next : St → Prop} {w : World}
inductive DerB : Fct → List Fct → Prop
 | own {i : Sl} {e sz n : Nat} {cs : List Value} : DerB (kC false i e sz cs n) [fSl false i sz cs n]
 | sl {i : Sl} {sz n : Nat} {cs : List Value} : DerB (fSl false i sz cs n) [fSl false i sz cs n]
 | b {G : List Fct} : DerB (fB false G) G
theorem DerB.out {f : Fct} {G : List Fct} (h : DerB f G) : f.old = false ∧ (∀ w, f.P w → ∀ g ∈ G, g.P w) ∧ ∀ g ∈ G, ∀ b, g.foot b → f.foot b := by
 cases h with
 | own => exact ⟨rfl, fun w h g hg => by obtain rfl := List.mem_singleton.1 hg; exact oP h, fun g hg b hb => by obtain rfl := List.mem_singleton.1 hg; exact hb.2⟩
 | sl => exact ⟨rfl, fun w h g hg => by obtain rfl := List.mem_singleton.1 hg; exact h, fun g hg b hb => by obtain rfl := List.mem_singleton.1 hg; exact hb⟩
 | b => exact ⟨rfl, fun w h g hg => h g hg, fun g hg b hb => ⟨g, hg, hb⟩⟩
def Fct.aged : Fct → Fct
 | .sl _ i sz cs n => .sl true i sz cs n
 | .own _ i _ sz cs n => .sl true i sz cs n
 | .other _ _ foot P st => .other true false foot P st
theorem Fct.aged_out : ∀ (f : Fct), (∀ w, f.P w → f.aged.P w) ∧ ∀ b, f.aged.foot b → f.foot b
 | .sl .. => z147
 | .own .. => ⟨fun _ h => oP h, fun _ h => h.2⟩
 | .other .. => z147
end
structure Rd (f g : Fct) : Prop where
 p : ∀ w, f.P w → g.P w
 foot : ∀ b, g.foot b → f.foot b
theorem Rd.refl (f : Fct) : Rd f f := z147
theorem Rd.trans {f g e : Fct} (h : Rd f g) (k : Rd g e) : Rd f e := ⟨fun w x => k.p w (h.p w x), fun b x => h.foot b (k.foot b x)⟩
theorem Rd.aged (f : Fct) : Rd f f.aged := ⟨f.aged_out.1, f.aged_out.2⟩
theorem Rd.sl {o o' : Bool} {i : Sl} {sz n : Nat} {cs : List Value} : Rd (fSl o i sz cs n) (fSl o' i sz cs n) := z147
theorem Rd.own {o o' : Bool} {i : Sl} {e sz n : Nat} {cs : List Value} : Rd (kC o i e sz cs n) (fSl o' i sz cs n) := ⟨fun _ h => oP h, fun _ h => h.2⟩
theorem ob_st (G : List Fct) (w w' : World) (hb : ∀ b, (∃ f ∈ G, f.foot b) → w'.heap[b]? = w.heap[b]?) (h : (∀ f ∈ G, f.P w ∧ f.isOwn = true ∧ f.old = false) ∧ G.Pairwise Dj) : (∀ f ∈ G, f.P w' ∧ f.isOwn = true ∧ f.old = false) ∧ G.Pairwise Dj :=
 ⟨fun f hf => ⟨f.st w w' (fun b hfb => hb b ⟨f, hf, hfb⟩) (h.1 f hf).1, (h.1 f hf).2⟩, h.2⟩
abbrev fO (G : List Fct) : Fct := .other false true (fun b => ∃ f ∈ G, f.foot b) (fun w => (∀ f ∈ G, f.P w ∧ f.isOwn = true ∧ f.old = false) ∧ G.Pairwise Dj) (ob_st G)
abbrev fR (G : List Fct) : Fct := fB true (G.map Fct.aged)
def RdIn (G : List Fct) (g : Fct) : Prop := ∃ f ∈ G, Rd f.aged g
theorem RdIn.own {G : List Fct} {o o' : Bool} {i : Sl} {e sz n : Nat} {cs : List Value} (h : kC o i e sz cs n ∈ G) : RdIn G (fSl o' i sz cs n) := ⟨_, h, Rd.sl⟩
theorem Rd.ofO {G : List Fct} {g : Fct} (h : RdIn G g) : Rd (fO G) g := by
 obtain ⟨f, hf, h⟩ := h
 exact ⟨fun w hw => h.p w (f.aged_out.1 w (hw.1 f hf).1), fun b hb => ⟨f, hf, f.aged_out.2 b (h.foot b hb)⟩⟩
theorem Rd.ofR {G : List Fct} {g : Fct} (h : RdIn G g) : Rd (fR G) g := by
 obtain ⟨f, hf, h⟩ := h
 exact ⟨fun w hw => h.p w (hw _ (List.mem_map_of_mem hf)), fun b hb => ⟨_, List.mem_map_of_mem hf, h.foot b hb⟩⟩
theorem Rd.O_R {G G' : List Fct} (h : ∀ g ∈ G', g ∈ G) : Rd (fO G) (fR G') := by
 refine ⟨fun w hw g hg => ?_, ?_⟩
 · obtain ⟨f, hf, rfl⟩ := List.mem_map.1 hg
   exact f.aged_out.1 w (hw.1 f (h f hf)).1
 · rintro b ⟨g, hg, hb⟩
   obtain ⟨f, hf, rfl⟩ := List.mem_map.1 hg
   exact ⟨f, h f hf, f.aged_out.2 b hb⟩
theorem Rd.R_R {G G' : List Fct} (h : ∀ g ∈ G', g ∈ G) : Rd (fR G) (fR G') := by
 refine ⟨fun w hw g hg => ?_, ?_⟩
 · obtain ⟨f, hf, rfl⟩ := List.mem_map.1 hg
   exact hw _ (List.mem_map_of_mem (h f hf))
 · rintro b ⟨g, hg, hb⟩
   obtain ⟨f, hf, rfl⟩ := List.mem_map.1 hg
   exact ⟨_, List.mem_map_of_mem (h f hf), hb⟩
def Shift (F F' : List Fct) : Prop := ∀ (E : Env) (A : Nat → Nat) (n : Nat) (B : List (Nat × TypeId × Nat)) (M : List ((Nat × Nat) × SV)) (w : World), WD E A n B M F w → WD E A n B M F' w
theorem Shift.trans {F F' F'' : List Fct} (h : Shift F F') (k : Shift F' F'') : Shift F F'' := fun E A n B M w x => k E A n B M w (h E A n B M w x)
inductive DerO : Fct → List Fct → Prop
 | own {i : Sl} {e sz n : Nat} {cs : List Value} : DerO (kC false i e sz cs n) [kC false i e sz cs n]
 | o {G : List Fct} : DerO (fO G) G
theorem DerO.out {f : Fct} {G : List Fct} (h : DerO f G) : (∀ w, f.P w → (∀ g ∈ G, g.P w ∧ g.isOwn = true ∧ g.old = false) ∧ G.Pairwise Dj) ∧ (∀ g ∈ G, ∀ b, g.foot b → f.foot b) ∧ f.isOwn = true ∧ f.old = false := by
 cases h with
 | own => exact ⟨fun w h => ⟨fun g hg => by obtain rfl := List.mem_singleton.1 hg; exact ⟨h, rfl, rfl⟩, List.pairwise_singleton _ _⟩, fun g hg b hb => by obtain rfl := List.mem_singleton.1 hg; exact hb, rfl, rfl⟩
 | o => exact ⟨fun w h => h, fun g hg b hb => ⟨g, hg, hb⟩, rfl, rfl⟩
def FJ (F : List Fct) : List Nat → List (List Fct) → Prop
 | [], [] => True
 | j :: jx, G :: r => ((∃ f, F[j]? = some f ∧ DerO f G) ∨ (F.length ≤ j ∧ ∀ g ∈ G, dQ g)) ∧ FJ F jx r
 | _, _ => False
theorem mV {g : Fct} (h : dQ g) : ∀ b, ¬ g.foot b := by
 cases g with
 | own old i e sz cs n => obtain ⟨_, rfl, _⟩ := h; rintro b ⟨ad, h, _⟩; cases h
 | _ => exact h.elim
theorem mH0 {g : Fct} (h : dQ g) : g.isOwn = true := by
 cases g with
 | own => rfl
 | _ => exact h.elim
theorem aO0 {G : List Fct} (h : ∀ g ∈ G, dQ g) : G.Pairwise Dj := by
 rw [List.pairwise_iff_getElem]
 intro i j hi hj _ _ b hb
 exact (mV (h _ (List.getElem_mem hi)) b hb).elim
theorem jP0 {F : List Fct} : ∀ {ix : List Nat} {Gs : List (List Fct)}, FJ F ix Gs → ix.length = Gs.length
 | [], [], _ => rfl
 | [], _ :: _, h => h.elim
 | _ :: _, [], h => h.elim
 | _ :: _, _ :: _, h => by simp [jP0 h.2]
theorem wZ {F : List Fct} : ∀ {ix : List Nat} {Gs : List (List Fct)}, FJ F ix Gs → ∀ (p j : Nat) (G : List Fct), ix[p]? = some j → Gs[p]? = some G → (∃ f, F[j]? = some f ∧ DerO f G) ∨ ∀ g ∈ G, dQ g
 | [], _, _, p, j, G, h, _ => by simp at h
 | _ :: _, [], h, _, _, _, _, _ => h.elim
 | i :: ix, G :: r, h, p, j, G', h1, h2 => by
   cases p with
   | zero =>
     simp at h1 h2
     subst h1; subst h2
     exact h.1.imp id (·.2)
   | succ p => exact wZ h.2 p j G' (by simpa using h1) (by simpa using h2)
section
variable {E : Env} {A : Nat → Nat} {T : List (Nat × SV)} {n c : Nat} {B : List (Nat × TypeId × Nat)} {M Ms : List ((Nat × Nat) × SV)} {F F' Fs : List Fct} {o : Oper} {next : St → Prop} {w : World}
theorem Shift.splitO (k : Nat) {L G G' : List Fct} (hk : F[k]? = some (fO G)) (hp : G.Perm (L ++ G')) : Shift F (L ++ fO G' :: F.eraseIdx k) := by
 intro E A n B M w h
 obtain ⟨⟨h1, hpw⟩, h2, h3⟩ := h.fct _ (List.mem_of_getElem? hk)
 have hsub := h.sub (kK F k)
 have hdj := eX h.dj hk
 have hpw' := (hp.pairwise_iff (fun h => Dj.symm h)).1 hpw
 rw [List.pairwise_append] at hpw'
 obtain ⟨q1, q2, q3⟩ := hpw'
 have hL : ∀ f ∈ L, f ∈ G := fun f hf => hp.mem_iff.2 (List.mem_append_left _ hf)
 have hG' : ∀ f ∈ G', f ∈ G := fun f hf => hp.mem_iff.2 (List.mem_append_right _ hf)
 refine ⟨h.key, h.inj, h.mem, h.a0, h.n0, h.ext, fun f hf => ?_, ?_⟩
 · rcases List.mem_append.1 hf with hf | hf
   · exact ⟨(h1 f (hL f hf)).1, fun b hb => h2 b ⟨f, hL f hf, hb⟩, fun _ b hb => h3 rfl b ⟨f, hL f hf, hb⟩⟩
   · rcases List.mem_cons.1 hf with rfl | hf
     · refine ⟨⟨fun g hg => h1 g (hG' g hg), q2⟩, ?_, ?_⟩
       · rintro b ⟨g, hg, hb⟩; exact h2 b ⟨g, hG' g hg, hb⟩
       · rintro _ b ⟨g, hg, hb⟩; exact h3 rfl b ⟨g, hG' g hg, hb⟩
     · exact hsub.fct f hf
 · rw [List.pairwise_append]
   refine ⟨q1, ?_, fun f hf g hg ho b hb hb' => ?_⟩
   · rw [List.pairwise_cons]
     refine ⟨fun f hf ho b hb hb' => ?_, hsub.dj⟩
     obtain ⟨g, hg, hgb⟩ := hb
     exact hdj f hf (.inl rfl) b ⟨g, hG' g hg, hgb⟩ hb'
   · rcases List.mem_cons.1 hg with rfl | hg
     · obtain ⟨g, hg, hgb⟩ := hb'
       exact q3 f hf g hg (.inl (h1 f (hL f hf)).2.1) b hb hgb
     · exact hdj g hg (.inl rfl) b ⟨f, hL f hf, hb⟩ hb'
theorem Shift.joinO (ix : List Nat) {Gs : List (List Fct)} (hG : FJ F ix Gs) (hix : kL ix = true) {G : List Fct} (hp : Gs.flatten.Perm G) : Shift F (fO G :: jC ix 0 F) := by
 intro E A n B M w h
 have hsub := h.sub (mT ix F 0)
 have hnd := uF hix
 have hlen := jP0 hG
 have hmem : ∀ g ∈ Gs.flatten, g.isOwn = true ∧ g.old = false ∧ ((∃ i ∈ ix, ∃ f, F[i]? = some f ∧ f.isOwn = true ∧ f.old = false ∧ g.P w ∧ ∀ b, g.foot b → f.foot b) ∨ dQ g) := by
   intro g hg
   obtain ⟨G0, h0, hg0⟩ := List.mem_flatten.1 hg
   obtain ⟨p, hpp⟩ := List.getElem?_of_mem h0
   have hplt : p < ix.length := by rw [hlen]; exact (List.getElem?_eq_some_iff.1 hpp).1
   rcases wZ hG p ix[p] G0 (List.getElem?_eq_getElem hplt) hpp with ⟨f, hf, hd⟩ | hn
   · obtain ⟨d1, d2, d3, d4⟩ := hd.out
     have hfw := (h.nth _ hf).1
     exact ⟨((d1 w hfw).1 g hg0).2.1, ((d1 w hfw).1 g hg0).2.2, .inl ⟨_, List.getElem_mem hplt, f, hf, d3, d4, ((d1 w hfw).1 g hg0).1, d2 g hg0⟩⟩
   · exact ⟨mH0 (hn g hg0), (jJ (hn g hg0) w).2.2, .inr (hn g hg0)⟩
 have hpw : Gs.flatten.Pairwise Dj := by
   rw [List.pairwise_flatten]
   refine ⟨fun l hl => ?_, ?_⟩
   · obtain ⟨p, hpp⟩ := List.getElem?_of_mem hl
     have hplt : p < ix.length := by rw [hlen]; exact (List.getElem?_eq_some_iff.1 hpp).1
     rcases wZ hG p ix[p] l (List.getElem?_eq_getElem hplt) hpp with ⟨f, hf, hd⟩ | hn
     · exact (hd.out.1 w (h.nth _ hf).1).2
     · exact aO0 hn
   · rw [List.pairwise_iff_getElem]
     intro p q hp' hq' hpq x hx y hy _ b hb hb'
     have hpi : p < ix.length := by rw [hlen]; exact hp'
     have hqi : q < ix.length := by rw [hlen]; exact hq'
     rcases wZ hG p ix[p] _ (List.getElem?_eq_getElem hpi) (List.getElem?_eq_getElem hp') with ⟨f, hf, hd⟩ | hn
     · rcases wZ hG q ix[q] _ (List.getElem?_eq_getElem hqi) (List.getElem?_eq_getElem hq') with ⟨f', hf', hd'⟩ | hn
       · have hne : ix[p] ≠ ix[q] := List.pairwise_iff_getElem.1 hnd p q hpi hqi hpq
         exact fV h.dj hne hf hf' (.inl hd.out.2.2.1) b (hd.out.2.1 x hx b hb) (hd'.out.2.1 y hy b hb')
       · exact mV (hn y hy) b hb'
     · exact mV (hn x hx) b hb
 have hm' : ∀ g ∈ G, g ∈ Gs.flatten := fun g hg => hp.mem_iff.2 hg
 refine ⟨hsub.key, hsub.inj, hsub.mem, hsub.a0, hsub.n0, hsub.ext, fun f hf => ?_, ?_⟩
 · rcases List.mem_cons.1 hf with rfl | hf
   · refine ⟨⟨fun g hg => ?_, (hp.pairwise_iff (fun h => Dj.symm h)).1 hpw⟩, ?_, ?_⟩
     · obtain ⟨m1, m2, m3⟩ := hmem g (hm' g hg)
       refine ⟨?_, m1, m2⟩
       rcases m3 with ⟨i, _, f, _, _, _, hgP, _⟩ | hn
       · exact hgP
       · exact (jJ hn w).1
     · rintro b ⟨g, hg, hb⟩
       rcases (hmem g (hm' g hg)).2.2 with ⟨i, _, f, hf, _, _, _, hfoot⟩ | hn
       · exact (h.fct _ (List.mem_of_getElem? hf)).2.1 b (hfoot b hb)
       · exact (mV hn b hb).elim
     · rintro _ b ⟨g, hg, hb⟩
       rcases (hmem g (hm' g hg)).2.2 with ⟨i, _, f, hf, _, hold, _, hfoot⟩ | hn
       · exact (h.fct _ (List.mem_of_getElem? hf)).2.2 hold b (hfoot b hb)
       · exact (mV hn b hb).elim
   · exact hsub.fct f hf
 · rw [List.pairwise_cons]
   refine ⟨fun r hr ho b hb hb' => ?_, hsub.dj⟩
   obtain ⟨g, hg, hgb⟩ := hb
   rcases (hmem g (hm' g hg)).2.2 with ⟨i, hi, f, hf, hown, _, _, hfoot⟩ | hn
   · obtain ⟨j, hj1, hj2⟩ := oB ix F 0 r hr
     rw [Nat.zero_add] at hj2
     exact fV h.dj (fun e => hj2 (by rw [← e]; exact hi)) hf hj1 (.inl hown) b (hfoot b hgb) hb'
   · exact mV hn b hgb
theorem Shift.read (k : Nat) {f g : Fct} (hk : F[k]? = some f) (hf : f.isOwn = false) (hg : g.isOwn = false) (ho : f.old = g.old) (h : Rd f g) : Shift F (g :: F) := by
 intro E A n B M w hW
 obtain ⟨h1, h2, h3⟩ := hW.fct _ (List.mem_of_getElem? hk)
 refine ⟨hW.key, hW.inj, hW.mem, hW.a0, hW.n0, hW.ext, fun f' hf' => ?_, ?_⟩
 · rcases List.mem_cons.1 hf' with rfl | hf'
   · exact ⟨h.p w h1, fun b hb => h2 b (h.foot b hb), fun e b hb => h3 (ho.trans e) b (h.foot b hb)⟩
   · exact hW.fct f' hf'
 · rw [List.pairwise_cons]
   refine ⟨fun r hr hor b hb hb' => ?_, hW.dj⟩
   rw [hg] at hor
   rcases hor with hor | hor
   · cases hor
   · obtain ⟨j, hj, rfl⟩ := List.getElem_of_mem hr
     have hj' : F[j]? = some F[j] := List.getElem?_eq_getElem hj
     by_cases e : k = j
     · subst e
       rw [hk] at hj'
       injection hj' with hj'
       rw [← hj', hf] at hor
       cases hor
     · exact fV hW.dj e hk hj' (.inr hor) b (h.foot b hb) hb'
theorem Shift.pick (ix : List Nat) (hF : FW F ix F') (hix : kL ix = true) : Shift F F' := fun _ _ _ _ _ _ h => h.pick ix hF hix
theorem xA (h : Shift F F') (k : OpW (dI E o next T n c B M F')) : OpW (dI E o next T n c B M F) := ⟨fun A a w hW hT => k.out A a w (h E A n B M w hW) hT⟩
theorem aP {s : St} (h : Shift F F') (k : Weak E (.mk T n c B M F') s) : Weak E (.mk T n c B M F) s := fun a w ⟨A, hW, hT⟩ => k a w ⟨A, h E A n B M w hW, hT⟩
theorem aO {X : (Nat → Nat) → World → Prop} (h : Shift F F') (k : RetW (∀ A w, WD E A n B M F' w → X A w)) : RetW (∀ A w, WD E A n B M F w → X A w) := ⟨fun A w hW => k.out A w (h E A n B M w hW)⟩
theorem jP {X : Act → World → Prop} (h : Shift F F') (k : DrawW (∀ a w, Den E (.mk T n c B M F') a w → X a w)) : DrawW (∀ a w, Den E (.mk T n c B M F) a w → X a w) := ⟨fun a w ⟨A, hW, hT⟩ => k.out a w ⟨A, h E A n B M w hW, hT⟩⟩
theorem mI0 (h : Shift F F') (hkeep : kM Fs F → kM Fs F') (k : OpW (opD E o Ms Fs next T n c B M F')) : OpW (opD E o Ms Fs next T n c B M F) :=
 ⟨fun hm hf A a w hW hT => k.out hm (hkeep hf) A a w (h E A n B M w hW) hT⟩
theorem WD.get (h : WD E A n B M F w) (k : Nat) {f g : Fct} (hk : F[k]? = some f) (r : Rd f g) : g.P w ∧ ∀ b, g.foot b → b < w.heap.size :=
 ⟨r.p w (h.nth k hk).1, fun b hb => (h.nth k hk).2 b (r.foot b hb)⟩
theorem WD.getP (h : WD E A n B M F w) (ga : Nat) {k ty sz : Nat} (hg : ga = A k) (hB : iH B k = some (ty, sz)) (j : Nat) {f g : Fct} (hj : F[j]? = some f) (r : Rd f g) : g.P w ∧ ∀ b, g.foot b → b < w.heap.size ∧ b ≠ ga := by
 subst hg
 refine ⟨r.p w (h.nth j hj).1, fun b hb => ?_⟩
 exact ⟨((h.fct _ (List.mem_of_getElem? hj)).2.1 b (r.foot b hb)).1, fun e => ((h.fct _ (List.mem_of_getElem? hj)).2.1 b (r.foot b hb)).2 k ty sz (cQ hB) e.symm⟩
theorem aL {F : List Fct} (k : Nat) {f : Fct} (hk : F[k]? = some f) {o : Bool} {i : Sl} {sz m : Nat} {cs : List Value} (r : Rd f (fSl o i sz cs m)) : ∀ w, (∀ f ∈ F, f.P w) → RdS w i sz cs m :=
 fun w h => r.p w (h f (List.mem_of_getElem? hk))
end
end Go.Sx
namespace Go.Proofs.YtijmjecehppbfaaGreat
set_option maxRecDepth 100000
set_option maxHeartbeats 100000000
open Go Go.Sx Go.RowKit
structure Waiter where
 t : Int
 n : Int
 deriving DecidableEq
def bV (l : Waiter) : List Value := [.int .i64 l.t, .int .i64 l.n]
theorem cH : Enc bV 2 := ⟨fun _ => rfl, fun _ u hu => by simp [bV] at hu; rcases hu with rfl | rfl <;> rfl⟩
structure Sem where
 free : Int
 limit : Int
 queue : List Waiter
 deriving DecidableEq
structure Once where
 state : Int
 owner : Int
 value : Int
 waits : List Int
 deriving DecidableEq
structure Group where
 count : Int
 waits : List Int
 deriving DecidableEq
structure Barrier where
 parties : Int
 round : Int
 waits : List Int
 deriving DecidableEq
def oC (m : Sem) (q : Sl) : Value := .agg #[.int .i64 m.free, .int .i64 m.limit, q.val m.queue.length]
def jX (m : Once) (q : Sl) : Value := .agg #[.int .i64 m.state, .int .i64 m.owner, .int .i64 m.value, q.val m.waits.length]
def kN (m : Group) (q : Sl) : Value := .agg #[.int .i64 m.count, q.val m.waits.length]
def jE (m : Barrier) (q : Sl) : Value := .agg #[.int .i64 m.parties, .int .i64 m.round, q.val m.waits.length]
def iK {α : Type} (h : Sl) (ty : TypeId) (enc : α → List Value) (sz : Nat) (inner : α → List Fct) (xs : List α) : List Fct := own h ty enc sz xs :: xs.flatMap inner
theorem nK {α : Type} {h : Sl} {ty : TypeId} {enc : α → List Value} {sz : Nat} {inner : α → List Fct} {xs : List α} {j : Nat} (hj : j < xs.length) {f : Fct} (hf : f ∈ inner xs[j]) : f ∈ iK h ty enc sz inner xs :=
 List.mem_cons_of_mem _ (List.mem_flatMap.2 ⟨_, List.getElem_mem hj, hf⟩)
theorem aX {α : Type} {h : Sl} {ty : TypeId} {enc : α → List Value} {sz : Nat} {inner : α → List Fct} {xs : List α} : RdIn (iK h ty enc sz inner xs) (slo h enc sz xs) := RdIn.own (List.mem_cons_self ..)
structure SemH where
 m : Sem
 q : Sl
structure OnceH where
 m : Once
 q : Sl
structure GroupH where
 m : Group
 q : Sl
structure BarrierH where
 m : Barrier
 q : Sl
structure ChanH where
 m : Chan
 q0 : Sl
 q1 : Sl
 q2 : Sl
def gI (x : SemH) : List Value := [.int .i64 x.m.free, .int .i64 x.m.limit, x.q.val x.m.queue.length]
def eD (x : OnceH) : List Value := [.int .i64 x.m.state, .int .i64 x.m.owner, .int .i64 x.m.value, x.q.val x.m.waits.length]
def dR (x : GroupH) : List Value := [.int .i64 x.m.count, x.q.val x.m.waits.length]
def dA (x : BarrierH) : List Value := [.int .i64 x.m.parties, .int .i64 x.m.round, x.q.val x.m.waits.length]
def fH (x : ChanH) : List Value := [.int .i64 x.m.room, x.q0.val x.m.items.length, x.q1.val x.m.senders.length, x.q2.val x.m.getters.length, .bool x.m.closed]
theorem cZ : Enc gI 3 := ⟨fun _ => rfl, fun _ u hu => by simp [gI] at hu; rcases hu with rfl | rfl | rfl <;> rfl⟩
theorem cX : Enc eD 4 := ⟨fun _ => rfl, fun _ u hu => by simp [eD] at hu; rcases hu with rfl | rfl | rfl | rfl <;> rfl⟩
theorem cI : Enc dR 2 := ⟨fun _ => rfl, fun _ u hu => by simp [dR] at hu; rcases hu with rfl | rfl <;> rfl⟩
theorem cA : Enc dA 3 := ⟨fun _ => rfl, fun _ u hu => by simp [dA] at hu; rcases hu with rfl | rfl | rfl <;> rfl⟩
theorem cN : Enc fH 5 := ⟨fun _ => rfl, fun _ u hu => by simp [fH] at hu; rcases hu with rfl | rfl | rfl | rfl | rfl <;> rfl⟩
def oD (x : SemH) : List Fct := [own x.q 184 bV 2 x.m.queue]
def mW (x : OnceH) : List Fct := [own x.q 3 aJ 1 x.m.waits]
def jD (x : GroupH) : List Fct := [own x.q 3 aJ 1 x.m.waits]
def eC (x : BarrierH) : List Fct := [own x.q 3 aJ 1 x.m.waits]
def gM (x : ChanH) : List Fct := [own x.q0 3 aJ 1 x.m.items, own x.q1 187 fX 2 x.m.senders, own x.q2 3 aJ 1 x.m.getters]
def jF (h : Sl) (xs : List SemH) : List Fct := iK h 95 gI 3 oD xs
def gT (h : Sl) (xs : List OnceH) : List Fct := iK h 102 eD 4 mW xs
def fL (h : Sl) (xs : List GroupH) : List Fct := iK h 108 dR 2 jD xs
def eE (h : Sl) (xs : List BarrierH) : List Fct := iK h 114 dA 3 eC xs
def jQ (h : Sl) (xs : List ChanH) : List Fct := iK h 119 fH 5 gM xs
theorem iV (h : Sl) (xs : List SemH) (j : Nat) (hj : j < xs.length) : RdIn (jF h xs) (slo (xs[j]).q bV 2 (xs[j]).m.queue) := RdIn.own (nK hj (List.mem_cons_self ..))
theorem hC (h : Sl) (xs : List OnceH) (j : Nat) (hj : j < xs.length) : RdIn (gT h xs) (slo (xs[j]).q aJ 1 (xs[j]).m.waits) := RdIn.own (nK hj (List.mem_cons_self ..))
theorem eK (h : Sl) (xs : List GroupH) (j : Nat) (hj : j < xs.length) : RdIn (fL h xs) (slo (xs[j]).q aJ 1 (xs[j]).m.waits) := RdIn.own (nK hj (List.mem_cons_self ..))
theorem dO (h : Sl) (xs : List BarrierH) (j : Nat) (hj : j < xs.length) : RdIn (eE h xs) (slo (xs[j]).q aJ 1 (xs[j]).m.waits) := RdIn.own (nK hj (List.mem_cons_self ..))
theorem kO (h : Sl) (xs : List ChanH) (j : Nat) (hj : j < xs.length) : RdIn (jQ h xs) (slo (xs[j]).q0 aJ 1 (xs[j]).m.items) := RdIn.own (nK hj (List.mem_cons_self ..))
theorem gJ (h : Sl) (xs : List ChanH) (j : Nat) (hj : j < xs.length) : RdIn (jQ h xs) (slo (xs[j]).q1 fX 2 (xs[j]).m.senders) := RdIn.own (nK hj (List.mem_cons_of_mem _ (List.mem_cons_self ..)))
theorem hH (h : Sl) (xs : List ChanH) (j : Nat) (hj : j < xs.length) : RdIn (jQ h xs) (slo (xs[j]).q2 aJ 1 (xs[j]).m.getters) := RdIn.own (nK hj (List.mem_cons_of_mem _ (List.mem_cons_of_mem _ (List.mem_cons_self ..))))
theorem aR {α β : Type} {f : α → β} {xs : List α} {ys : List β} {k : Nat} (hk : k < xs.length) (h : ys = (xs.map f).take k) {y : β} (hy : y = f xs[k]) : ys ++ [y] = (xs.map f).take (k + 1) := by
 subst hy; subst h
 rw [List.take_succ_eq_append_getElem (by simpa using hk), List.getElem_map]
theorem bD (k n : Nat) (h : k < n) (hn : n ≤ 4611686018427387904) : IntKind.i64.wrap ((k : Int) + 1) = ((k + 1 : Nat) : Int) := by
 rw [IntKind.wrap_i64]; omega
structure Op where
 kind : Int
 on : Int
 arg : Int
 deriving DecidableEq
def cOp (l : Op) : List Value := [.int .i64 l.kind, .int .i64 l.on, .int .i64 l.arg]
theorem oE : Enc cOp 3 := ⟨fun _ => rfl, fun _ u hu => by simp [cOp] at hu; rcases hu with rfl | rfl | rfl <;> rfl⟩
def Op0 : Op := ⟨0, 0, 0⟩
structure OpSH where
 m : List Op
 q : Sl
def kP (x : OpSH) : List Value := [x.q.val x.m.length]
theorem dT : Enc kP 1 := ⟨fun _ => rfl, fun _ u hu => by simp [kP] at hu; subst hu; rfl⟩
def pX (x : OpSH) : List Fct := [own x.q 65 cOp 3 x.m]
def oF (h : Sl) (xs : List OpSH) : List Fct := iK h 68 kP 1 pX xs
theorem fZ (h : Sl) (xs : List OpSH) (j : Nat) (hj : j < xs.length) : RdIn (oF h xs) (slo (xs[j]).q cOp 3 (xs[j]).m) := RdIn.own (nK hj (List.mem_cons_self ..))
structure Prog where
 sems : List Int
 groups : List Int
 barriers : List Int
 rooms : List Int
 threads : List (List Op)
 deriving DecidableEq
structure ProgH where
 sems : List Int
 groups : List Int
 barriers : List Int
 rooms : List Int
 threads : List OpSH
 h0 : Sl
 h1 : Sl
 h2 : Sl
 h3 : Sl
 h4 : Sl
def ProgH.pure (s : ProgH) : Prog := ⟨s.sems, s.groups, s.barriers, s.rooms, s.threads.map (·.m)⟩
def dW (s : ProgH) : Value := .agg #[s.h0.val s.sems.length, s.h1.val s.groups.length, s.h2.val s.barriers.length, s.h3.val s.rooms.length, s.h4.val s.threads.length]
def aY (s : ProgH) : List Fct := own s.h0 3 aJ 1 s.sems :: own s.h1 3 aJ 1 s.groups :: own s.h2 3 aJ 1 s.barriers :: own s.h3 3 aJ 1 s.rooms :: oF s.h4 s.threads
theorem eM (s : ProgH) : RdIn (aY s) (slo s.h0 aJ 1 s.sems) := RdIn.own (o := false) (e := 3) (by simp [aY])
theorem iW (s : ProgH) : RdIn (aY s) (slo s.h1 aJ 1 s.groups) := RdIn.own (o := false) (e := 3) (by simp [aY])
theorem eH (s : ProgH) : RdIn (aY s) (slo s.h2 aJ 1 s.barriers) := RdIn.own (o := false) (e := 3) (by simp [aY])
theorem gN (s : ProgH) : RdIn (aY s) (slo s.h3 aJ 1 s.rooms) := RdIn.own (o := false) (e := 3) (by simp [aY])
theorem bB (s : ProgH) : ∀ g ∈ oF s.h4 s.threads, g ∈ aY s := fun g hg => by simp [aY, hg]
structure State where
 places : List Int
 status : List Int
 sems : List Sem
 onces : List Once
 groups : List Group
 barriers : List Barrier
 chans : List Chan
 said : List Int
 fault : Int
 deriving DecidableEq
structure StateH where
 places : List Int
 status : List Int
 sems : List SemH
 onces : List OnceH
 groups : List GroupH
 barriers : List BarrierH
 chans : List ChanH
 said : List Int
 fault : Int
 h0 : Sl
 h1 : Sl
 h2 : Sl
 h3 : Sl
 h4 : Sl
 h5 : Sl
 h6 : Sl
 h7 : Sl
def StateH.pure (s : StateH) : State := ⟨s.places, s.status, s.sems.map (·.m), s.onces.map (·.m), s.groups.map (·.m), s.barriers.map (·.m), s.chans.map (·.m), s.said, s.fault⟩
def aM (s : StateH) : Value := .agg #[s.h0.val s.places.length, s.h1.val s.status.length, s.h2.val s.sems.length, s.h3.val s.onces.length, s.h4.val s.groups.length, s.h5.val s.barriers.length, s.h6.val s.chans.length, s.h7.val s.said.length, .int .i64 s.fault]
def aK (s : StateH) : List Fct := own s.h0 3 aJ 1 s.places :: own s.h1 3 aJ 1 s.status :: (jF s.h2 s.sems ++ (gT s.h3 s.onces ++ (fL s.h4 s.groups ++ (eE s.h5 s.barriers ++ (jQ s.h6 s.chans ++ [own s.h7 3 aJ 1 s.said])))))
theorem eF (s : StateH) : RdIn (aK s) (slo s.h0 aJ 1 s.places) := RdIn.own (o := false) (e := 3) z96
theorem cS (s : StateH) : RdIn (aK s) (slo s.h1 aJ 1 s.status) := RdIn.own (o := false) (e := 3) z96
theorem fM (s : StateH) : RdIn (aK s) (slo s.h7 aJ 1 s.said) := RdIn.own (o := false) (e := 3) z96
theorem bU (s : StateH) : ∀ g ∈ jF s.h2 s.sems, g ∈ aK s := fun g hg => by simp [aK, hg]
theorem bW (s : StateH) : ∀ g ∈ gT s.h3 s.onces, g ∈ aK s := fun g hg => by simp [aK, hg]
theorem bL (s : StateH) : ∀ g ∈ fL s.h4 s.groups, g ∈ aK s := fun g hg => by simp [aK, hg]
theorem bJ (s : StateH) : ∀ g ∈ eE s.h5 s.barriers, g ∈ aK s := fun g hg => by simp [aK, hg]
theorem aQ (s : StateH) : ∀ g ∈ jQ s.h6 s.chans, g ∈ aK s := fun g hg => by simp [aK, hg]
theorem RdIn.sub {G G' : List Fct} {g : Fct} (h : RdIn G g) (hs : ∀ f ∈ G, f ∈ G') : RdIn G' g := by
 obtain ⟨f, hf, k⟩ := h
 exact ⟨f, hs f hf, k⟩
def eB0 {α : Type} (P : α → Prop) (xs : List α) : Prop := xs.length ≤ 1048576 ∧ ∀ x ∈ xs, P x
theorem bM {α β : Type} {P : β → Prop} {f : α → β} {xs : List α} (h : eB0 P (xs.map f)) : xs.length ≤ 1048576 ∧ ∀ x ∈ xs, P (f x) :=
 ⟨by simpa using h.1, fun x hx => h.2 _ (List.mem_map_of_mem hx)⟩
end Go.Proofs.YtijmjecehppbfaaGreat
namespace Go.Sx
set_option maxRecDepth 100000
set_option maxHeartbeats 100000000
open Go Go.RowKit
def gZ0 (it : TypeId) : Nat → Nat → List (Bool × TypeId × Nat)
 | _, 0 => []
 | k, n + 1 => (false, it, k) :: gZ0 it (k + 1) n
def vZ (x : Int) : Value := .int .i64 x
theorem yX {P : Program} {t : TypeId} {d : TypeDesc} (hd : P.underlying t = some d) (ha : mM d = false) (cs : Array Value) (off : Nat) (v : Value) (h : cs[off]? = some v) (w : World) : (part t cs off).run P w = .ok v w := by
 unfold part
 rw [Sem.run_bind, mJ hd, ha]
 simp [h]
theorem rM {P : Program} (w : World) {it : TypeId} (hI : P.underlying it = some (.int .i64)) (d : Nat) : ∀ (fs : List Field) (us bs : List Int) (p q : List Value), p.length = q.length → us.length = bs.length →
   fs.map (fun f => (f.name == "_", f.type, f.offset)) = gZ0 it p.length us.length →
   (Op.eqFields (d + 1) (p ++ us.map vZ).toArray (q ++ bs.map vZ).toArray fs).run P w = .ok (decide (us = bs)) w
 | [], us, bs, p, q, hp, hl, hf => by
   cases us with
   | nil => cases bs with
     | nil => simp [Op.eqFields]
     | cons _ _ => simp at hl
   | cons _ _ => simp [gZ0] at hf
 | f :: fs, us, bs, p, q, hp, hl, hf => by
   cases us with
   | nil => simp [gZ0] at hf
   | cons a us =>
     cases bs with
     | nil => simp at hl
     | cons b bs =>
       simp only [List.map_cons, List.length_cons, gZ0, List.cons.injEq, Prod.mk.injEq] at hf
       obtain ⟨⟨f1, f2, f3⟩, hf⟩ := hf
       have f1' : f.name ≠ "_" := by simpa using f1
       have ih := rM w hI d fs us bs (p ++ [vZ a]) (q ++ [vZ b]) (by simp [hp]) z92 (by simpa using hf)
       simp only [List.append_assoc, List.cons_append, List.nil_append] at ih
       have p1 := yX hI rfl (p ++ (a :: us).map vZ).toArray p.length (vZ a) (by simp) w
       have p2 := yX hI rfl (q ++ (b :: bs).map vZ).toArray p.length (vZ b) (by simp [hp]) w
       have q1 : (Op.equalIn (d + 1) it (vZ a) (vZ b)).run P w = .ok (a == b) w := run_equalIn_int w d it .i64 .i64 a b hI
       simp only [List.map_cons] at p1 p2
       simp only [Op.eqFields, f2, f3, f1', ne_eq, not_false_eq_true, if_true, Sem.run_bind, p1, p2, Result.andThen_ok, q1, List.map_cons]
       by_cases h1 : a = b
       · subst h1
         simp [ih]
       · simp [h1]
theorem cE0 {P : Program} {t it : TypeId} {xs ys : List Int} (hS : P.underlying t = some (.struct (P.fieldsOf t))) (hp : P.stoodInHeld t = false) (hI : P.underlying it = some (.int .i64))
   (hl : xs.length = ys.length) (hF : (P.fieldsOf t).toList.map (fun f => (f.name == "_", f.type, f.offset)) = gZ0 it 0 xs.length) (w : World) :
   (binOp .neq t (.agg (xs.map vZ).toArray) (.agg (ys.map vZ).toArray)).run P w = .ok (.bool (decide (xs ≠ ys))) w := by
 have := rM w hI 9998 (P.fieldsOf t).toList xs ys [] [] rfl hl hF
 simp only [List.nil_append] at this
 rw [run_neq_struct, show (10000 : Nat) = 9999 + 1 from rfl, run_equalIn_agg w 9999 t _ _ hS hp, this]
 by_cases h : xs = ys <;> simp [h]
theorem fB_of {w : World} {G : List Fct} (h : ∀ g ∈ G, g.P w ∧ ∀ b, g.foot b → b < w.heap.size) : (fB true G).P w ∧ ∀ b, (fB true G).foot b → b < w.heap.size :=
 ⟨fun g hg => (h g hg).1, fun b ⟨g, hg, hb⟩ => (h g hg).2 b hb⟩
theorem oR0 {w : World} {f g : Fct} (h : f.P w ∧ ∀ b, f.foot b → b < w.heap.size) (k : g.P w ∧ ∀ b, g.foot b → b < w.heap.size) : (fB true [f, g]).P w ∧ ∀ b, (fB true [f, g]).foot b → b < w.heap.size :=
 fB_of fun e he => by
   simp only [List.mem_cons, List.not_mem_nil, or_false] at he
   rcases he with rfl | rfl
   · exact h
   · exact k
theorem jQ0 {w : World} {G : List Fct} (h : (fB true G).P w ∧ ∀ b, (fB true G).foot b → b < w.heap.size) {g : Fct} (hg : g ∈ G) : g.P w ∧ ∀ b, g.foot b → b < w.heap.size :=
 ⟨h.1 g hg, fun b hb => h.2 b ⟨g, hg, hb⟩⟩
section
variable {E : Env} {ti : Nat → TI} {A : Nat → Nat} {T : List (Nat × SV)} {n c : Nat} {B : List (Nat × TypeId × Nat)} {M Ms : List ((Nat × Nat) × SV)} {F Fs : List Fct} {o : Oper} {next : St → Prop} {w : World}
theorem xB (k1 : Nat) {t ty : TypeId} {x : Operand} {g off d : Nat} {cs : List Value} {v : Value} {size : Nat} {zero : List Value} {fs : List (Nat × Nat × Bool)} {el : Option TypeId} {ik : Option IntKind} {kk bytes : Nat}
   (hti : ∀ t, bK E.P t (ti t)) (hop : o.op = .load t x) (hx : bF T x = some (.v (.pointer (some ⟨g, off, none⟩)))) (ht : ti t = .mk false size zero fs el ik kk bytes) (hF : F[k1]? = some (vY g ty cs)) (hv : cs[off]? = some v) (hd : Dst E o d)
   (hnext : next (.mk ((d, .v v) :: T) n c B M F)) : OpW (dI E o next T n c B M F) := by
 refine ⟨fun A a w hW hT => ?_⟩
 have htt := hti t
 rw [ht] at htt
 obtain ⟨ii, dd, z, e1, e2, e3, e4, e5, e6, e7, e8, e9, e10, e11⟩ := aS htt
 have hx' : a.eval x = .pointer (some ⟨g, off, none⟩) := (aI hT hx).1
 have hb : Blk w g ty cs := (hW.nth k1 hF).1
 have hc : w.cell? ⟨g, off, none⟩ = some v := by
   rw [cell_of_row _ _ _ _ _ _ hb]
   show cs.toArray[off]? = some v
   simpa using hv
 have hr : (execOp a.eval o).run E.P w = .ok (.value v) w := by
   simp [execOp, hop, hx', Instr.loadAt, Instr.sureAddr, gY (w := w) e2 e3 _ _ hc]
 refine aW hr ?_
 rw [hd.1]
 exact ⟨_, ⟨_, hW, hT.put (v := .v v) hd.lt trivial⟩, hnext⟩
end
theorem bI {P : Program} {op : BinOp} {t : TypeId} {x y : Operand} {a b : ByteArray} (w : World) : (eqGuard op t x y (.string a) (.string b)).run P w = .ok () w := by
 cases op <;> rfl
theorem gC0 {P : Program} {t : TypeId} {a b : ByteArray} (w : World) : (binOp .eql t (.string a) (.string b)).run P w = .ok (.bool (a.toList == b.toList)) w := by
 rw [binOp_string_eql]; rfl
section
variable {P : Program} {f : FuncId} {fn : Func} {x : Code} {R : Ending → World → Prop} {ti : Nat → TI}
theorem vI (hf : P.funcs[f]? = some fn) (hb : fn.body = some x) (hti : ∀ t, bK P t (ti t)) (w : World) (N : Nat) (hN : fn.ntmps = N) (rs : List ResultVar) (hrs : fn.results.toList = rs) (g : Nat) (ty : TypeId) (cs : List Value) (sz : Nat) (hsz : dG cs = sz) (hg : Blk w g ty cs) (G Fo : List Fct) (hF : AtG w G Fo) (hoff : ∀ f ∈ G ++ Fo, ∀ b, f.foot b → b ≠ g) (ho : kV Fo)
   (l : List Value) (args : Array Value) (ha : args.toList = l ++ [.pointer (some ⟨g, 0, none⟩)]) (hl : Nat.ble (l.length + 1) N = true)
   (hv : dZ (nJ P w N g G) ti x (nZ (nJ P w N g G) ti rs R) (.mk (rJ 0 (l.map .v ++ [.p 0 0])) 1 0 [(0, ty, sz)] (fG 0 0 (cs.map .v) []) (G ++ Fo))) : Calls P f args w R := by
 subst hN; subst hrs
 rw [dF] at hsz
 subst hsz
 exact pQ hf hb (nJ P w fn.ntmps g G) rfl rfl hti (l.map .v ++ [.p 0 0]) 1 [(0, ty, cs.length)] (fG 0 0 (cs.map .v) []) (G ++ Fo) (A := fun _ => g) z60
   (fun s hs => by
     rcases List.mem_append.1 hs with hs | hs
     · obtain ⟨u, _, rfl⟩ := List.mem_map.1 hs; trivial
     · obtain rfl := List.mem_singleton.1 hs; exact Nat.zero_lt_one) z82 (WD.initPG P w _ _ _ _ hg hF hoff ho) hv
end
theorem uL {α β : Type} (f : α → β) : ∀ (l : List α) (j : Nat), (l.eraseIdx j).map f = (l.map f).eraseIdx j
 | [], _ => rfl
 | x :: r, 0 => rfl
 | x :: r, j + 1 => by simp [uL f r j]
theorem gU {n k o : Nat} (h : Nat.blt k n = true) : ∀ x ∈ [(k, o)], x.1 < n := fun x hx => by
 obtain rfl := List.mem_singleton.1 hx
 simpa using h
def fP {β : Type} : List (Int × β) → Int → List (Int × β)
 | [], _ => []
 | (k, u) :: r, x => if k = x then r else (k, u) :: fP r x
theorem yY {β : Type} : ∀ {ps : List (Int × β)} {x : Int} {j : Nat} {u : β}, lJ ps x = some (j, u) → fP ps x = ps.eraseIdx j
 | [], x, j, u, h => by simp [lJ] at h
 | (k, q) :: r, x, j, u, h => by
   simp only [lJ] at h
   by_cases e : k = x
   · simp [e] at h
     obtain ⟨rfl, rfl⟩ := h
     simp [fP, e]
   · simp only [e, if_false, Option.map_eq_some_iff, Prod.mk.injEq] at h
     obtain ⟨p, h1, rfl, rfl⟩ := h
     simp [fP, e, yY (j := p.1) (u := p.2) h1]
theorem yZ {β : Type} : ∀ {ps : List (Int × β)} {x : Int}, lJ ps x = none → fP ps x = ps
 | [], x, _ => rfl
 | (k, q) :: r, x, h => by
   simp only [lJ] at h
   by_cases e : k = x
   · simp [e] at h
   · simp only [e, if_false, Option.map_eq_none_iff] at h
     simp [fP, e, yZ h]
section
variable {E : Env} {ti : Nat → TI} {A : Nat → Nat} {T : List (Nat × SV)} {n c : Nat} {B : List (Nat × TypeId × Nat)} {M Ms : List ((Nat × Nat) × SV)} {F Fs : List Fct} {o : Oper} {next : St → Prop} {a : Act} {w w' : World}
theorem eG (R : Value → List Value → List Fct → Prop) (ix : List Nat) {G : List Fct} {k : Call} {fo : Operand} {g : FuncId} {l : List SV} {d kb ty sz : Nat} {cs : List Value} (hc : aD E.P g = true)
   (hop : o.op = .call k) (hk : k.callee = .value fo) (hf : bF T fo = some (.f g [(kb, 0)])) (ha : jB T k.args.toList = some l) (hd : Dst E o d) (hB : iH B kb = some (ty, sz)) (hM : nE M kb 0 sz = some cs) (hG : FK F ix G) (hok : lD G)
   (hcall : ∀ A w ga, ga = A kb → WD E A n B M F w → Blk w ga ty cs → Calls E.P g ((l.map (SV.den A)) ++ [Value.pointer (some ⟨ga, 0, none⟩)]).toArray w (vG w ga ty sz G R))
   (hnext : ∀ v cs L, R v cs L → kI kb 0 (cs.map .v) M fun M' => next (.mk ((d, .v v) :: T) n (c + 1) B M' (L ++ jC ix 0 F))) :
   OpW (dI E o next T n c B M F) := by
 refine ⟨fun A a w hW hT => ?_⟩
 unfold Oper.wp
 rw [jL hT hc hop hk hf ha, Oper.upon_enter]
 refine (hcall A w (A kb) rfl hW (hW.blk (cQ hB) hM).1).mono ?_
 rintro e w' ⟨v, cs', L, rfl, he, hb, hl, hL, hoff, hR⟩
 have hn := hnext v cs' L hR
 rw [eJ] at hn
 refine ⟨_, ⟨_, hW.callPG (cQ hB) hG hok he hb hl hL, ?_⟩, hn⟩
 rw [hd.1]
 exact (hT.step w').put (v := .v v) hd.lt trivial
theorem eC0 {β : Type} {venc : β → Value} (hW : WD E A n B M F w) (hT : TD E A T n c a w) (k1 : Nat) {t kt et : TypeId} {x y : Operand} {r : Nat} {q : Int} {ps : List (Int × β)} {z : Value} {qk : IntKind}
   (hop : o.op = .lookup t x y false) (hx : bF T x = some (.v (.map (some r)))) (hy : bF T y = some (.v (.int .i64 q))) (hF : F[k1]? = some (kD r venc ps))
   (ht : E.P.underlying t = some (.map kt et)) (hkt : E.P.underlying kt = some (.int qk)) (hz : (E.P.info? et).bind (·.zero) = some z) :
   (execOp a.eval o).run E.P w = .ok (.value (match cL ps q with | some v => venc v | none => z)) w := by
 obtain ⟨es, clock, h1, h2⟩ := (hW.nth k1 hF).1
 have hx' := (aI hT hx).1
 have hy' := (aI hT hy).1
 simp only [SV.den] at hx' hy'
 rw [wS]
 simp only [execOp, hop, hx', hy', Instr.lookup, Sem.run_bind, underlying, run_program, Result.andThen_ok, ht, Sem.run_pure, dK h1, dN hkt, dV hkt venc q es ps h2]
 cases lJ ps q with
 | none =>
   cases hi : E.P.info? et with
   | none => rw [hi] at hz; simp at hz
   | some i =>
     rw [hi] at hz
     simp at hz
     simp [zeroValue, typeInfo, hi, hz]
 | some p => simp
theorem lM {β : Type} {venc : β → Value} (k1 : Nat) {t kt et : TypeId} {x y : Operand} {r : Nat} {q : Int} {ps : List (Int × β)} {d : Nat} {z : Value} {qk : IntKind}
   (hop : o.op = .lookup t x y false) (hx : bF T x = some (.v (.map (some r)))) (hy : bF T y = some (.v (.int .i64 q))) (hF : F[k1]? = some (kD r venc ps)) (hd : Dst E o d)
   (ht : E.P.underlying t = some (.map kt et)) (hkt : E.P.underlying kt = some (.int qk)) (hz : (E.P.info? et).bind (·.zero) = some z) (rv : Value) (hrv : (match cL ps q with | some v => venc v | none => z) = rv)
   (hnext : next (.mk ((d, .v rv) :: T) n (c + 1) B M F)) : OpW (opD E o Ms Fs next T n c B M F) := by
 subst hrv
 refine ⟨opD0.up fun hkf A a w hW hT => ?_⟩
 refine aW (eC0 hW hT k1 hop hx hy hF ht hkt hz) ?_
 rw [hd.1]
 exact ⟨_, _, F, hW, fun w2 => (hT.step w2).put (v := .v _) hd.lt trivial, hkf, hnext⟩
theorem eD0 {β : Type} {venc : β → Value} (hW : WD E A n B M F w) (hT : TD E A T n c a w) (k1 : Nat) (v : β) {t kt et : TypeId} {x y z : Operand} {r : Nat} {q : Int} {ps : List (Int × β)} {qk : IntKind} {s : SV}
   (hop : o.op = .mapUpdate t x y z) (hx : bF T x = some (.v (.map (some r)))) (hy : bF T y = some (.v (.int .i64 q))) (hz : bF T z = some s) (hs : ∀ A, s.den A = venc v) (hF : F[k1]? = some (kD r venc ps))
   (ht : E.P.underlying t = some (.map kt et)) (hkt : E.P.underlying kt = some (.int qk)) :
   ∃ ob, (execOp a.eval o).run E.P w = .ok .skip { w with heap := w.heap.setIfInBounds r ob } ∧ wR r venc (fW ps q v) { w with heap := w.heap.setIfInBounds r ob } := by
 obtain ⟨es, clock, h1, h2⟩ := (hW.nth k1 hF).1
 have hx' := (aI hT hx).1
 have hy' := (aI hT hy).1
 have hz' := (aI hT hz).1.trans (hs A)
 simp only [SV.den] at hx' hy'
 have hlt : r < w.heap.size := (Array.getElem?_eq_some_iff.1 h1).1
 cases hi : lJ ps q with
 | none =>
   refine ⟨.map (es.push { key := .int .i64 q, val := venc v, born := clock }) (clock + 1), ?_, ?_⟩
   · simp only [execOp, hop, hx', hy', hz', Instr.mapUpdate, Sem.run_bind, underlying, run_program, Result.andThen_ok, ht, Sem.run_pure, dK h1, dN hkt, dV hkt venc q es ps h2, hi, Option.map_none, fI h1]
   · refine ⟨es.push { key := .int .i64 q, val := venc v, born := clock }, clock + 1, by simp [hlt], ?_⟩
     rw [qR v hi]
     simp only [prs, Array.toList_push, List.map_append, kv] at h2 ⊢
     rw [h2]; rfl
 | some p =>
   obtain ⟨j, u⟩ := p
   obtain ⟨g1, g2⟩ := uH v hi
   have hkey : (es[j]?).map (·.key) = some (.int .i64 q) := by
     have := congrArg (fun l => l[j]?) h2
     simp only [prs, kv, List.getElem?_map, g2, Option.map_some, Array.getElem?_toList] at this
     cases he : es[j]? with
     | none => rw [he] at this; simp at this
     | some e => rw [he] at this; simp at this; simp [this.1]
   refine ⟨.map (es.modify j fun e => { e with key := .int .i64 q, val := venc v }) clock, ?_, ?_⟩
   · have hks : (Instr.keyThatStays (.int .i64 q) (.int .i64 q)).run E.P w = .ok (.int .i64 q) w := by
       have hsb : Instr.sameBits 10000 (.int .i64 q) (.int .i64 q) = true := by
         show Instr.sameBits (9999 + 1) (.int .i64 q) (.int .i64 q) = true
         simp [Instr.sameBits]
       simp [Instr.keyThatStays, hsb]
     simp only [execOp, hop, hx', hy', hz', Instr.mapUpdate, Sem.run_bind, underlying, run_program, Result.andThen_ok, ht, Sem.run_pure, dK h1, dN hkt, dV hkt venc q es ps h2, hi, Option.map_some, hkey, Option.getD_some, hks, fI h1]
   · refine ⟨es.modify j fun e => { e with key := .int .i64 q, val := venc v }, clock, by simp [hlt], ?_⟩
     rw [g1]
     simp only [prs, kv, Array.toList_modify, List.map_set] at h2 ⊢
     rw [← h2]
     apply List.ext_getElem?
     intro k
     simp only [List.getElem?_map, List.getElem?_modify, List.getElem?_set]
     by_cases e : j = k
     · subst e
       simp only [if_true]
       cases he : es.toList[j]? with
       | none =>
         have : es[j]? = none := by simpa using he
         rw [this] at hkey; simp at hkey
       | some x =>
         have hl : j < es.size := by simpa using (List.getElem?_eq_some_iff.1 he).1
         simp [hl]
     · simp [e]
theorem sZ {β : Type} {venc : β → Value} (k1 : Nat) (v : β) {t kt et : TypeId} {x y z : Operand} {r : Nat} {q : Int} {ps : List (Int × β)} {qk : IntKind} {s : SV}
   (hop : o.op = .mapUpdate t x y z) (hx : bF T x = some (.v (.map (some r)))) (hy : bF T y = some (.v (.int .i64 q))) (hz : bF T z = some s) (hs : ∀ A, s.den A = venc v) (hF : F[k1]? = some (kD r venc ps)) (hd : o.dst = none)
   (ht : E.P.underlying t = some (.map kt et)) (hkt : E.P.underlying kt = some (.int qk)) (qs : List (Int × β)) (hqs : fW ps q v = qs) (hkeep : kM Fs F → kM Fs (F.eraseIdx k1))
   (hnext : next (.mk T n (c + 1) B M (kD r venc qs :: F.eraseIdx k1))) : OpW (opD E o Ms Fs next T n c B M F) := by
 subst hqs
 refine ⟨fun hm hf A a w hW hT => ?_⟩
 obtain ⟨ob, h3, h4⟩ := eD0 hW hT k1 v hop hx hy hz hs hF ht hkt
 refine iT h3 ?_
 rw [hd]
 exact ⟨A, _, n, _, B, M, _, fun _ _ => rfl, Nat.le_refl _, fun _ h => h, hm, fun f hfs => List.mem_cons_of_mem _ (hkeep hf f hfs), hW.turnMap hF ob h4, fun w2 => hT.step w2, hnext⟩
theorem vJ {β : Type} {venc : β → Value} (k1 : Nat) {k : Call} {t tk kt et : TypeId} {x y : Operand} {r : Nat} {q : Int} {ps : List (Int × β)} {qk : IntKind}
   (hop : o.op = .call k) (hk : k.callee = .builtin .delete) (ha : k.args.toList = [x, y]) (hty : k.argTypes.toList = [t, tk])
   (hx : bF T x = some (.v (.map (some r)))) (hy : bF T y = some (.v (.int .i64 q))) (hF : F[k1]? = some (kD r venc ps)) (hd : o.dst = none)
   (ht : E.P.underlying t = some (.map kt et)) (hkt : E.P.underlying kt = some (.int qk)) (qs : List (Int × β)) (hqs : fP ps q = qs)
   (hnext : next (.mk T n (c + 1) B M (kD r venc qs :: F.eraseIdx k1))) : OpW (dI E o next T n c B M F) := by
 subst hqs
 refine ⟨fun A a w hW hT => ?_⟩
 obtain ⟨es, clock, h1, h2⟩ := (hW.nth k1 hF).1
 have hx' := (aI hT hx).1
 have hy' := (aI hT hy).1
 simp only [SV.den] at hx' hy'
 have hlt : r < w.heap.size := (Array.getElem?_eq_some_iff.1 h1).1
 have hargs : k.args = #[x, y] := by apply Array.ext'; simpa using ha
 have htys : k.argTypes = #[t, tk] := by apply Array.ext'; simpa using hty
 have key : ∃ ob, (Builtin.delete_ #[t, tk] o.type #[.map (some r), .int .i64 q]).run E.P w = .ok (.tuple #[]) { w with heap := w.heap.setIfInBounds r ob } ∧ wR r venc (fP ps q) { w with heap := w.heap.setIfInBounds r ob } := by
   cases hi : lJ ps q with
   | none =>
     refine ⟨.map es clock, ?_, ⟨es, clock, by simp [hlt], by rw [yZ hi]; exact h2⟩⟩
     simp [Builtin.delete_, underlying, ht, dK h1, dN hkt, dV hkt venc q es ps h2, hi, fI h1]
   | some p =>
     obtain ⟨j, u⟩ := p
     refine ⟨.map (es.eraseIdxIfInBounds j) clock, ?_, ⟨es.eraseIdxIfInBounds j, clock, by simp [hlt], ?_⟩⟩
     · simp [Builtin.delete_, underlying, ht, dK h1, dN hkt, dV hkt venc q es ps h2, hi, fI h1]
     · rw [yY hi]
       simp only [prs, kv] at h2 ⊢
       rw [Array.toList_eraseIdxIfInBounds, uL, h2, uL]
 obtain ⟨ob, h3, h4⟩ := key
 have hr : (execOp a.eval o).run E.P w = .ok (.value (.tuple #[])) { w with heap := w.heap.setIfInBounds r ob } := by
   simp only [execOp, hop, resolve, hk, hargs, htys, Sem.run_bind, Sem.run_pure, Result.andThen_ok, invoke, builtin, List.map_toArray, List.map_cons, List.map_nil, hx', hy', h3]
 refine aW hr ?_
 rw [hd]
 exact ⟨_, ⟨_, hW.turnMap hF ob h4, hT.step _⟩, hnext⟩
theorem zA {β : Type} {venc : β → Value} (k1 : Nat) {k : Call} {t kt et : TypeId} {x : Operand} {r : Nat} {ps : List (Int × β)} {d : Nat}
   (hop : o.op = .call k) (hk : k.callee = .builtin .len) (ha : k.args.toList = [x]) (hty : k.argTypes.toList = [t])
   (hx : bF T x = some (.v (.map (some r)))) (hF : F[k1]? = some (kD r venc ps)) (hd : Dst E o d) (ht : E.P.underlying t = some (.map kt et))
   (hnext : next (.mk ((d, .v (.int .i64 (ps.length : Int))) :: T) n c B M F)) : OpW (dI E o next T n c B M F) := by
 refine ⟨fun A a w hW hT => ?_⟩
 obtain ⟨es, clock, h1, h2⟩ := (hW.nth k1 hF).1
 have hx' := (aI hT hx).1
 simp only [SV.den] at hx'
 have hargs : k.args = #[x] := by apply Array.ext'; simpa using ha
 have htys : k.argTypes = #[t] := by apply Array.ext'; simpa using hty
 have hl : es.size = ps.length := by have := congrArg List.length h2; simpa [prs, kv] using this
 have hr : (execOp a.eval o).run E.P w = .ok (.value (.int .i64 (ps.length : Int))) w := by
   simp [execOp, hop, resolve, hk, hargs, htys, invoke, builtin, hx', Builtin.len_, underlying, ht, dK h1, hl, goInt]
 refine aW hr ?_
 rw [hd.1]
 exact ⟨_, ⟨_, hW, hT.put (v := .v (.int .i64 (ps.length : Int))) hd.lt trivial⟩, hnext⟩
end
end Go.Sx
namespace Go.Proofs.YtijmjecehppbfaaGreat
set_option maxRecDepth 100000
set_option maxHeartbeats 100000000
open Go Go.Sx Go.RowKit
structure Waiting where
 kind : Int
 on : Int
 arg : Int
 deriving DecidableEq
def cF0 (l : Waiting) : List Value := [.int .i64 l.kind, .int .i64 l.on, .int .i64 l.arg]
theorem tA : Enc cF0 3 := ⟨fun _ => rfl, fun _ u hu => by simp [cF0] at hu; rcases hu with rfl | rfl | rfl <;> rfl⟩
structure LH (β : Type) where
 q : Sl
 xs : List β
def LH.nil {β : Type} : LH β := ⟨⟨none, 0⟩, []⟩
def rD {β : Type} (h : LH β) : Value := h.q.val h.xs.length
def nL {β : Type} (ty : TypeId) (enc : β → List Value) (sz : Nat) (ps : List (Int × LH β)) : List Fct := ps.flatMap fun p => [own p.2.q ty enc sz p.2.xs]
def pm {β : Type} (ps : List (Int × LH β)) : List (Int × List β) := ps.map fun p => (p.1, p.2.xs)
def oG {β : Type} (m : List (Int × List β)) (e : Int × β) : List (Int × List β) := fW m e.1 ((cL m e.1).getD [] ++ [e.2])
def dX {β : Type} (es : List (Int × β)) : List (Int × List β) := es.foldl oG []
theorem jR {β : Type} (es : List (Int × β)) (e : Int × β) : dX (es ++ [e]) = oG (dX es) e := by simp [dX]
theorem tB {β : Type} (ps : List (Int × LH β)) (t : Int) : cL (pm ps) t = (cL ps t).map (·.xs) := by
 induction ps with
 | nil => rfl
 | cons p r ih =>
   obtain ⟨k, h⟩ := p
   show (if k = t then some h.xs else cL (pm r) t) = (if k = t then some h else cL r t).map (·.xs)
   by_cases e : k = t
   · simp [e]
   · simp [e, ih]
theorem mJ0 {β : Type} (ps : List (Int × LH β)) (t : Int) (h : LH β) : pm (fW ps t h) = fW (pm ps) t h.xs := by
 induction ps with
 | nil => rfl
 | cons p r ih =>
   obtain ⟨k, u⟩ := p
   show pm (if k = t then (k, h) :: r else (k, u) :: fW r t h) = (if k = t then (k, h.xs) :: pm r else (k, u.xs) :: fW (pm r) t h.xs)
   by_cases e : k = t
   · simp [e, pm]
   · rw [if_neg e, if_neg e]
     show (k, u.xs) :: pm (fW r t h) = _
     rw [ih]
theorem jR0 {β : Type} (ps : List (Int × LH β)) (t : Int) (w : β) (y : Sl) : pm (fW ps t ⟨y, ((cL ps t).getD LH.nil).xs ++ [w]⟩) = oG (pm ps) (t, w) := by
 rw [mJ0, oG, tB]
 cases cL ps t <;> rfl
theorem pY {β : Type} {ty : TypeId} {enc : β → List Value} {sz : Nat} : ∀ {ps : List (Int × LH β)} {t : Int} {h : LH β}, cL ps t = some h → (nL ty enc sz ps).Perm ([own h.q ty enc sz h.xs] ++ nL ty enc sz (fP ps t))
 | [], t, h, e => by simp [cL] at e
 | (k, u) :: r, t, h, e => by
   simp only [cL] at e
   by_cases hk : k = t
   · simp only [hk, if_true, Option.some.injEq] at e
     subst e
     rw [show fP ((k, u) :: r) t = r from by simp [fP, hk]]
     exact .refl _
   · simp only [hk, if_false] at e
     rw [show fP ((k, u) :: r) t = (k, u) :: fP r t from by simp [fP, hk]]
     have ih := pY (ty := ty) (enc := enc) (sz := sz) e
     show (own u.q ty enc sz u.xs :: nL ty enc sz r).Perm (own h.q ty enc sz h.xs :: own u.q ty enc sz u.xs :: nL ty enc sz (fP r t))
     exact (List.Perm.cons _ ih).trans (List.Perm.swap _ _ _)
theorem tC {β : Type} : ∀ {ps : List (Int × β)} {t : Int}, cL ps t = none → fP ps t = ps
 | [], _, _ => rfl
 | (k, u) :: r, t, e => by
   simp only [cL] at e
   by_cases hk : k = t
   · simp [hk] at e
   · simp only [hk, if_false] at e
     simp [fP, hk, tC e]
theorem jG {β : Type} {ty : TypeId} {enc : β → List Value} {sz : Nat} (t : Int) (h : LH β) : ∀ (ps : List (Int × LH β)), ([own h.q ty enc sz h.xs] ++ nL ty enc sz (fP ps t)).Perm (nL ty enc sz (fW ps t h))
 | [] => .refl _
 | (k, u) :: r => by
   by_cases hk : k = t
   · rw [show fP ((k, u) :: r) t = r from by simp [fP, hk], show fW ((k, u) :: r) t h = (k, h) :: r from by simp [fW, hk]]
     exact .refl _
   · rw [show fP ((k, u) :: r) t = (k, u) :: fP r t from by simp [fP, hk], show fW ((k, u) :: r) t h = (k, u) :: fW r t h from by simp [fW, hk]]
     show (own h.q ty enc sz h.xs :: own u.q ty enc sz u.xs :: nL ty enc sz (fP r t)).Perm (own u.q ty enc sz u.xs :: nL ty enc sz (fW r t h))
     exact (List.Perm.swap _ _ _).trans (List.Perm.cons _ (jG t h r))
theorem Shift.rowOut {FF : List Fct} {β : Type} {ty : TypeId} {enc : β → List Value} {sz : Nat} (k : Nat) {ps : List (Int × LH β)} (t : Int) (hk : FF[k]? = some (fO (nL ty enc sz ps))) :
   Shift FF (own ((cL ps t).getD LH.nil).q ty enc sz ((cL ps t).getD LH.nil).xs :: fO (nL ty enc sz (fP ps t)) :: FF.eraseIdx k) := by
 cases h : cL ps t with
 | some u => exact Shift.splitO k (L := [own u.q ty enc sz u.xs]) hk (pY h)
 | none =>
   rw [tC h]
   intro E A n B M w hW
   have h1 := Shift.splitO k (L := []) (G' := nL ty enc sz ps) hk (.refl _) E A n B M w hW
   have hn : dQ (own (LH.nil : LH β).q ty enc sz (LH.nil : LH β).xs) := ⟨rfl, rfl, rfl, rfl⟩
   obtain ⟨n1, n2, n3⟩ := jJ hn w
   refine ⟨h1.key, h1.inj, h1.mem, h1.a0, h1.n0, h1.ext, fun f hf => ?_, ?_⟩
   · rcases List.mem_cons.1 hf with rfl | hf
     · exact ⟨n1, fun b hb => (n2 b hb).elim, fun _ b hb => (n2 b hb).elim⟩
     · exact h1.fct f hf
   · rw [List.pairwise_cons]
     exact ⟨fun g _ _ b hb => (n2 b hb).elim, h1.dj⟩
abbrev fMW (r : Nat) (ps : List (Int × LH Waiting)) : Fct := kD r rD ps
abbrev rW (ps : List (Int × LH Waiting)) : List Fct := nL 179 cF0 3 ps
abbrev rI (ps : List (Int × LH Int)) : List Fct := nL 3 aJ 1 ps
theorem uM (t kind on arg : Int) (g r : Nat) (ps : List (Int × LH Waiting)) (w : World) (hg : Blk w g 173 [.map (some r)]) (h : AtG w [fMW r ps, fO (rW ps)] []) (hoff : ∀ f ∈ [fMW r ps, fO (rW ps)] ++ [], ∀ b, f.foot b → b ≠ g)
   (hb : ((cL ps t).getD LH.nil).xs.length ≤ 1048576) :
   Calls Tryz.prog 166 #[.int .i64 t, .int .i64 kind, .int .i64 on, .int .i64 arg, .pointer (some ⟨g, 0, none⟩)] w
     (vG w g 173 1 [fMW r ps, fO (rW ps)] fun v cs L => v = .tuple #[] ∧ cs = [.map (some r)] ∧ ∃ qs : List (Int × LH Waiting), pm qs = oG (pm ps) (t, ⟨kind, on, arg⟩) ∧ L = [fMW r qs, fO (rW qs)]) := by
 refine vI Tryz.func166 rfl aA w _ rfl _ rfl _ 173 _ 1 rfl hg _ _ h hoff trivial [.int .i64 t, .int .i64 kind, .int .i64 on, .int .i64 arg] _ rfl rfl ?_
 obtain ⟨u, hu⟩ : ∃ u, u = (cL ps t).getD LH.nil := ⟨_, rfl⟩
 have hpm : ∀ y, pm (fW ps t ⟨y, u.xs ++ [⟨kind, on, arg⟩]⟩) = oG (pm ps) (t, ⟨kind, on, arg⟩) := fun y => by rw [hu]; exact jR0 ps t _ y
 refine jP (Shift.rowOut 1 t rfl) ?_
 rw [← hu] at hb ⊢
 refine aF aA z102 z102 z102 200 [((0, 0), .v (.map (some r)))] [] [] z146 z149 trivial rfl ?_
 refine BothW.mk ?_ ?_
 · refine lM 2 (qk := .i64) (kt := 3) (et := 177) (z := .slice none 0 0) rfl rfl rfl rfl ⟨rfl, rfl⟩ z102 z102 z102 (u.q.val u.xs.length) (by rw [hu]; cases cL ps t <;> rfl) ?_
   refine AllSl.mk fun b => ?_
   refine bR (ti := aU tab) tA 1 aA (ys := [⟨kind, on, arg⟩]) rfl rfl rfl rfl rfl rfl rfl rfl rfl (by decide) ⟨rfl, rfl⟩ rfl z35 z43 z43 z100 (fun y => ?_)
   refine sZ 3 (⟨y, u.xs ++ [⟨kind, on, arg⟩]⟩ : LH Waiting) (qk := .i64) (kt := 3) (et := 177) rfl rfl rfl rfl (fun _ => rfl) rfl rfl z102 z102 _ rfl z100 ?_
   refine aO (.joinO [1, 3] (Gs := [[_], _]) z136 rfl (G := rW (fW ps t ⟨y, u.xs ++ [⟨kind, on, arg⟩]⟩)) (.trans (.of_eq (by simp)) (jG t (⟨y, u.xs ++ [⟨kind, on, arg⟩]⟩ : LH Waiting) ps))) ?_
   exact vH [1, 0] ⟨rfl, rfl, _, hpm y, rfl⟩ rfl rfl z137 rfl ⟨rfl, rfl, trivial⟩ (fun _ => rfl)
 · refine AllSl.mk fun b => ?_
   refine lM 3 (qk := .i64) (kt := 3) (et := 177) (z := .slice none 0 0) rfl rfl rfl rfl ⟨rfl, rfl⟩ z102 z102 z102 (u.q.val u.xs.length) (by rw [hu]; cases cL ps t <;> rfl) ?_
   refine bR (ti := aU tab) tA 1 aA (ys := [⟨kind, on, arg⟩]) rfl rfl rfl rfl rfl rfl rfl rfl rfl (by decide) ⟨rfl, rfl⟩ rfl z35 z43 z43 z100 (fun y => ?_)
   refine sZ 3 (⟨y, u.xs ++ [⟨kind, on, arg⟩]⟩ : LH Waiting) (qk := .i64) (kt := 3) (et := 177) rfl rfl rfl rfl (fun _ => rfl) rfl rfl z102 z102 _ rfl z100 ?_
   refine aO (.joinO [1, 3] (Gs := [[_], _]) z136 rfl (G := rW (fW ps t ⟨y, u.xs ++ [⟨kind, on, arg⟩]⟩)) (.trans (.of_eq (by simp)) (jG t (⟨y, u.xs ++ [⟨kind, on, arg⟩]⟩ : LH Waiting) ps))) ?_
   exact vH [1, 0] ⟨rfl, rfl, _, hpm y, rfl⟩ rfl rfl z137 rfl ⟨rfl, rfl, trivial⟩ (fun _ => rfl)
end Go.Proofs.YtijmjecehppbfaaGreat
