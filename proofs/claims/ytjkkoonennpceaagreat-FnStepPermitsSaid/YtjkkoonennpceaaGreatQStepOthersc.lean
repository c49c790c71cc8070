/- FnStepOthers: texts that its proof stands on, part 3. -/
import Derived.Laws.StructEq
import Derived.Laws.OwnMore
import Derived.Laws.Strings
import Derived.Laws.IdiomStrings
import Derived.Laws.Strings2
import Derived.Laws.Slices
import Derived.Laws.Concat
import Derived.Test.YtjkkoonennpceaaGreatQStepOthersb
namespace Go.Proofs.YtjkkoonennpceaaGreat
open Go Go.Sx Go.RowKit
theorem list2 {α β : Type} {fs : List α} {h : α → β} {a b : β} (hF : fs.map h = [a, b]) : ∃ f g, fs = [f, g] ∧ h f = a ∧ h g = b := by
 cases fs with
 | nil => simp at hF
 | cons f r =>
   cases r with
   | nil => simp at hF
   | cons g r =>
     cases r with
     | nil => simp at hF; exact ⟨f, g, rfl, hF.1, hF.2⟩
     | cons _ _ => simp at hF
theorem part_one {P : Program} {t : TypeId} {d : TypeDesc} (hd : P.underlying t = some d) (ha : isAggD d = false) (cs : Array Value) (off : Nat) (v : Value) (h : cs[off]? = some v) (w : World) : (part t cs off).run P w = .ok v w := by
 unfold part
 rw [Sem.run_bind, run_isAgg hd, ha]
 simp [h]
theorem eqLet (x y : Letter) (w : World) : (binOp .neq 144 (.agg (cLet x).toArray) (.agg (cLet y).toArray)).run Tryz.prog w = .ok (.bool (decide (x ≠ y))) w := by
 have hS : Tryz.prog.underlying 144 = some (.struct (Tryz.prog.fieldsOf 144)) := by kernel_rfl
 have hI : Tryz.prog.underlying 3 = some (.int .i64) := by kernel_rfl
 have hF : (Tryz.prog.fieldsOf 144).toList.map (fun f => (f.name == "_", f.type, f.offset)) = [(false, 3, 0), (false, 3, 1)] := by kernel_rfl
 have hp : Tryz.prog.stoodInHeld 144 = false := by kernel_rfl
 obtain ⟨xt, xv⟩ := x
 obtain ⟨yt, yv⟩ := y
 rw [run_neq_struct, show (10000 : Nat) = 9999 + 1 from rfl, run_equalIn_agg w 9999 144 _ _ hS hp]
 obtain ⟨f, g, e, hf, hg⟩ := list2 hF
 simp only [Prod.mk.injEq] at hf hg
 obtain ⟨f1, f2, f3⟩ := hf
 obtain ⟨g1, g2, g3⟩ := hg
 have f1' : f.name ≠ "_" := by simpa using f1
 have g1' : g.name ≠ "_" := by simpa using g1
 have p1 := part_one hI rfl (cLet ⟨xt, xv⟩).toArray 0 (.int .i64 xt) rfl w
 have p2 := part_one hI rfl (cLet ⟨yt, yv⟩).toArray 0 (.int .i64 yt) rfl w
 have p3 := part_one hI rfl (cLet ⟨xt, xv⟩).toArray 1 (.int .i64 xv) rfl w
 have p4 := part_one hI rfl (cLet ⟨yt, yv⟩).toArray 1 (.int .i64 yv) rfl w
 have q1 : (Op.equalIn 9999 3 (.int .i64 xt) (.int .i64 yt)).run Tryz.prog w = .ok (xt == yt) w := run_equalIn_int w 9998 3 .i64 .i64 xt yt hI
 have q2 : (Op.equalIn 9999 3 (.int .i64 xv) (.int .i64 yv)).run Tryz.prog w = .ok (xv == yv) w := run_equalIn_int w 9998 3 .i64 .i64 xv yv hI
 simp only [e, Op.eqFields, f2, f3, g2, g3, f1', g1', ne_eq, not_false_eq_true, if_true, Sem.run_bind, p1, p2, Result.andThen_ok, q1]
 by_cases h1 : xt = yt
 · subst h1
   by_cases h2 : xv = yv
   · subst h2; simp [p3, q2]
   · simp [h2, p3, p4, q2]
 · simp [h1]
set_option maxRecDepth 100000 in
theorem eqLets_c (i j : Sl) (xs ys : List Letter) (w : World) (h : At w [slo i cLet 2 xs, slo j cLet 2 ys]) (hb : xs.length ≤ 4294967296) (hb2 : ys.length ≤ 4294967296) :
   Calls Tryz.prog 100 #[i.val xs.length, j.val ys.length] w (Ret w fun v L => v = .bool (decide (xs = ys)) ∧ L = []) := by
 refine calls2 Tryz.func100 rfl tabOk w _ rfl _ rfl _ h ⟨rfl, rfl, rfl, rfl, trivial⟩ _ _ (by decide) ?_
 refine CaseB.mk (fun h => ?_) (fun h => ?_)
 · have hne : xs ≠ ys := by rintro rfl; simp at h
   refine ret0 ⟨?_, rfl⟩ (fun _ => rfl)
   simp [hne]
 · have hl : xs.length = ys.length := by simp at h; omega
   refine LoopW.mk ⟨{ k : Nat // k ≤ xs.length ∧ xs.take k = ys.take k },
     fun p => .mk [(0, .v (i.val xs.length)), (1, .v (j.val ys.length)), (12, .v (.int .i64 xs.length)), (13, .v (.int .i64 p.1))] 0 0 [] [] [slo i cLet 2 xs, slo j cLet 2 ys],
     fun p => xs.length - p.1, ⟨0, Nat.zero_le _, rfl⟩, ?_, ?_⟩
   · exact weak_mk [0, 1] zw2 zw0 zw2 zw5 zw4 rfl rfl
   · rintro ⟨k, hk, he⟩
     refine CaseB.mk (fun h => ?_) (fun h => ?_)
     · have hlt : k < xs.length := by simpa using h
       have hlt2 : k < ys.length := by omega
       obtain ⟨q1, q2⟩ := take_eq_succ he hlt hlt2
       refine draw_start tabOk z95 z95 z95 200 [] [0, 1] [_, _] trivial trivial ⟨rfl, rfl, trivial⟩ rfl ?_
       refine d_idx (ti := tiOf tab) encLet tabOk rfl rfl rfl rfl rfl ⟨rfl, rfl⟩ z30 k rfl z38 (fun ad => ?_)
       refine d_idx (ti := tiOf tab) encLet tabOk rfl rfl rfl rfl rfl ⟨rfl, rfl⟩ z30 k rfl z38 (fun ad2 => ?_)
       refine d_bin rfl rfl rfl ⟨rfl, rfl⟩ (.bool (decide (xs[k] ≠ ys[k]))) (fun w => (run_eqGuard_agg w _ _ _ _ _ _ z95)) (fun w => (eqLet _ _ w)) ?_
       refine CaseB.mk (fun h => ?_) (fun h => ?_)
       · have hne := q2 z89
         refine ret0 ⟨?_, rfl⟩ (fun _ => rfl)
         simp [hne]
       · have heq := q1 z89
         have hw := wrapN k _ hlt hb
         refine ⟨⟨k + 1, by omega, heq⟩, ?_, by simp; omega⟩
         exact weak_mk [0, 1] zw1 zw0 zw1 zw5 zw3 rfl rfl
     · have hge : xs.length ≤ k := by simpa using h
       have heq : xs = ys := by rw [List.take_of_length_le hge, List.take_of_length_le (by omega)] at he; exact he
       refine ret0 ⟨?_, rfl⟩ (fun _ => rfl)
       simp [heq]
set_option maxRecDepth 100000 in
theorem wkInts_c (i j : Sl) (xs ys : List Int) (w : World) (h : At w [slo i cInt 1 xs, slo j cInt 1 ys]) (hb : xs.length ≤ 4294967296) (hb2 : ys.length ≤ 4294967296) :
   Calls Tryz.prog 30 #[i.val xs.length, j.val ys.length] w (Ret w fun v L => v = .bool (decide (xs = ys)) ∧ L = []) := by
 refine calls2 Tryz.func30 rfl tabOk w _ rfl _ rfl _ h ⟨rfl, rfl, rfl, rfl, trivial⟩ _ _ (by decide) ?_
 refine CaseB.mk (fun h => ?_) (fun h => ?_)
 · have hne : xs ≠ ys := by rintro rfl; simp at h
   refine ret0 ⟨?_, rfl⟩ (fun _ => rfl)
   simp [hne]
 · have hl : xs.length = ys.length := by simp at h; omega
   refine LoopW.mk ⟨{ k : Nat // k ≤ xs.length ∧ xs.take k = ys.take k },
     fun p => .mk [(0, .v (i.val xs.length)), (1, .v (j.val ys.length)), (5, .v (.int .i64 p.1))] 0 0 [] [] [slo i cInt 1 xs, slo j cInt 1 ys],
     fun p => xs.length - p.1, ⟨0, Nat.zero_le _, rfl⟩, ?_, ?_⟩
   · exact weak_mk [0, 1] zw2 zw0 zw2 zw5 zw4 rfl rfl
   · rintro ⟨k, hk, he⟩
     refine CaseB.mk (fun h => ?_) (fun h => ?_)
     · have hlt : k < xs.length := by simpa using h
       have hlt2 : k < ys.length := by omega
       obtain ⟨q1, q2⟩ := take_eq_succ he hlt hlt2
       refine draw_start tabOk z95 z95 z95 200 [] [0, 1] [_, _] trivial trivial ⟨rfl, rfl, trivial⟩ rfl ?_
       refine d_idx (ti := tiOf tab) encInt tabOk rfl rfl rfl rfl rfl ⟨rfl, rfl⟩ z30 k rfl z38 (fun ad => ?_)
       refine d_idx (ti := tiOf tab) encInt tabOk rfl rfl rfl rfl rfl ⟨rfl, rfl⟩ z30 k rfl z38 (fun ad2 => ?_)
       refine CaseB.mk (fun h => ?_) (fun h => ?_)
       · have hne := q2 z89
         refine ret0 ⟨?_, rfl⟩ (fun _ => rfl)
         simp [hne]
       · have heq := q1 z89
         have hw := wrapN k _ hlt hb
         refine ⟨⟨k + 1, by omega, heq⟩, ?_, by simp; omega⟩
         exact weak_mk [0, 1] zw1 zw0 zw1 zw5 zw3 rfl rfl
     · have hge : xs.length ≤ k := by simpa using h
       have heq : xs = ys := by rw [List.take_of_length_le hge, List.take_of_length_le (by omega)] at he; exact he
       refine ret0 ⟨?_, rfl⟩ (fun _ => rfl)
       simp [heq]
set_option maxHeartbeats 4000000 in
set_option maxRecDepth 100000 in
theorem copy_c (m : Chan) (i s g : Sl) (w : World) (h : At w [slo i cInt 1 m.items, slo s cLet 2 m.senders, slo g cInt 1 m.getters]) (hb : m.small) :
   Calls Tryz.prog 145 #[chanV m i s g] w (Ret w fun v L => ∃ i' s' g' : Sl, v = chanV m i' s' g' ∧ L = [own i' 3 cInt 1 m.items, own s' 144 cLet 2 m.senders, own g' 3 cInt 1 m.getters]) := by
 obtain ⟨b1, b2, b3⟩ := hb
 refine calls1 Tryz.func145 rfl tabOk w _ rfl _ rfl _ h z129 _ (by decide) ?_
 refine draw_start tabOk z95 z95 z95 200 [((0, 0), .v (.int .i64 m.room)), ((0, 1), .v (i.val m.items.length)), ((0, 2), .v (s.val m.senders.length)), ((0, 3), .v (g.val m.getters.length)), ((0, 4), .v (.bool m.closed))] [0, 1, 2] [_, _, _] z108 z122 ⟨rfl, rfl, rfl, trivial⟩ rfl ?_
 repeat' ((conv => whnf); (first
   | refine BothW.mk ?_ ?_
   | refine AllSl.mk fun y => ?_
   | (refine opd_app rfl rfl ?_; refine d_appK (ti := tiOf tab) encInt tabOk (xs := ([] : List Int)) rfl rfl rfl rfl rfl rfl rfl rfl rfl (by decide) ⟨rfl, rfl⟩ z34 z30 z38 z38 z93 (fun y => ?_))
   | (refine opd_app rfl rfl ?_; refine d_appK (ti := tiOf tab) encLet tabOk (xs := ([] : List Letter)) rfl rfl rfl rfl rfl rfl rfl rfl rfl (by decide) ⟨rfl, rfl⟩ z34 z30 z38 z38 z93 (fun y => ?_))
   | fail))
 all_goals
   exact retw [2, 1, 0] ⟨_, _, _, rfl, rfl⟩ z117 rfl ⟨rfl, rfl, rfl, trivial⟩ (fun _ => rfl)
set_option maxRecDepth 100000 in
theorem l5Threads_c (s : Sl) (l : List Letter) (w : World) (h : At w [slo s cLet 2 l]) (hb : l.length ≤ 4294967296) :
   Calls Tryz.prog 118 #[s.val l.length] w (Ret w fun v L => ∃ y : Sl, v = y.val ((l.take 7).map Letter.t).length ∧ L = [own y 3 cInt 1 ((l.take 7).map Letter.t)]) := by
 refine calls1 Tryz.func118 rfl tabOk w _ rfl _ rfl _ h ⟨rfl, rfl, trivial⟩ _ (by decide) ?_
 refine AllSl.mk fun y0 => ?_
 refine LoopW.mk ⟨{ p : Nat × Sl // p.1 ≤ l.length ∧ p.1 ≤ 7 },
   fun p => .mk [(0, .v (s.val l.length)), (3, .v (p.1.2.val ((l.take p.1.1).map Letter.t).length)), (4, .v (.int .i64 p.1.1))] 0 0 [] [] [own p.1.2 3 cInt 1 ((l.take p.1.1).map Letter.t), slo s cLet 2 l],
   fun p => l.length - p.1.1, ⟨(0, y0), Nat.zero_le _, by omega⟩, ?_, ?_⟩
 · exact weak_mk [0, 1] zw2 zw0 zw2 zw5 zw4 rfl rfl
 · rintro ⟨⟨k, out⟩, hk, hk7⟩
   simp only at hk hk7
   have hend : ¬ (k < l.length ∧ k ≤ 6) → (l.take k).map Letter.t = (l.take 7).map Letter.t := fun hn => by
     rcases Nat.lt_or_ge k l.length with h1 | h1
     · have : k = 7 := by omega
       rw [this]
     · rw [List.take_of_length_le h1, List.take_of_length_le (by omega)]
   refine CaseB.mk (fun h => ?_) (fun h => ?_)
   · have hlt : k < l.length := by simpa using h
     refine CaseB.mk (fun h => ?_) (fun h => ?_)
     · have h6 : k ≤ 6 := by simp at h; omega
       have hT : (l.take (k + 1)).map Letter.t = (l.take k).map Letter.t ++ [l[k].t] := by
         rw [List.take_succ_eq_append_getElem hlt, List.map_append]; rfl
       refine stop_idx encLet tabOk rfl rfl rfl rfl rfl ⟨rfl, rfl⟩ z30 k rfl z38 (fun ad => ?_)
       refine AllSl.mk fun y => ?_
       refine stop_app encInt 1 tabOk (ys := [l[k].t]) rfl rfl rfl rfl rfl rfl rfl rfl rfl (by decide) ⟨rfl, rfl⟩ rfl z30 z38 z38 (fun z => ?_)
       refine ⟨⟨(k + 1, z), by omega, by omega⟩, ?_, by simp; omega⟩
       have hw := wrapN k _ hlt hb
       exact weak_mk [0, 2] zw10 zw0 zw10 zw5 zw24 rfl rfl
     · have h6 : ¬ k ≤ 6 := by simp at h; omega
       have hT := hend (fun h => h6 h.2)
       exact retw [0] ⟨out, rfl, rfl⟩ ⟨.inl ⟨_, rfl, z74⟩, trivial⟩ rfl ⟨rfl, trivial⟩ (fun _ => z74)
   · have hlt : ¬ k < l.length := by simpa using h
     have hT := hend (fun h => hlt h.1)
     exact retw [0] ⟨out, rfl, rfl⟩ ⟨.inl ⟨_, rfl, z74⟩, trivial⟩ rfl ⟨rfl, trivial⟩ (fun _ => z74)
theorem chan_eq (m k : Chan) : m = k ↔ m.room = k.room ∧ m.closed = k.closed ∧ m.items = k.items ∧ m.senders = k.senders ∧ m.getters = k.getters := by
 cases m; cases k; simp only [Chan.mk.injEq]; constructor
 · rintro ⟨h1, h2, h3, h4, h5⟩; exact ⟨h1, h5, h2, h3, h4⟩
 · rintro ⟨h1, h2, h3, h4, h5⟩; exact ⟨h1, h3, h4, h5, h2⟩
set_option maxRecDepth 100000 in
theorem same_c (m k : Chan) (i s g i2 s2 g2 : Sl) (w : World) (h : At w [slo i cInt 1 m.items, slo s cLet 2 m.senders, slo g cInt 1 m.getters, slo i2 cInt 1 k.items, slo s2 cLet 2 k.senders, slo g2 cInt 1 k.getters]) (hb : m.small) (hb2 : k.small) :
   Calls Tryz.prog 53 #[chanV m i s g, chanV k i2 s2 g2] w (Ret w fun v L => v = .bool (decide (m = k)) ∧ L = []) := by
 obtain ⟨b1, b2, b3⟩ := hb
 obtain ⟨c1, c2, c3⟩ := hb2
 refine calls2 Tryz.func53 rfl tabOk w _ rfl _ rfl _ h ⟨rfl, rfl, rfl, rfl, rfl, rfl, rfl, rfl, rfl, rfl, rfl, rfl, trivial⟩ _ _ (by decide) ?_
 refine CaseB.mk (fun h1 => ?_) (fun h1 => ?_)
 · refine CaseB.mk (fun h2 => ?_) (fun h2 => ?_)
   · refine stop_call _ cl45 rfl rfl rfl rfl ⟨rfl, rfl⟩ (fun A w hW => eqInts_c i i2 m.items k.items w ⟨z29, z29, trivial⟩ b1 c1) ?_
     rintro v L ⟨rfl, rfl⟩
     refine CaseB.mk (fun h3 => ?_) (fun h3 => ?_)
     · refine stop_call _ cl100 rfl rfl rfl rfl ⟨rfl, rfl⟩ (fun A w hW => eqLets_c s s2 m.senders k.senders w ⟨z29, z29, trivial⟩ b2 c2) ?_
       rintro v L ⟨rfl, rfl⟩
       refine CaseB.mk (fun h4 => ?_) (fun h4 => ?_)
       · refine stop_call _ cl45 rfl rfl rfl rfl ⟨rfl, rfl⟩ (fun A w hW => eqInts_c g g2 m.getters k.getters w ⟨z29, z29, trivial⟩ b3 c3) ?_
         rintro v L ⟨rfl, rfl⟩
         refine ret0 ⟨?_, rfl⟩ (fun _ => rfl)
         simp at h1 h2 h3 h4
         simp [chan_eq, h1, h2, h3, h4]
       · refine ret0 ⟨?_, rfl⟩ (fun _ => rfl)
         simp at h4
         simp [chan_eq, h4]
     · refine ret0 ⟨?_, rfl⟩ (fun _ => rfl)
       simp at h3
       simp [chan_eq, h3]
   · refine ret0 ⟨?_, rfl⟩ (fun _ => rfl)
     simp at h2
     simp [chan_eq, h2]
 · refine ret0 ⟨?_, rfl⟩ (fun _ => rfl)
   simp at h1
   simp [chan_eq, h1]
end Go.Proofs.YtjkkoonennpceaaGreat
namespace Go.Sx
open Go Go.RowKit
def gfoot (G : List Fct) (b : Nat) : Prop := ∃ f ∈ G, f.foot b
structure NewG (w w' : World) (G L : List Fct) : Prop where
 all : ∀ f ∈ L, f.P w' ∧ f.old = false ∧ ∀ b, f.foot b → (w.heap.size ≤ b ∨ gfoot G b) ∧ b < w'.heap.size
 dj : L.Pairwise Dj
def RetG (w : World) (G : List Fct) (R : Value → List Fct → Prop) : Ending → World → Prop := fun e w' =>
 ∃ v L, e = .returned v ∧ ExtX (gfoot G) w w' ∧ NewG w w' G L ∧ R v L
def RetPG (w : World) (g : Nat) (ty : TypeId) (sz : Nat) (G : List Fct) (R : Value → List Value → List Fct → Prop) : Ending → World → Prop := fun e w' =>
 ∃ v cs L, e = .returned v ∧ ExtX (fun b => b = g ∨ gfoot G b) w w' ∧ Blk w' g ty cs ∧ cs.length = sz ∧ NewG w w' G L ∧ (∀ f ∈ L, ∀ b, f.foot b → b ≠ g) ∧ R v cs L
def grantOk : List Fct → Prop
 | [] => True
 | f :: r => f.isOwn = true ∧ f.old = false ∧ grantOk r
theorem grantOk_all : ∀ {F : List Fct}, grantOk F → ∀ f ∈ F, f.isOwn = true ∧ f.old = false
 | [], _, f, hf => by cases hf
 | g :: r, h, f, hf => by
   rcases List.mem_cons.1 hf with rfl | hf
   · exact ⟨h.1, h.2.1⟩
   · exact grantOk_all h.2.2 f hf
structure AtG (w : World) (G Fo : List Fct) : Prop where
 at_ : At w (G ++ Fo)
 ok : grantOk G
 dj : (G ++ Fo).Pairwise Dj
abbrev mkEnvG (P : Program) (w : World) (N : Nat) (G : List Fct) : Env := ⟨P, w, gfoot G, N, 0, fun _ => 0⟩
abbrev mkEnvPG (P : Program) (w : World) (N g : Nat) (G : List Fct) : Env := ⟨P, w, fun b => b = g ∨ gfoot G b, N, 1, fun _ => g⟩
theorem WD.initG (P : Program) (w : World) (N : Nat) (A : Nat → Nat) {G Fo : List Fct} (h : AtG w G Fo) (ho : initOk Fo) : WD (mkEnvG P w N G) A 0 [] [] (G ++ Fo) w := by
 refine ⟨by simp, by simp, by simp [lookM], by simp, Nat.le_refl _, ExtX.refl _ _, fun f hf => ?_, h.dj⟩
 obtain ⟨h1, h2⟩ := At_all h.at_ f hf
 refine ⟨h1, fun b hb => ⟨h2 b hb, by simp⟩, fun e b hb => .inr ?_⟩
 rcases List.mem_append.1 hf with hf | hf
 · exact ⟨f, hf, hb⟩
 · rw [(initOk_all ho f hf).2] at e; cases e
theorem WD.initPG (P : Program) (w : World) (N g : Nat) (ty : TypeId) (cs : List Value) {G Fo : List Fct} (hg : Blk w g ty cs) (h : AtG w G Fo) (hoff : ∀ f ∈ G ++ Fo, ∀ b, f.foot b → b ≠ g) (ho : initOk Fo) :
   WD (mkEnvPG P w N g G) (fun _ => g) 1 [(0, ty, cs.length)] (storeL 0 0 (cs.map .v) []) (G ++ Fo) w := by
 have hlt : g < w.heap.size := (Array.getElem?_eq_some_iff.1 hg).1
 refine ⟨?_, ?_, ?_, fun k hk => rfl, Nat.le_refl _, ExtX.refl _ _, fun f hf => ?_, h.dj⟩
 · intro k ty' sz hk
   simp only [List.mem_singleton, Prod.mk.injEq] at hk
   obtain ⟨rfl, rfl, rfl⟩ := hk
   exact ⟨Nat.zero_lt_one, hlt, .inr (.inl rfl), _, hg, by simp⟩
 · intro k ty1 sz1 k' ty2 sz2 h1 h2 _
   simp only [List.mem_singleton, Prod.mk.injEq] at h1 h2
   rw [h1.1, h2.1]
 · intro k o v hv
   rw [lookM_storeL] at hv
   split at hv
   · rename_i hc
     obtain ⟨rfl, _, hc3⟩ := hc
     rw [Nat.sub_zero, List.getElem?_map] at hv
     cases hx : cs[o]? with
     | none => rw [hx] at hv; simp at hv
     | some u =>
       rw [hx] at hv; simp at hv; subst hv
       refine ⟨⟨ty, cs.length, by simp⟩, ?_, trivial⟩
       rw [cell_of_row _ _ _ _ _ _ hg]
       show cs.toArray[o]? = some u
       simpa using hx
   · simp [lookM] at hv
 · obtain ⟨h1, h2⟩ := At_all h.at_ f hf
   refine ⟨h1, fun b hb => ⟨h2 b hb, fun k ty sz _ => (hoff f hf b hb).symm⟩, fun e b hb => .inr (.inr ?_)⟩
   rcases List.mem_append.1 hf with hf | hf
   · exact ⟨f, hf, hb⟩
   · rw [(initOk_all ho f hf).2] at e; cases e
section
variable {P : Program} {f : FuncId} {fn : Func} {x : Code} {R : Ending → World → Prop} {ti : Nat → TI}
theorem callsG_fn (hf : P.funcs[f]? = some fn) (hb : fn.body = some x) (hti : ∀ t, TIok P t (ti t)) (w : World) (N : Nat) (hN : fn.ntmps = N) (rs : List ResultVar) (hrs : fn.results.toList = rs) (G Fo : List Fct) (hF : AtG w G Fo) (ho : initOk Fo)
   (l : List Value) (args : Array Value) (ha : args.toList = l) (hl : Nat.ble l.length N = true)
   (hv : vcCode (mkEnvG P w N G) ti x (bodyK (mkEnvG P w N G) ti rs R) (.mk (initT 0 (l.map .v)) 0 0 [] [] (G ++ Fo))) : Calls P f args w R := by
 subst hN; subst hrs
 exact calls_sx hf hb (mkEnvG P w fn.ntmps G) rfl rfl hti (l.map .v) 0 [] [] (G ++ Fo) (A := fun _ => 0) (by simp [ha, show (SV.den (fun _ => 0) ∘ SV.v) = id from rfl]) (fun s hs => by obtain ⟨u, _, rfl⟩ := List.mem_map.1 hs; trivial) z76 (WD.initG P w _ _ hF ho) hv
theorem callsPG_fn (hf : P.funcs[f]? = some fn) (hb : fn.body = some x) (hti : ∀ t, TIok P t (ti t)) (w : World) (N : Nat) (hN : fn.ntmps = N) (rs : List ResultVar) (hrs : fn.results.toList = rs) (g : Nat) (ty : TypeId) (cs : List Value) (sz : Nat) (hsz : listLen cs = sz) (hg : Blk w g ty cs) (G Fo : List Fct) (hF : AtG w G Fo) (hoff : ∀ f ∈ G ++ Fo, ∀ b, f.foot b → b ≠ g) (ho : initOk Fo)
   (l : List Value) (args : Array Value) (ha : args.toList = .pointer (some ⟨g, 0, none⟩) :: l) (hl : Nat.ble (l.length + 1) N = true)
   (hv : vcCode (mkEnvPG P w N g G) ti x (bodyK (mkEnvPG P w N g G) ti rs R) (.mk (initT 0 (.p 0 0 :: l.map .v)) 1 0 [(0, ty, sz)] (storeL 0 0 (cs.map .v) []) (G ++ Fo))) : Calls P f args w R := by
 subst hN; subst hrs
 rw [listLen_eq] at hsz
 subst hsz
 exact calls_sx hf hb (mkEnvPG P w fn.ntmps g G) rfl rfl hti (.p 0 0 :: l.map .v) 1 [(0, ty, cs.length)] (storeL 0 0 (cs.map .v) []) (G ++ Fo) (A := fun _ => g) z54
   (fun s hs => by
     rcases List.mem_cons.1 hs with rfl | hs
     · exact Nat.zero_lt_one
     · obtain ⟨u, _, rfl⟩ := List.mem_map.1 hs; trivial) z76 (WD.initPG P w _ _ _ _ hg hF hoff ho) hv
end
theorem retG {P : Program} {w : World} {N : Nat} {n : Nat} {B : List (Nat × TypeId × Nat)} {M : List ((Nat × Nat) × SV)} {F G : List Fct} {R : Value → List Fct → Prop} {l : List SV} (ix : List Nat) {L : List Fct} {v : Value} (hR : R v L) (hF : FW F ix L) (hix : nodupB ix = true) (ho : freshOk L) (hv : ∀ A, resV A l = v) :
   RetW (∀ A w', WD (mkEnvG P w N G) A n B M F w' → RetG w G R (.returned (resV A l)) w') := by
 refine ⟨fun A w' h => ?_⟩
 rw [hv A]
 have hs := h.pick ix hF hix
 refine ⟨v, L, rfl, h.ext, ⟨fun f hf => ?_, hs.dj⟩, hR⟩
 obtain ⟨h1, h2, h3⟩ := hs.fct f hf
 exact ⟨h1, freshOk_all ho f hf, fun b hb => ⟨h3 (freshOk_all ho f hf) b hb, (h2 b hb).1⟩⟩
theorem retPG {P : Program} {w : World} {N g ty sz : Nat} {n : Nat} {B : List (Nat × TypeId × Nat)} {M : List ((Nat × Nat) × SV)} {F G : List Fct} {R : Value → List Value → List Fct → Prop} {l : List SV} (ix : List Nat) {L : List Fct} {v : Value} {cs : List Value} (hR : R v cs L) (hB : lookBT B 0 = some (ty, sz)) (hM : loadN M 0 0 sz = some cs)
   (hF : FW F ix L) (hix : nodupB ix = true) (ho : freshOk L) (hv : ∀ A, resV A l = v) :
   RetW (∀ A w', WD (mkEnvPG P w N g G) A n B M F w' → RetPG w g ty sz G R (.returned (resV A l)) w') := by
 refine ⟨fun A w' h => ?_⟩
 rw [hv A]
 have hs := h.pick ix hF hix
 obtain ⟨hb, hl⟩ := h.blk (lookBT_mem hB) hM
 have ha : A 0 = g := h.a0 0 (by show 0 < 1; omega)
 rw [ha] at hb
 have hne : ∀ f ∈ L, ∀ b, f.foot b → b ≠ g := fun f hf b hb e => ((hs.fct f hf).2.1 b hb).2 0 ty sz (lookBT_mem hB) (ha.trans e.symm)
 refine ⟨v, cs, L, rfl, h.ext, hb, hl, ⟨fun f hf => ?_, hs.dj⟩, hne, hR⟩
 obtain ⟨h1, h2, h3⟩ := hs.fct f hf
 refine ⟨h1, freshOk_all ho f hf, fun b hb => ⟨?_, (h2 b hb).1⟩⟩
 rcases h3 (freshOk_all ho f hf) b hb with h4 | h4 | h4
 · exact .inl h4
 · exact absurd h4 (hne f hf b hb)
 · exact .inr h4
def memB : List Nat → Nat → Bool
 | [], _ => false
 | x :: r, k => match Nat.beq x k with
   | true => true
   | false => memB r k
theorem memB_iff : ∀ {l : List Nat} {k : Nat}, memB l k = true ↔ k ∈ l
 | [], k => by simp [memB]
 | x :: r, k => by
   simp only [memB, List.mem_cons]
   by_cases h : x = k
   · subst h; rw [Nat.beq_refl]; simp
   · have h' : ¬ k = x := fun e => h e.symm
     rw [show Nat.beq x k = false from by rw [← Bool.not_eq_true]; intro e; exact h (Nat.eq_of_beq_eq_true e)]
     simp [memB_iff, h']
def dropAt (ix : List Nat) : Nat → List Fct → List Fct
 | _, [] => []
 | k, f :: r => match memB ix k with
   | true => dropAt ix (k + 1) r
   | false => f :: dropAt ix (k + 1) r
theorem dropAt_sub (ix : List Nat) : ∀ (F : List Fct) (k : Nat), (dropAt ix k F).Sublist F
 | [], _ => List.Sublist.refl _
 | f :: r, k => by
   simp only [dropAt]
   split
   · exact (dropAt_sub ix r (k + 1)).cons _
   · exact (dropAt_sub ix r (k + 1)).cons_cons _
theorem dropAt_at (ix : List Nat) : ∀ (F : List Fct) (k : Nat), ∀ f ∈ dropAt ix k F, ∃ j, F[j]? = some f ∧ ¬ (k + j) ∈ ix
 | [], _, f, hf => by cases hf
 | g :: r, k, f, hf => by
   simp only [dropAt] at hf
   split at hf
   · obtain ⟨j, h1, h2⟩ := dropAt_at ix r (k + 1) f hf
     exact ⟨j + 1, by simpa using h1, by rw [show k + (j + 1) = k + 1 + j by omega]; exact h2⟩
   · rename_i hm
     rcases List.mem_cons.1 hf with rfl | hf
     · exact ⟨0, rfl, fun h => by rw [Nat.add_zero, ← memB_iff] at h; rw [h] at hm; cases hm⟩
     · obtain ⟨j, h1, h2⟩ := dropAt_at ix r (k + 1) f hf
       exact ⟨j + 1, by simpa using h1, by rw [show k + (j + 1) = k + 1 + j by omega]; exact h2⟩
theorem FK_at {F : List Fct} : ∀ {ix : List Nat} {G : List Fct}, FK F ix G → ∀ f ∈ G, ∃ i ∈ ix, F[i]? = some f
 | [], [], _, f, hf => by cases hf
 | [], _ :: _, h, _, _ => h.elim
 | _ :: _, [], h, _, _ => h.elim
 | i :: ix, g :: r, h, f, hf => by
   rcases List.mem_cons.1 hf with rfl | hf
   · exact ⟨i, by simp, h.1⟩
   · obtain ⟨j, h1, h2⟩ := FK_at h.2 f hf
     exact ⟨j, by simp [h1], h2⟩
inductive Der : Fct → Fct → Prop
 | sl {o : Bool} {i : Sl} {sz n : Nat} {cs : List Value} : Der (fSl o i sz cs n) (fSl true i sz cs n)
 | own {o : Bool} {i : Sl} {e sz n : Nat} {cs : List Value} : Der (fOwn o i e sz cs n) (fSl true i sz cs n)
 | gen {g f : Fct} (h1 : ∀ w, g.P w → f.P w) (h2 : ∀ b, f.foot b → g.foot b) (h3 : f.isOwn = false) (h4 : f.old = true) : Der g f
theorem Der.out {g f : Fct} (h : Der g f) : (∀ w, g.P w → f.P w) ∧ (∀ b, f.foot b → g.foot b) ∧ f.isOwn = false ∧ f.old = true := by
 cases h with
 | sl => exact ⟨fun _ h => h, fun _ h => h, rfl, rfl⟩
 | own => exact ⟨fun _ h => own_rd h, fun _ h => h.2, rfl, rfl⟩
 | gen h1 h2 h3 h4 => exact ⟨h1, h2, h3, h4⟩
def FD (F : List Fct) : List Nat → List Fct → Prop
 | [], [] => True
 | j :: jx, f :: r => (∃ g, F[j]? = some g ∧ Der g f) ∧ FD F jx r
 | _, _ => False
theorem FD_at {F : List Fct} : ∀ {ix : List Nat} {G : List Fct}, FD F ix G → ∀ f ∈ G, ∃ i ∈ ix, ∃ g, F[i]? = some g ∧ Der g f
 | [], [], _, f, hf => by cases hf
 | [], _ :: _, h, _, _ => h.elim
 | _ :: _, [], h, _, _ => h.elim
 | i :: ix, g :: r, h, f, hf => by
   rcases List.mem_cons.1 hf with rfl | hf
   · obtain ⟨g, h1, h2⟩ := h.1
     exact ⟨i, by simp, g, h1, h2⟩
   · obtain ⟨j, h1, h2⟩ := FD_at h.2 f hf
     exact ⟨j, by simp [h1], h2⟩
section
variable {E : Env} {ti : Nat → TI} {A : Nat → Nat} {T : List (Nat × SV)} {n c : Nat} {B : List (Nat × TypeId × Nat)} {M : List ((Nat × Nat) × SV)} {F Fs : List Fct} {o : Oper} {next : St → Prop} {a : Act} {w w' : World}
def noMeet (ix jx : List Nat) : Bool := match jx with
 | [] => true
 | j :: r => match memB ix j with
   | true => false
   | false => noMeet ix r
theorem noMeet_ok : ∀ {ix jx : List Nat}, noMeet ix jx = true → ∀ j ∈ jx, ¬ j ∈ ix
 | _, [], _, j, hj => by cases hj
 | ix, k :: r, h, j, hj => by
   simp only [noMeet] at h
   split at h
   · cases h
   · rename_i hm
     rcases List.mem_cons.1 hj with rfl | hj
     · intro e; rw [memB_iff.2 e] at hm; cases hm
     · exact noMeet_ok h j hj
theorem WD.atG (h : WD E A n B M F w) (ix : List Nat) {G : List Fct} (hG : FK F ix G) (hix : nodupB ix = true) (hok : grantOk G) (jx : List Nat) {Fo : List Fct} (hFo : FD F jx Fo) (hm : noMeet ix jx = true) : AtG w G Fo := by
 have hg : ∀ f ∈ G, f.P w ∧ ∀ b, f.foot b → b < w.heap.size := fun f hf => by
   obtain ⟨i, _, hi⟩ := FK_at hG f hf
   exact h.nth i hi
 have hoo : ∀ f ∈ Fo, (f.P w ∧ ∀ b, f.foot b → b < w.heap.size) ∧ f.isOwn = false := fun f hf => by
   obtain ⟨i, _, g, hi, hd⟩ := FD_at hFo f hf
   obtain ⟨d1, d2, d3, _⟩ := hd.out
   exact ⟨⟨d1 w (h.nth i hi).1, fun b hb => (h.nth i hi).2 b (d2 b hb)⟩, d3⟩
 have hat : ∀ L : List Fct, (∀ f ∈ L, f.P w ∧ ∀ b, f.foot b → b < w.heap.size) → At w L := fun L => by
   induction L with
   | nil => intro _; trivial
   | cons f r ih => intro hl; exact ⟨hl f (by simp), ih fun f hf => hl f (by simp [hf])⟩
 refine ⟨hat _ fun f hf => ?_, hok, ?_⟩
 · rcases List.mem_append.1 hf with hf | hf
   · exact hg f hf
   · exact (hoo f hf).1
 · rw [List.pairwise_append]
   refine ⟨(h.pick ix (FK.fw hG) hix).dj, ?_, fun f hf g hg => ?_⟩
   · rw [List.pairwise_iff_getElem]
     intro p q hp hq _ hor
     rw [(hoo _ (List.getElem_mem hp)).2, (hoo _ (List.getElem_mem hq)).2] at hor
     simp at hor
   · obtain ⟨i, hi1, hi2⟩ := FK_at hG f hf
     obtain ⟨j, hj1, g0, hj2, hd⟩ := FD_at hFo g hg
     have hne : i ≠ j := fun e => noMeet_ok hm j hj1 (by rw [← e]; exact hi1)
     have hdj := pairwise_pick h.dj hne hi2 hj2
     intro _ b hb hb'
     exact hdj (.inl (grantOk_all hok f hf).1) b hb (hd.out.2.1 b hb')
theorem WD.atG_off (h : WD E A n B M F w) {k ty sz : Nat} (hB : lookBT B k = some (ty, sz)) {ga : Nat} (hga : ga = A k) {ix : List Nat} {G : List Fct} (hG : FK F ix G) {jx : List Nat} {Fo : List Fct} (hFo : FD F jx Fo) : ∀ f ∈ G ++ Fo, ∀ b, f.foot b → b ≠ ga := by
 subst hga
 intro f hf b hb e
 rcases List.mem_append.1 hf with hf | hf
 · obtain ⟨i, _, hi⟩ := FK_at hG f hf
   exact ((h.fct _ (List.mem_of_getElem? hi)).2.1 b hb).2 k ty sz (lookBT_mem hB) e.symm
 · obtain ⟨i, _, g, hi, hd⟩ := FD_at hFo f hf
   exact ((h.fct _ (List.mem_of_getElem? hi)).2.1 b (hd.out.2.1 b hb)).2 k ty sz (lookBT_mem hB) e.symm
theorem WD.callG (h : WD E A n B M F w) {ix : List Nat} {G : List Fct} (hG : FK F ix G) (hok : grantOk G) (hex : ExtX (gfoot G) w w') {L : List Fct} (hL : NewG w w' G L) : WD E A n B M (L ++ dropAt ix 0 F) w' := by
 have hgf : ∀ b, gfoot G b → b < w.heap.size ∧ (∀ k ty sz, (k, ty, sz) ∈ B → A k ≠ b) ∧ (E.w0.heap.size ≤ b ∨ E.X b) ∧ ∀ f ∈ dropAt ix 0 F, ¬ f.foot b := by
   rintro b ⟨g, hg, hb⟩
   obtain ⟨i, hi1, hi2⟩ := FK_at hG g hg
   obtain ⟨h1, h2, h3⟩ := h.fct _ (List.mem_of_getElem? hi2)
   obtain ⟨o1, o2⟩ := grantOk_all hok g hg
   refine ⟨(h2 b hb).1, (h2 b hb).2, h3 o2 b hb, fun f hf hfb => ?_⟩
   obtain ⟨j, hj1, hj2⟩ := dropAt_at ix F 0 f hf
   rw [Nat.zero_add] at hj2
   exact pairwise_pick h.dj (fun e => hj2 (by rw [← e]; exact hi1)) hi2 hj1 (.inl o1) b hb hfb
 have hsub := h.sub (dropAt_sub ix F 0)
 have h' := hsub.grow hex (fun k ty sz hk hg => (hgf _ hg).2.1 k ty sz hk rfl) (fun f hf b hb hg => (hgf b hg).2.2.2 f hf hb) (fun b hb hg => (hgf b hg).2.2.1.resolve_left (by omega))
 refine ⟨h'.key, h'.inj, h'.mem, h'.a0, h'.n0, h'.ext, ?_, ?_⟩
 · intro f hf
   rcases List.mem_append.1 hf with hf | hf
   · obtain ⟨h1, h2, h3⟩ := hL.all f hf
     refine ⟨h1, fun b hb => ⟨(h3 b hb).2, fun k ty sz hk e => ?_⟩, fun _ b hb => ?_⟩
     · rcases (h3 b hb).1 with h4 | h4
       · have := (h.key k ty sz hk).2.1
         omega
       · exact (hgf b h4).2.1 k ty sz hk e
     · rcases (h3 b hb).1 with h4 | h4
       · exact .inl (Nat.le_trans h.ext.size h4)
       · exact (hgf b h4).2.2.1
   · exact h'.fct f hf
 · rw [List.pairwise_append]
   refine ⟨hL.dj, h'.dj, fun f hf g hg _ b hb hb' => ?_⟩
   rcases ((hL.all f hf).2.2 b hb).1 with h4 | h4
   · have := ((hsub.fct g hg).2.1 b hb').1
     omega
   · exact (hgf b h4).2.2.2 g hg hb'
theorem stop_callG (R : Value → List Fct → Prop) (ix : List Nat) {G : List Fct} {k : Call} {fo : Operand} {g : FuncId} {cap : List (Nat × Nat)} {l : List SV} {d : Nat} (hc : callable E.P g = true)
   (hop : o.op = .call k) (hk : k.callee = .value fo) (hf : evalO T fo = some (.f g cap)) (ha : evalOs T k.args.toList = some l) (hd : Dst E o d) (hG : FK F ix G) (hok : grantOk G)
   (hcall : ∀ A w, WD E A n B M F w → Calls E.P g ((l.map (SV.den A)) ++ cap.map (fun x => ptr A x.1 x.2)).toArray w (RetG w G R))
   (hnext : ∀ v L, R v L → next (.mk ((d, .v v) :: T) n (c + 1) B M (L ++ dropAt ix 0 F))) :
   OpW (opStop E o next T n c B M F) := by
 refine ⟨fun A a w hW hT => ?_⟩
 unfold Oper.wp
 rw [call_enter hT hc hop hk hf ha, Oper.upon_enter]
 refine (hcall A w hW).mono ?_
 rintro e w' ⟨v, L, rfl, he, hL, hR⟩
 refine ⟨_, ⟨_, hW.callG hG hok he hL, ?_⟩, hnext v L hR⟩
 rw [hd.1]
 exact (hT.step w').put (v := .v v) hd.lt trivial
theorem WD.turnX (h : WD E A n B M F w) {k g : Nat} {i : Sl} {e sz p q : Nat} {cs ds : List Value} (hk : F[k]? = some (fOwn false i e sz cs p)) (hi : i.a = some ⟨g, 0, none⟩)
   (hX : ExtX (fun b => b = g) w w') (ho : w'.ownsRow 0 e sz (i.val q) q ds) : WD E A n B M (fOwn false i e sz ds q :: F.eraseIdx k) w' := by
 have hfk := h.fct _ (List.mem_of_getElem? hk)
 have hgf : (fOwn false i e sz cs p).foot g := ⟨_, hi, rfl⟩
 have hfg : ∀ b, (fOwn false i e sz ds q).foot b → b = g := by
   rintro b ⟨ad, h1, rfl⟩
   rw [hi] at h1; injection h1 with h1; subst h1; rfl
 have hsub := h.sub (eraseIdx_sub F k)
 have hdj := pairwise_nth_erase h.dj hk
 have hW' : WD E A n B M (F.eraseIdx k) w' := by
   refine hsub.grow hX (fun k' ty sz' hk' e => (hfk.2.1 g hgf).2 k' ty sz' hk' e) (fun f hf b hb e => hdj f hf (.inl rfl) g hgf (e ▸ hb)) (fun b hb e => ?_)
   subst e
   exact (hfk.2.2 rfl b hgf).resolve_left (by omega)
 refine ⟨hW'.key, hW'.inj, hW'.mem, hW'.a0, hW'.n0, hW'.ext, ?_, ?_⟩
 · intro f hf
   rcases List.mem_cons.1 hf with rfl | hf
   · refine ⟨ho, fun b hb => ?_, fun _ b hb => ?_⟩
     · obtain rfl := hfg b hb
       exact ⟨Nat.lt_of_lt_of_le (hfk.2.1 b hgf).1 hX.size, (hfk.2.1 b hgf).2⟩
     · obtain rfl := hfg b hb
       exact hfk.2.2 rfl b hgf
   · exact hW'.fct f hf
 · rw [List.pairwise_cons]
   refine ⟨fun f hf _ b hb hb' => ?_, hW'.dj⟩
   obtain rfl := hfg b hb
   exact hdj f hf (.inl rfl) b hgf hb'
theorem own_store {P : Program} {i : Sl} {e sz p g off : Nat} {cs vs : List Value} (hown : w.ownsRow 0 e sz (i.val p) p cs) (hi : i.a = some ⟨g, 0, none⟩) (hle : off + vs.length ≤ p * sz) (h1 : ∀ v ∈ vs, v.oneCell' = true) :
   ∃ w', (storeCells ⟨g, off, none⟩ vs).run P w = .ok () w' ∧ ExtX (fun b => b = g) w w' ∧ w'.ownsRow 0 e sz (i.val p) p (cs.take off ++ vs ++ cs.drop (off + vs.length)) := by
 rcases own_cases hown with ⟨h2, _⟩ | ⟨g', cur, h2, h3, h4, h5, h6, h7⟩
 · rw [hi] at h2; cases h2
 · rw [hi] at h2
   injection h2 with h2
   injection h2 with h2
   subst h2
   have hpc : p * sz ≤ i.c * sz := Nat.mul_le_mul_right _ h4
   have hrun := run_storeCells_at (P := P) g off e vs 0 cur w h3 z94 h1
   refine ⟨_, hrun, ?_⟩
   simp only [Nat.add_zero]
   generalize hcs' : (List.take off cur.toList ++ vs ++ List.drop (off + vs.length) cur.toList).toArray = cs'
   have hsz : cs'.size = i.c * sz := by rw [← hcs']; simp; omega
   have hnew : (w.setRow g cs').heap[g]? = some (.cells cs' e (0, 0)) := setRow_heap w g cur cs' e (0, 0) h3
   have hother : ∀ b, b ≠ g → (w.setRow g cs').heap[b]? = w.heap[b]? := fun b hb => by
     simp only [World.setRow, Array.getElem?_modify]
     rw [if_neg (fun e => hb e.symm)]
   have hhsz : (w.setRow g cs').heap.size = w.heap.size := by simp [World.setRow]
   have hl := hown.1
   refine ⟨⟨rfl, rfl, rfl, by rw [hhsz]; exact Nat.le_refl _, fun b _ hb => hother b hb⟩, by simp; omega, .inr ⟨g, i.c, cs', by simp only [Sl.val, hi], Nat.zero_le _, hnew, h4, h5, hsz, ?_⟩⟩
   rw [← hcs', ← h7]
   have hcl : cur.toList.length = i.c * sz := by simpa using h6
   have e1 : (List.take (p * sz) cur.toList).take off = cur.toList.take off := by rw [List.take_take]; congr 1; omega
   have e2 : (List.take (p * sz) cur.toList).drop (off + vs.length) = (cur.toList.drop (off + vs.length)).take (p * sz - (off + vs.length)) := by rw [List.drop_take]
   rw [e1, e2]
   have e3 : (List.take off cur.toList ++ vs).length = off + vs.length := by rw [List.length_append, List.length_take, hcl]; omega
   show List.take (p * sz) (List.take off cur.toList ++ vs ++ List.drop (off + vs.length) cur.toList) = _
   rw [List.take_append, e3, List.take_of_length_le (by rw [e3]; omega)]
theorem cells_set {α : Type} {enc : α → List Value} {sz : Nat} (he : Enc enc sz) {xs : List α} {j off : Nat} {y : α} {vs : List Value} (hj : j < xs.length) (hle : off + vs.length ≤ sz) (hy : enc y = (enc xs[j]).take off ++ vs ++ (enc xs[j]).drop (off + vs.length)) :
   cells enc (xs.set j y) = (cells enc xs).take (j * sz + off) ++ vs ++ (cells enc xs).drop (j * sz + off + vs.length) := by
 have hsp : xs = xs.take j ++ xs[j] :: xs.drop (j + 1) := by rw [← List.drop_eq_getElem_cons hj, List.take_append_drop]
 have hset : xs.set j y = xs.take j ++ y :: xs.drop (j + 1) := by rw [List.set_eq_take_append_cons_drop, if_pos hj]
 have hc : cells enc xs = cells enc (xs.take j) ++ (enc xs[j] ++ cells enc (xs.drop (j + 1))) := by
   conv => lhs; rw [hsp]
   rw [cells_append]; rfl
 have hlt : (cells enc (xs.take j)).length = j * sz := by rw [cells_length he]; simp; rw [Nat.min_eq_left (by omega)]
 have hle2 : (enc xs[j]).length = sz := he.len _
 have t1 : (cells enc xs).take (j * sz + off) = cells enc (xs.take j) ++ (enc xs[j]).take off := by
   rw [hc, List.take_append, hlt, List.take_of_length_le (by rw [hlt]; omega), Nat.add_sub_cancel_left, List.take_append, hle2, show off - sz = 0 by omega]
   simp
 have t2 : (cells enc xs).drop (j * sz + off + vs.length) = (enc xs[j]).drop (off + vs.length) ++ cells enc (xs.drop (j + 1)) := by
   rw [hc, List.drop_append, hlt, List.drop_of_length_le (by rw [hlt]; omega), show j * sz + off + vs.length - j * sz = off + vs.length by omega, List.drop_append, hle2, show off + vs.length - sz = 0 by omega]
   simp
 rw [hset, cells_append, t1, t2]
 show cells enc (xs.take j) ++ (enc y ++ cells enc (xs.drop (j + 1))) = _
 rw [hy]
 simp [List.append_assoc]
theorem stop_idxW {α : Type} {enc : α → List Value} {sz : Nat} (_he : Enc enc sz) (k1 : Nat) {t e : TypeId} {x ix : Operand} {i : Sl} {xs : List α} {kd : IntKind} {m : Int} {d : Nat} {agg : Bool} {size : Nat} {zero : List Value} {fs : List (Nat × Nat × Bool)} {ik : Option IntKind} {kk bytes : Nat} {agg2 : Bool} {zero2 : List Value} {fs2 : List (Nat × Nat × Bool)} {el2 : Option TypeId} {ik2 : Option IntKind} {kk2 bytes2 : Nat}
   (hti : ∀ t, TIok E.P t (ti t)) (hop : o.op = .indexAddr t x ix) {m0 : Nat} (hx : evalO T x = some (.v (i.val m0))) (hix : evalO T ix = some (.v (.int kd m)))
   (ht : ti t = .mk agg size zero fs (some e) ik kk bytes) (hte : ti e = .mk agg2 sz zero2 fs2 el2 ik2 kk2 bytes2) (hd : Dst E o d)
   (hF : F[k1]? = some (own i e enc sz xs)) (hm0 : m0 = xs.length) (j : Nat) (hj : m = (j : Int)) (hlt : j < xs.length)
   (hnext : ∀ g, i.a = some ⟨g, 0, none⟩ → next (.mk ((d, .v (.pointer (some ⟨g, j * sz, none⟩))) :: T) n c B M F)) :
   OpW (opStop E o next T n c B M F) := by
 subst hm0
 refine ⟨fun A a w hW hT => ?_⟩
 have hown := (hW.nth k1 hF).1
 rcases own_cases hown with ⟨_, h2, _⟩ | ⟨g, cur, h2, _⟩
 · omega
 have htt := hti t
 rw [ht] at htt
 obtain ⟨ii, dd, z, e1, e2, e3, e4, e5, e6, e7, e8, e9, e10, e11⟩ := tiSum_parts htt
 have htt2 := hti e
 rw [hte] at htt2
 obtain ⟨ii2, dd2, z2, k1, k2, k3, k4, k5, k6, k7, k8, k9, k10, k11⟩ := tiSum_parts htt2
 have hdd := el_slice e8
 subst hj
 have hr : (execOp a.eval o).run E.P w = .ok (.value (.pointer (some ⟨g, j * sz, none⟩))) w := by
   have hx' : a.eval x = .slice (some ⟨g, 0, none⟩) xs.length i.c := by rw [(evalO_sound hT hx).1]; simp [SV.den, Sl.val, h2]
   have hix' : a.eval ix = .int kd j := (evalO_sound hT hix).1
   simp [execOp, hop, Instr.indexAt, hx', hix', asIntOf, underlying, e2, hdd, run_sizeOf k1, k4, hlt]
   unfold Addr.add
   split <;> simp_all
 refine upon_of_value hr ?_
 rw [hd.1]
 exact ⟨_, ⟨_, hW, hT.put (v := .v (.pointer (some ⟨g, j * sz, none⟩))) hd.lt trivial⟩, hnext g h2⟩
theorem stop_fldW {t : TypeId} {x : Operand} {k : Nat} {g off o2 sz2 d : Nat} {ag : Bool} {agg : Bool} {size : Nat} {zero : List Value} {fs : List (Nat × Nat × Bool)} {el : Option TypeId} {ik : Option IntKind} {kk bytes : Nat}
   (hti : ∀ t, TIok E.P t (ti t)) (hop : o.op = .fieldAddr t x k) (hx : evalO T x = some (.v (.pointer (some ⟨g, off, none⟩)))) (ht : ti t = .mk agg size zero fs el ik kk bytes) (hk : nth fs k = some (o2, sz2 + 1, ag)) (hd : Dst E o d)
   (hnext : next (.mk ((d, .v (.pointer (some ⟨g, off + o2, none⟩))) :: T) n c B M F)) : OpW (opStop E o next T n c B M F) := by
 refine ⟨fun A a w hW hT => ?_⟩
 have htt := hti t
 rw [ht] at htt
 obtain ⟨ii, dd, z, e1, e2, e3, e4, e5, e6, e7, e8, e9, e10, e11⟩ := tiSum_parts htt
 obtain ⟨fields, f, fi, fd, rfl, hfi, rfl, g1, g2, g3, g4⟩ := fs_field e7 hk
 have hx' : a.eval x = .pointer (some ⟨g, off, none⟩) := (evalO_sound hT hx).1
 have hr : (execOp a.eval o).run E.P w = .ok (.value (.pointer (some ⟨g, off + f.offset, none⟩))) w := by
   have hadd : (⟨g, off, none⟩ : Addr).add f.offset = ⟨g, off + f.offset, none⟩ := ptr_add (fun _ => g) 0 off f.offset
   simp [execOp, hop, hx', Instr.fieldAt, underlying, e2, hfi, Instr.sureAddr, fieldPlace, run_sizeOf g1, g2, hadd]
 refine upon_of_value hr ?_
 rw [hd.1]
 exact ⟨_, ⟨_, hW, hT.put (v := .v (.pointer (some ⟨g, off + f.offset, none⟩))) hd.lt trivial⟩, hnext⟩
theorem stop_storeW {α : Type} {enc : α → List Value} {sz : Nat} (he : Enc enc sz) (k1 : Nat) {xs : List α} {i : Sl} {t e : TypeId} {x y : Operand} {g ad : Nat} {s : SV} {l : List SV} {sz2 : Nat} {agg : Bool} {zero : List Value} {fs : List (Nat × Nat × Bool)} {el : Option TypeId} {ik : Option IntKind} {kk bytes : Nat}
   (hti : ∀ t, TIok E.P t (ti t)) (hop : o.op = .store t x y) (hd : o.dst = none) (hx : evalO T x = some (.v (.pointer (some ⟨g, ad, none⟩)))) (hy : evalO T y = some s) (hl : cellsSV s = some l) (ht : ti t = .mk agg sz2 zero fs el ik kk bytes) (hlen : listLen l = sz2)
   (hF : F[k1]? = some (own i e enc sz xs)) (hi : i.a = some ⟨g, 0, none⟩) (j off : Nat) (y0 : α) (had : ad = j * sz + off) (hj : j < xs.length) (hle : Nat.ble (off + sz2) sz = true) (vs : List Value) (hvs : ∀ A, l.map (SV.den A) = vs)
   (hy0 : enc y0 = (enc xs[j]).take off ++ vs ++ (enc xs[j]).drop (off + vs.length))
   (hnext : next (.mk T n (c + 1) B M (own i e enc sz (xs.set j y0) :: F.eraseIdx k1))) : OpW (opStop E o next T n c B M F) := by
 refine ⟨fun A a w hW hT => ?_⟩
 have hown := (hW.nth k1 hF).1
 have htt := hti t
 rw [ht] at htt
 obtain ⟨ii, dd, z, e1, e2, e3, e4, e5, e6, e7, e8, e9, e10, e11⟩ := tiSum_parts htt
 obtain ⟨h1, h2⟩ := evalO_sound hT hy
 have h3 : a.eval x = .pointer (some ⟨g, ad, none⟩) := (evalO_sound hT hx).1
 obtain ⟨c1, c2, c3⟩ := cellsSV_spec (A := A) hl h2
 rw [hvs A] at c1
 have hvl : vs.length = sz2 := by rw [← hvs A, List.length_map, ← listLen_eq]; exact hlen
 have hle' := Nat.le_of_ble_eq_true hle
 have hjs : (j + 1) * sz ≤ xs.length * sz := Nat.mul_le_mul_right _ hj
 rw [Nat.succ_mul] at hjs
 subst had
 obtain ⟨w', hrun, hX, hnew⟩ := own_store (P := E.P) (w := w) (off := j * sz + off) (vs := vs) hown hi (by omega) (fun v hv => by
   rw [← hvs A] at hv
   obtain ⟨q, hq, rfl⟩ := List.mem_map.1 hv
   exact c3 q hq)
 rw [← cells_set he hj (by omega) hy0] at hnew
 have hr : (execOp a.eval o).run E.P w = .ok .skip w' := by
   have hcs : (s.den A).cells.size = ii.size := by
     have : (s.den A).cells.toList.length = vs.length := by rw [c1]
     simp at this
     rw [this, hvl, e4]
   simp only [execOp, hop, Instr.storeAt, h1, h3, Instr.sureAddr, Sem.run_bind, Sem.run_pure, Result.andThen_ok, storeVar, run_sizeOf e1]
   rw [if_neg (by simp [hcs]), c1]
   simp only [Result.andThen_ok, hrun]
 refine upon_of_skip hr ?_
 rw [hd]
 refine ⟨_, ⟨_, ?_, hT.step w'⟩, hnext⟩
 show WD E A n B M (fOwn false i e sz (cells enc (xs.set j y0)) (xs.set j y0).length :: F.eraseIdx k1) w'
 have hlen' : (xs.set j y0).length = xs.length := by simp
 rw [hlen']
 exact hW.turnX hF hi hX hnew
theorem stop_make {α : Type} {enc : α → List Value} {sz : Nat} (he : Enc enc sz) (z0 : α) {t e : TypeId} {x : Operand} {kd : IntKind} {m : Int} {d : Nat} {agg : Bool} {size : Nat} {zero : List Value} {fs : List (Nat × Nat × Bool)} {ik : Option IntKind} {kk bytes : Nat} {agg2 : Bool} {zero2 : List Value} {fs2 : List (Nat × Nat × Bool)} {el2 : Option TypeId} {ik2 : Option IntKind} {kk2 bytes2 : Nat}
   (hti : ∀ t, TIok E.P t (ti t)) (hop : o.op = .makeSlice t x x) (hx : evalO T x = some (.v (.int kd m)))
   (ht : ti t = .mk agg size zero fs (some e) ik kk bytes) (hte : ti e = .mk agg2 sz zero2 fs2 el2 ik2 kk2 bytes2) (hz : zero2 = enc z0) (h0 : 0 < sz) (hd : Dst E o d)
   (q : Nat) (hq : m = (q : Int)) (hb : bytes2 * q ≤ 281474976710656) (hm : q ≤ maxLen)
   (hnext : ∀ y : Sl, next (.mk ((d, .v (y.val q)) :: T) n (c + 1) B M (own y e enc sz (List.replicate q z0) :: F))) :
   OpW (opStop E o next T n c B M F) := by
 refine ⟨fun A a w hW hT => ?_⟩
 have htt := hti t
 rw [ht] at htt
 obtain ⟨ii, dd, z, e1, e2, e3, e4, e5, e6, e7, e8, e9, e10, e11⟩ := tiSum_parts htt
 have htt2 := hti e
 rw [hte] at htt2
 obtain ⟨ii2, dd2, z2, k1, k2, k3, k4, k5, k6, k7, k8, k9, k10, k11⟩ := tiSum_parts htt2
 have hdd := el_slice e8
 subst hq
 obtain ⟨w', hr, ho, hg⟩ := run_make_full (P := E.P) w 0 t e ii2 z2 sz (by rw [e2, hdd]) k1 k5 k4 kd kd q (by rw [k11]; exact hb) hm (Nat.zero_le _)
 have hx' : a.eval x = .int kd (q : Int) := (evalO_sound hT hx).1
 have hrr : (execOp a.eval o).run E.P w = .ok (.value (.slice (some ⟨w.heap.size, 0, none⟩) q q)) w' := by
   simp only [execOp, hop, hx', hr, Sem.run_bind, Sem.run_pure, Result.andThen_ok]
 have hzc : z2.cells.toList = enc z0 := by rw [k6, hz]
 have hcells : (madeCells z2.cells (q * sz)).toList = cells enc (List.replicate q z0) := by
   have hzs : z2.cells.size = sz := by have := congrArg List.length hzc; rw [he.len] at this; simpa using this
   apply List.ext_getElem?
   intro j
   by_cases hj : j < q * sz
   · have hk : j / sz < q := Nat.div_lt_of_lt_mul (by rwa [Nat.mul_comm] at hj)
     have hrm : j % sz < sz := Nat.mod_lt _ h0
     have hr' : j % sz < (enc ((List.replicate q z0)[j / sz]'(by simpa using hk))).length := by rw [he.len]; exact hrm
     have h2 := cells_at he (xs := List.replicate q z0) (by simpa using hk) (List.getElem?_eq_getElem hr')
     rw [Nat.div_add_mod'] at h2
     rw [h2]
     simp only [madeCells, Array.toList_map, Array.toList_range, List.getElem?_map, List.getElem?_range hj, Option.map_some, List.getElem_replicate]
     congr 1
     rw [hzs, getElem!_pos z2.cells (j % sz) (by rw [hzs]; exact hrm)]
     have : z2.cells[j % sz]'(by rw [hzs]; exact hrm) = z2.cells.toList[j % sz]'(by simpa [hzs] using hrm) := by simp
     rw [this]
     simp only [hzc]
   · rw [List.getElem?_eq_none (by simp [madeCells]; omega), List.getElem?_eq_none (by rw [cells_length he]; simp; omega)]
 rw [hcells] at ho
 refine upon_of_value hrr ?_
 rw [hd.1]
 have hnew : New w w' [own (⟨some ⟨w.heap.size, 0, none⟩, q⟩ : Sl) e enc sz (List.replicate q z0)] := by
   refine ⟨fun f hf => ?_, List.pairwise_singleton _ _⟩
   simp only [List.mem_singleton] at hf
   subst hf
   have ho' : w'.ownsRow 0 e sz ((⟨some ⟨w.heap.size, 0, none⟩, q⟩ : Sl).val (List.replicate q z0).length) (List.replicate q z0).length (cells enc (List.replicate q z0)) := by
     rw [List.length_replicate]; exact ho
   refine ⟨ho', rfl, ?_⟩
   rintro b ⟨ad, q1, rfl⟩
   simp only [Option.some.injEq] at q1
   subst q1
   have hlt := (ho.lt w.heap.size (by simp [Value.ownBlock])).2
   exact ⟨Nat.le_refl _, hlt⟩
 have hex : Ext w w' := ExtX.grown hg (fun g hg => by cases hg)
 exact ⟨_, ⟨_, hW.learn hex hnew, (hT.step w').put (v := .v ((⟨some ⟨w.heap.size, 0, none⟩, q⟩ : Sl).val q)) hd.lt trivial⟩, hnext _⟩
end
theorem blk_st (g : Nat) (ty : TypeId) (cs : List Value) (w w' : World) (hb : ∀ b, b = g → w'.heap[b]? = w.heap[b]?) : Blk w g ty cs → Blk w' g ty cs := fun h => by
 unfold Blk at *
 rw [hb g rfl]; exact h
abbrev fVar (g : Nat) (ty : TypeId) (cs : List Value) : Fct := .other true false (fun b => b = g) (fun w => Blk w g ty cs) (blk_st g ty cs)
section
variable {E : Env} {ti : Nat → TI} {A : Nat → Nat} {T : List (Nat × SV)} {n c : Nat} {B : List (Nat × TypeId × Nat)} {M Ms : List ((Nat × Nat) × SV)} {F Fs : List Fct} {o : Oper} {next : St → Prop} {a : Act} {w w' : World}
theorem WD.var (h : WD E A n B M F w) {k ty sz : Nat} {cs : List Value} (hB : lookBT B k = some (ty, sz)) (hM : loadN M k 0 sz = some cs) : (fVar (A k) ty cs).P w ∧ ∀ b, (fVar (A k) ty cs).foot b → b < w.heap.size :=
 ⟨(h.blk (lookBT_mem hB) hM).1, fun b hb => by
   obtain rfl : b = A k := hb
   exact (h.key k ty sz (lookBT_mem hB)).2.1⟩
theorem WD.varAt (h : WD E A n B M F w) (j : Nat) {g ty : Nat} {cs : List Value} (hi : F[j]? = some (fVar g ty cs)) : (fVar g ty cs).P w ∧ ∀ b, (fVar g ty cs).foot b → b < w.heap.size := h.nth j hi
theorem stop_callV (R : Value → List Fct → Prop) {k : Call} {fo : Operand} {g : FuncId} {cap : Array Value} {l : List SV} {d : Nat} (hc : callable E.P g = true)
   (hop : o.op = .call k) (hk : k.callee = .value fo) (hf : evalO T fo = some (.v (.func (.func g) #[] cap))) (ha : evalOs T k.args.toList = some l) (hd : Dst E o d)
   (hcall : ∀ A w, WD E A n B M F w → Calls E.P g ((l.map (SV.den A)) ++ cap.toList).toArray w (Ret w R))
   (hnext : ∀ v L, R v L → next (.mk ((d, .v v) :: T) n (c + 1) B M (L ++ F))) :
   OpW (opStop E o next T n c B M F) := by
 refine ⟨fun A a w hW hT => ?_⟩
 have hargs : (k.args.map a.eval).toList = l.map (SV.den A) := by rw [Array.toList_map]; exact evalOs_sound hT ha
 have hfv := (evalO_sound hT hf).1
 have hr : (execOp a.eval o).run E.P w = .ok (.enter g ((l.map (SV.den A)) ++ cap.toList).toArray) w := by
   have hcat : (k.args.map a.eval) ++ cap = ((l.map (SV.den A)) ++ cap.toList).toArray := by
     apply Array.ext'; rw [Array.toList_append, hargs]
   simp only [execOp, hop, resolve, hk, Sem.run_bind, hfv, SV.den, Deferred.ofValue, Sem.run_pure, Result.andThen_ok, Array.empty_append, invoke, hcat, run_callFunc hc]
 unfold Oper.wp
 rw [hr, Oper.upon_enter]
 refine (hcall A w hW).mono ?_
 rintro e w' ⟨v, L, rfl, he, hL, hR⟩
 refine ⟨_, ⟨_, hW.learn he hL, ?_⟩, hnext v L hR⟩
 rw [hd.1]
 exact (hT.step w').put (v := .v v) hd.lt trivial
theorem stop_loadV (k1 : Nat) {t ty : TypeId} {x : Operand} {g d : Nat} {cs : List Value} {v : Value} {size : Nat} {zero : List Value} {fs : List (Nat × Nat × Bool)} {el : Option TypeId} {ik : Option IntKind} {kk bytes : Nat}
   (hti : ∀ t, TIok E.P t (ti t)) (hop : o.op = .load t x) (hx : evalO T x = some (.v (.pointer (some ⟨g, 0, none⟩)))) (ht : ti t = .mk false size zero fs el ik kk bytes) (hF : F[k1]? = some (fVar g ty cs)) (hv : cs[0]? = some v) (hd : Dst E o d)
   (hnext : next (.mk ((d, .v v) :: T) n c B M F)) : OpW (opStop E o next T n c B M F) := by
 refine ⟨fun A a w hW hT => ?_⟩
 have htt := hti t
 rw [ht] at htt
 obtain ⟨ii, dd, z, e1, e2, e3, e4, e5, e6, e7, e8, e9, e10, e11⟩ := tiSum_parts htt
 have hx' : a.eval x = .pointer (some ⟨g, 0, none⟩) := (evalO_sound hT hx).1
 have hb : Blk w g ty cs := (hW.nth k1 hF).1
 have hc : w.cell? ⟨g, 0, none⟩ = some v := by
   rw [cell_of_row _ _ _ _ _ _ hb]
   show cs.toArray[0]? = some v
   simpa using hv
 have hr : (execOp a.eval o).run E.P w = .ok (.value v) w := by
   simp [execOp, hop, hx', Instr.loadAt, Instr.sureAddr, run_loadVar_one (w := w) e2 e3 _ _ hc]
 refine upon_of_value hr ?_
 rw [hd.1]
 exact ⟨_, ⟨_, hW, hT.put (v := .v v) hd.lt trivial⟩, hnext⟩
theorem draw_own {id : Nat} {ops : Array Oper} {K : St → Prop} (k1 : Nat) {i : Sl} {e sz q : Nat} {cs : List Value} (hF : F[k1]? = some (fOwn false i e sz cs q)) (h0 : 0 < q)
   (h : ∀ g, i.a = some ⟨g, 0, none⟩ → q ≤ i.c → i.c ≤ maxLen → DrawW (∀ a w, Den E (.mk T n c B M F) a w → (Code.region id ops true).wp E.P (postD E K) a w)) :
   DrawW (∀ a w, Den E (.mk T n c B M F) a w → (Code.region id ops true).wp E.P (postD E K) a w) := by
 refine ⟨fun a w hd => ?_⟩
 obtain ⟨A, hW, hT⟩ := hd
 rcases own_cases (hW.nth k1 hF).1 with ⟨_, h2, _⟩ | ⟨g, cur, h2, _, h3, h4, _⟩
 · omega
 · exact (h g h2 h3 h4).out a w ⟨A, hW, hT⟩
theorem d_idxP {t e : TypeId} {x ix : Operand} {i : Sl} {m0 sz : Nat} {kd : IntKind} {m : Int} {d g : Nat} {agg : Bool} {size : Nat} {zero : List Value} {fs : List (Nat × Nat × Bool)} {ik : Option IntKind} {kk bytes : Nat} {agg2 : Bool} {zero2 : List Value} {fs2 : List (Nat × Nat × Bool)} {el2 : Option TypeId} {ik2 : Option IntKind} {kk2 bytes2 : Nat}
   (hti : ∀ t, TIok E.P t (ti t)) (hop : o.op = .indexAddr t x ix) (hx : evalO T x = some (.v (i.val m0))) (hix : evalO T ix = some (.v (.int kd m)))
   (ht : ti t = .mk agg size zero fs (some e) ik kk bytes) (hte : ti e = .mk agg2 sz zero2 fs2 el2 ik2 kk2 bytes2) (hd : Dst E o d) (hi : i.a = some ⟨g, 0, none⟩) (j : Nat) (hj : m = (j : Int)) (hlt : j < m0) {n0 : Nat} {B0 : List (Nat × TypeId × Nat)}
   (hnext : next (.mk ((d, .v (.pointer (some ⟨g, j * sz, none⟩))) :: T) n c B M F)) :
   OpW (∀ A, ∃ s : SV, (∀ a w, WD E A n0 B0 Ms Fs w → TD E A T n c a w → (execOp a.eval o).run E.P w = .ok (.value (s.den A)) w ∧ s.okT n c w) ∧ (∃ d, Dst E o d ∧ next (.mk ((d, s) :: T) n c B M F))) := by
 refine ⟨fun A => ⟨.v (.pointer (some ⟨g, j * sz, none⟩)), fun a w hW hT => ⟨?_, trivial⟩, d, hd, hnext⟩⟩
 have htt := hti t
 rw [ht] at htt
 obtain ⟨ii, dd, z, e1, e2, e3, e4, e5, e6, e7, e8, e9, e10, e11⟩ := tiSum_parts htt
 have htt2 := hti e
 rw [hte] at htt2
 obtain ⟨ii2, dd2, z2, k1, k2, k3, k4, k5, k6, k7, k8, k9, k10, k11⟩ := tiSum_parts htt2
 have hdd := el_slice e8
 subst hj
 have hx' : a.eval x = .slice (some ⟨g, 0, none⟩) m0 i.c := by rw [(evalO_sound hT hx).1]; simp [SV.den, Sl.val, hi]
 have hix' : a.eval ix = .int kd j := (evalO_sound hT hix).1
 simp [execOp, hop, Instr.indexAt, hx', hix', asIntOf, underlying, e2, hdd, run_sizeOf k1, k4, hlt, SV.den]
 unfold Addr.add
 split <;> simp_all
theorem d_loadW {α : Type} {enc : α → List Value} {sz : Nat} (he : Enc enc sz) (k1 : Nat) {xs : List α} {i : Sl} {t e : TypeId} {x : Operand} {g ad d : Nat} {v : Value} {size : Nat} {zero : List Value} {fs : List (Nat × Nat × Bool)} {el : Option TypeId} {ik : Option IntKind} {kk bytes : Nat}
   (hti : ∀ t, TIok E.P t (ti t)) (hop : o.op = .load t x) (hx : evalO T x = some (.v (.pointer (some ⟨g, ad, none⟩)))) (ht : ti t = .mk false size zero fs el ik kk bytes) (hd : Dst E o d)
   (hF : F[k1]? = some (own i e enc sz xs)) (hi : i.a = some ⟨g, 0, none⟩) (j off : Nat) (had : ad = j * sz + off) (hj : j < xs.length) (hv : (enc xs[j])[off]? = some v)
   (hnext : next (.mk ((d, .v v) :: T) n (c + 1) B M F)) : OpW (opD E o Ms Fs next T n c B M F) := by
 refine ⟨opD0.up fun hkf A a w hW hT => ?_⟩
 have htt := hti t
 rw [ht] at htt
 obtain ⟨ii, dd, z, e1, e2, e3, e4, e5, e6, e7, e8, e9, e10, e11⟩ := tiSum_parts htt
 have hx' : a.eval x = .pointer (some ⟨g, ad, none⟩) := (evalO_sound hT hx).1
 have hrd := own_rd (hW.nth k1 hF).1
 obtain ⟨ad0, h1, h2⟩ := hrd.2.2.2 (by omega)
 rw [hi] at h1
 injection h1 with h1
 subst h1
 subst had
 have hc : w.cell? ⟨g, j * sz + off, none⟩ = some v := by
   have := h2 _ _ (cells_at he hj hv)
   have ha : (⟨g, 0, none⟩ : Addr).add (j * sz + off) = ⟨g, j * sz + off, none⟩ := by unfold Addr.add; split <;> simp_all
   rwa [ha] at this
 have hr : (execOp a.eval o).run E.P w = .ok (.value v) w := by
   simp [execOp, hop, hx', Instr.loadAt, Instr.sureAddr, run_loadVar_one (w := w) e2 e3 _ _ hc]
 refine upon_of_value hr ?_
 rw [hd.1]
 exact ⟨_, _, F, hW, fun w2 => (hT.step w2).put (v := .v v) hd.lt trivial, hkf, hnext⟩
theorem d_storeW {α : Type} {enc : α → List Value} {sz : Nat} (he : Enc enc sz) (k1 : Nat) {xs : List α} {i : Sl} {t e : TypeId} {x y : Operand} {g ad : Nat} {s : SV} {l : List SV} {sz2 : Nat} {agg : Bool} {zero : List Value} {fs : List (Nat × Nat × Bool)} {el : Option TypeId} {ik : Option IntKind} {kk bytes : Nat}
   (hti : ∀ t, TIok E.P t (ti t)) (hop : o.op = .store t x y) (hd : o.dst = none) (hx : evalO T x = some (.v (.pointer (some ⟨g, ad, none⟩)))) (hy : evalO T y = some s) (hl : cellsSV s = some l) (ht : ti t = .mk agg sz2 zero fs el ik kk bytes) (hlen : listLen l = sz2)
   (hF : F[k1]? = some (own i e enc sz xs)) (hi : i.a = some ⟨g, 0, none⟩) (j off : Nat) (y0 : α) (had : ad = j * sz + off) (hj : j < xs.length) (hle : Nat.ble (off + sz2) sz = true) (vs : List Value) (hvs : ∀ A, l.map (SV.den A) = vs)
   (hy0 : enc y0 = (enc xs[j]).take off ++ vs ++ (enc xs[j]).drop (off + vs.length)) (hkeep : keepF Fs F → keepF Fs (F.eraseIdx k1))
   (hnext : next (.mk T n (c + 1) B M (own i e enc sz (xs.set j y0) :: F.eraseIdx k1))) : OpW (opD E o Ms Fs next T n c B M F) := by
 refine ⟨opD0.up fun hkf A a w hW hT => ?_⟩
 have hown := (hW.nth k1 hF).1
 have htt := hti t
 rw [ht] at htt
 obtain ⟨ii, dd, z, e1, e2, e3, e4, e5, e6, e7, e8, e9, e10, e11⟩ := tiSum_parts htt
 obtain ⟨h1, h2⟩ := evalO_sound hT hy
 have h3 : a.eval x = .pointer (some ⟨g, ad, none⟩) := (evalO_sound hT hx).1
 obtain ⟨c1, c2, c3⟩ := cellsSV_spec (A := A) hl h2
 rw [hvs A] at c1
 have hvl : vs.length = sz2 := by rw [← hvs A, List.length_map, ← listLen_eq]; exact hlen
 have hle' := Nat.le_of_ble_eq_true hle
 have hjs : (j + 1) * sz ≤ xs.length * sz := Nat.mul_le_mul_right _ hj
 rw [Nat.succ_mul] at hjs
 subst had
 obtain ⟨w', hrun, hX, hnew⟩ := own_store (P := E.P) (w := w) (off := j * sz + off) (vs := vs) hown hi (by omega) (fun v hv => by
   rw [← hvs A] at hv
   obtain ⟨q, hq, rfl⟩ := List.mem_map.1 hv
   exact c3 q hq)
 rw [← cells_set he hj (by omega) hy0] at hnew
 have hr : (execOp a.eval o).run E.P w = .ok .skip w' := by
   have hcs : (s.den A).cells.size = ii.size := by
     have : (s.den A).cells.toList.length = vs.length := by rw [c1]
     simp at this
     rw [this, hvl, e4]
   simp only [execOp, hop, Instr.storeAt, h1, h3, Instr.sureAddr, Sem.run_bind, Sem.run_pure, Result.andThen_ok, storeVar, run_sizeOf e1]
   rw [if_neg (by simp [hcs]), c1]
   simp only [Result.andThen_ok, hrun]
 refine upon_of_skip hr ?_
 rw [hd]
 refine ⟨_, _, _, ?_, fun w2 => hT.step w2, fun f hf => List.mem_cons_of_mem _ (hkeep hkf f hf), hnext⟩
 show WD E A n B M (fOwn false i e sz (cells enc (xs.set j y0)) (xs.set j y0).length :: F.eraseIdx k1) w'
 have hlen' : (xs.set j y0).length = xs.length := by simp
 rw [hlen']
 exact hW.turnX hF hi hX hnew
end
section
variable {E : Env} {ti : Nat → TI} {A : Nat → Nat} {T : List (Nat × SV)} {n c : Nat} {B : List (Nat × TypeId × Nat)} {M Ms : List ((Nat × Nat) × SV)} {F Fs : List Fct} {o : Oper} {next : St → Prop} {a : Act} {w w' : World}
theorem WD.callPG (h : WD E A n B M F w) {k ty sz : Nat} (hk : (k, ty, sz) ∈ B) {cs : List Value} {ix : List Nat} {G : List Fct} (hG : FK F ix G) (hok : grantOk G) (hex : ExtX (fun b => b = A k ∨ gfoot G b) w w') (hnew : Blk w' (A k) ty cs) (hl : cs.length = sz) {L : List Fct} (hL : NewG w w' G L) :
   WD E A n B (storeL k 0 (cs.map .v) M) (L ++ dropAt ix 0 F) w' := by
 obtain ⟨hk1, hk2, hk3, cs0, hk4, hk5⟩ := h.key k ty sz hk
 have hgf : ∀ b, gfoot G b → b < w.heap.size ∧ (∀ k ty sz, (k, ty, sz) ∈ B → A k ≠ b) ∧ (E.w0.heap.size ≤ b ∨ E.X b) ∧ ∀ f ∈ dropAt ix 0 F, ¬ f.foot b := by
   rintro b ⟨g, hg, hb⟩
   obtain ⟨i, hi1, hi2⟩ := FK_at hG g hg
   obtain ⟨h1, h2, h3⟩ := h.fct _ (List.mem_of_getElem? hi2)
   obtain ⟨o1, o2⟩ := grantOk_all hok g hg
   refine ⟨(h2 b hb).1, (h2 b hb).2, h3 o2 b hb, fun f hf hfb => ?_⟩
   obtain ⟨j, hj1, hj2⟩ := dropAt_at ix F 0 f hf
   rw [Nat.zero_add] at hj2
   exact pairwise_pick h.dj (fun e => hj2 (by rw [← e]; exact hi1)) hi2 hj1 (.inl o1) b hb hfb
 have hsub := h.sub (dropAt_sub ix F 0)
 refine ⟨?_, h.inj, ?_, h.a0, h.n0, h.ext.trans' hex (fun i hi e => ?_), ?_, ?_⟩
 · intro k' ty' sz' hk'
   obtain ⟨g1, g2, g3, cs2, g4, g5⟩ := h.key k' ty' sz' hk'
   refine ⟨g1, Nat.lt_of_lt_of_le g2 hex.size, g3, ?_⟩
   by_cases e : A k' = A k
   · rw [e, hk4] at g4
     simp only [Option.some.injEq, Obj.cells.injEq] at g4
     obtain ⟨rfl, rfl, _⟩ := g4
     exact ⟨cs.toArray, by rw [e]; exact hnew, by simp; omega⟩
   · exact ⟨cs2, by rw [hex.block _ g2 (fun h' => h'.elim e (fun h' => (hgf _ h').2.1 k' ty' sz' hk' rfl))]; exact g4, g5⟩
 · intro k' o' v hv
   rw [lookM_storeL] at hv
   split at hv
   · rename_i hc
     obtain ⟨rfl, _, hc3⟩ := hc
     rw [Nat.sub_zero, List.getElem?_map] at hv
     cases hx : cs[o']? with
     | none => rw [hx] at hv; simp at hv
     | some u =>
       rw [hx] at hv; simp at hv; subst hv
       refine ⟨⟨ty, sz, hk⟩, ?_, trivial⟩
       rw [cell_of_row _ _ _ _ _ _ hnew]
       show cs.toArray[o']? = some u
       simpa using hx
   · rename_i hc
     obtain ⟨⟨ty', sz', hk'⟩, g2, g3⟩ := h.mem k' o' v hv
     refine ⟨⟨ty', sz', hk'⟩, ?_, g3⟩
     by_cases e : A k' = A k
     · have ek : k' = k := h.inj _ _ _ _ _ _ hk' hk e
       subst ek
       rw [cell_of_row _ _ _ _ _ _ hk4] at g2
       have : o' < cs0.size := (Array.getElem?_eq_some_iff.1 g2).1
       exact absurd ⟨rfl, Nat.zero_le _, by simp; omega⟩ hc
     · rw [← g2]
       exact World.cell?_of_block (hex.block _ (h.key _ _ _ hk').2.1 (fun h' => h'.elim e (fun h' => (hgf _ h').2.1 _ _ _ hk' rfl)))
 · rcases e with e | e
   · subst e
     rcases hk3 with hk3 | hk3
     · omega
     · exact hk3
   · exact (hgf i e).2.2.1.resolve_left (by omega)
 · intro f hf
   rcases List.mem_append.1 hf with hf | hf
   · obtain ⟨h1, h2, h3⟩ := hL.all f hf
     refine ⟨h1, fun b hb => ⟨(h3 b hb).2, fun k ty sz hk e => ?_⟩, fun _ b hb => ?_⟩
     · rcases (h3 b hb).1 with h4 | h4
       · have := (h.key k ty sz hk).2.1
         omega
       · exact (hgf b h4).2.1 k ty sz hk e
     · rcases (h3 b hb).1 with h4 | h4
       · exact .inl (Nat.le_trans h.ext.size h4)
       · exact (hgf b h4).2.2.1
   · obtain ⟨g1, g2, g3⟩ := hsub.fct f hf
     exact ⟨Fct.keep g1 (fun b hb => (g2 b hb).1) hex (fun b hb e => e.elim (fun e => (g2 b hb).2 k ty sz hk e.symm) (fun e => (hgf b e).2.2.2 f hf hb)), fun b hb => ⟨Nat.lt_of_lt_of_le (g2 b hb).1 hex.size, (g2 b hb).2⟩, g3⟩
 · rw [List.pairwise_append]
   refine ⟨hL.dj, hsub.dj, fun f hf g hg _ b hb hb' => ?_⟩
   rcases ((hL.all f hf).2.2 b hb).1 with h4 | h4
   · have := ((hsub.fct g hg).2.1 b hb').1
     omega
   · exact (hgf b h4).2.2.2 g hg hb'
theorem stop_callPG (R : Value → List Value → List Fct → Prop) (ix : List Nat) {G : List Fct} {k : Call} {fo : Operand} {g : FuncId} {cap : List (Nat × Nat)} {l : List SV} {d kb ty sz : Nat} {cs : List Value} (hc : callable E.P g = true)
   (hop : o.op = .call k) (hk : k.callee = .value fo) (hf : evalO T fo = some (.f g cap)) (ha : evalOs T k.args.toList = some (.p kb 0 :: l)) (hd : Dst E o d) (hB : lookBT B kb = some (ty, sz)) (hM : loadN M kb 0 sz = some cs) (hG : FK F ix G) (hok : grantOk G)
   (hcall : ∀ A w ga, ga = A kb → WD E A n B M F w → Blk w ga ty cs → Calls E.P g (.pointer (some ⟨ga, 0, none⟩) :: ((l.map (SV.den A)) ++ cap.map (fun x => ptr A x.1 x.2))).toArray w (RetPG w ga ty sz G R))
   (hnext : ∀ v cs L, R v cs L → storeK kb 0 (cs.map .v) M fun M' => next (.mk ((d, .v v) :: T) n (c + 1) B M' (L ++ dropAt ix 0 F))) :
   OpW (opStop E o next T n c B M F) := by
 refine ⟨fun A a w hW hT => ?_⟩
 unfold Oper.wp
 rw [call_enter hT hc hop hk hf ha, Oper.upon_enter]
 refine (hcall A w (A kb) rfl hW (hW.blk (lookBT_mem hB) hM).1).mono ?_
 rintro e w' ⟨v, cs', L, rfl, he, hb, hl, hL, hoff, hR⟩
 have hn := hnext v cs' L hR
 rw [storeK_eq] at hn
 refine ⟨_, ⟨_, hW.callPG (lookBT_mem hB) hG hok he hb hl hL, ?_⟩, hn⟩
 rw [hd.1]
 exact (hT.step w').put (v := .v v) hd.lt trivial
end
theorem bundle_st (G : List Fct) (w w' : World) (hb : ∀ b, (∃ f ∈ G, f.foot b) → w'.heap[b]? = w.heap[b]?) (h : ∀ f ∈ G, f.P w) : ∀ f ∈ G, f.P w' :=
 fun f hf => f.st w w' (fun b hfb => hb b ⟨f, hf, hfb⟩) (h f hf)
abbrev fB (old : Bool) (G : List Fct) : Fct := .other old false (fun b => ∃ f ∈ G, f.foot b) (fun w => ∀ f ∈ G, f.P w) (bundle_st G)
section
variable {E : Env} {A : Nat → Nat} {T : List (Nat × SV)} {n c : Nat} {B : List (Nat × TypeId × Nat)} {M Ms : List ((Nat × Nat) × SV)} {F Fs : List Fct} {o : Oper} {next : St → Prop} {w : World}
inductive DerB : Fct → List Fct → Prop
 | own {i : Sl} {e sz n : Nat} {cs : List Value} : DerB (fOwn false i e sz cs n) [fSl false i sz cs n]
 | sl {i : Sl} {sz n : Nat} {cs : List Value} : DerB (fSl false i sz cs n) [fSl false i sz cs n]
 | b {G : List Fct} : DerB (fB false G) G
theorem DerB.out {f : Fct} {G : List Fct} (h : DerB f G) : f.old = false ∧ (∀ w, f.P w → ∀ g ∈ G, g.P w) ∧ ∀ g ∈ G, ∀ b, g.foot b → f.foot b := by
 cases h with
 | own => exact ⟨rfl, fun w h g hg => by obtain rfl := List.mem_singleton.1 hg; exact own_rd h, fun g hg b hb => by obtain rfl := List.mem_singleton.1 hg; exact hb.2⟩
 | sl => exact ⟨rfl, fun w h g hg => by obtain rfl := List.mem_singleton.1 hg; exact h, fun g hg b hb => by obtain rfl := List.mem_singleton.1 hg; exact hb⟩
 | b => exact ⟨rfl, fun w h g hg => h g hg, fun g hg b hb => ⟨g, hg, hb⟩⟩
def Fct.aged : Fct → Fct
 | .sl _ i sz cs n => .sl true i sz cs n
 | .own _ i _ sz cs n => .sl true i sz cs n
 | .other _ _ foot P st => .other true false foot P st
theorem Fct.aged_out : ∀ (f : Fct), (∀ w, f.P w → f.aged.P w) ∧ ∀ b, f.aged.foot b → f.foot b
 | .sl .. => z136
 | .own .. => ⟨fun _ h => own_rd h, fun _ h => h.2⟩
 | .other .. => z136
end
structure Rd (f g : Fct) : Prop where
 p : ∀ w, f.P w → g.P w
 foot : ∀ b, g.foot b → f.foot b
theorem Rd.refl (f : Fct) : Rd f f := z136
theorem Rd.trans {f g e : Fct} (h : Rd f g) (k : Rd g e) : Rd f e := ⟨fun w x => k.p w (h.p w x), fun b x => h.foot b (k.foot b x)⟩
theorem Rd.aged (f : Fct) : Rd f f.aged := ⟨f.aged_out.1, f.aged_out.2⟩
theorem Rd.sl {o o' : Bool} {i : Sl} {sz n : Nat} {cs : List Value} : Rd (fSl o i sz cs n) (fSl o' i sz cs n) := z136
theorem Rd.own {o o' : Bool} {i : Sl} {e sz n : Nat} {cs : List Value} : Rd (fOwn o i e sz cs n) (fSl o' i sz cs n) := ⟨fun _ h => own_rd h, fun _ h => h.2⟩
theorem ob_st (G : List Fct) (w w' : World) (hb : ∀ b, (∃ f ∈ G, f.foot b) → w'.heap[b]? = w.heap[b]?) (h : (∀ f ∈ G, f.P w ∧ f.isOwn = true ∧ f.old = false) ∧ G.Pairwise Dj) : (∀ f ∈ G, f.P w' ∧ f.isOwn = true ∧ f.old = false) ∧ G.Pairwise Dj :=
 ⟨fun f hf => ⟨f.st w w' (fun b hfb => hb b ⟨f, hf, hfb⟩) (h.1 f hf).1, (h.1 f hf).2⟩, h.2⟩
abbrev fO (G : List Fct) : Fct := .other false true (fun b => ∃ f ∈ G, f.foot b) (fun w => (∀ f ∈ G, f.P w ∧ f.isOwn = true ∧ f.old = false) ∧ G.Pairwise Dj) (ob_st G)
abbrev fR (G : List Fct) : Fct := fB true (G.map Fct.aged)
def RdIn (G : List Fct) (g : Fct) : Prop := ∃ f ∈ G, Rd f.aged g
theorem RdIn.own {G : List Fct} {o o' : Bool} {i : Sl} {e sz n : Nat} {cs : List Value} (h : fOwn o i e sz cs n ∈ G) : RdIn G (fSl o' i sz cs n) := ⟨_, h, Rd.sl⟩
theorem Rd.ofO {G : List Fct} {g : Fct} (h : RdIn G g) : Rd (fO G) g := by
 obtain ⟨f, hf, h⟩ := h
 exact ⟨fun w hw => h.p w (f.aged_out.1 w (hw.1 f hf).1), fun b hb => ⟨f, hf, f.aged_out.2 b (h.foot b hb)⟩⟩
theorem Rd.ofR {G : List Fct} {g : Fct} (h : RdIn G g) : Rd (fR G) g := by
 obtain ⟨f, hf, h⟩ := h
 exact ⟨fun w hw => h.p w (hw _ (List.mem_map_of_mem hf)), fun b hb => ⟨_, List.mem_map_of_mem hf, h.foot b hb⟩⟩
theorem Rd.O_R {G G' : List Fct} (h : ∀ g ∈ G', g ∈ G) : Rd (fO G) (fR G') := by
 refine ⟨fun w hw g hg => ?_, ?_⟩
 · obtain ⟨f, hf, rfl⟩ := List.mem_map.1 hg
   exact f.aged_out.1 w (hw.1 f (h f hf)).1
 · rintro b ⟨g, hg, hb⟩
   obtain ⟨f, hf, rfl⟩ := List.mem_map.1 hg
   exact ⟨f, h f hf, f.aged_out.2 b hb⟩
theorem Rd.R_R {G G' : List Fct} (h : ∀ g ∈ G', g ∈ G) : Rd (fR G) (fR G') := by
 refine ⟨fun w hw g hg => ?_, ?_⟩
 · obtain ⟨f, hf, rfl⟩ := List.mem_map.1 hg
   exact hw _ (List.mem_map_of_mem (h f hf))
 · rintro b ⟨g, hg, hb⟩
   obtain ⟨f, hf, rfl⟩ := List.mem_map.1 hg
   exact ⟨_, List.mem_map_of_mem (h f hf), hb⟩
def Shift (F F' : List Fct) : Prop := ∀ (E : Env) (A : Nat → Nat) (n : Nat) (B : List (Nat × TypeId × Nat)) (M : List ((Nat × Nat) × SV)) (w : World), WD E A n B M F w → WD E A n B M F' w
theorem Shift.trans {F F' F'' : List Fct} (h : Shift F F') (k : Shift F' F'') : Shift F F'' := fun E A n B M w x => k E A n B M w (h E A n B M w x)
inductive DerO : Fct → List Fct → Prop
 | own {i : Sl} {e sz n : Nat} {cs : List Value} : DerO (fOwn false i e sz cs n) [fOwn false i e sz cs n]
 | o {G : List Fct} : DerO (fO G) G
theorem DerO.out {f : Fct} {G : List Fct} (h : DerO f G) : (∀ w, f.P w → (∀ g ∈ G, g.P w ∧ g.isOwn = true ∧ g.old = false) ∧ G.Pairwise Dj) ∧ (∀ g ∈ G, ∀ b, g.foot b → f.foot b) ∧ f.isOwn = true ∧ f.old = false := by
 cases h with
 | own => exact ⟨fun w h => ⟨fun g hg => by obtain rfl := List.mem_singleton.1 hg; exact ⟨h, rfl, rfl⟩, List.pairwise_singleton _ _⟩, fun g hg b hb => by obtain rfl := List.mem_singleton.1 hg; exact hb, rfl, rfl⟩
 | o => exact ⟨fun w h => h, fun g hg b hb => ⟨g, hg, hb⟩, rfl, rfl⟩
def FJ (F : List Fct) : List Nat → List (List Fct) → Prop
 | [], [] => True
 | j :: jx, G :: r => ((∃ f, F[j]? = some f ∧ DerO f G) ∨ (F.length ≤ j ∧ ∀ g ∈ G, nilFact g)) ∧ FJ F jx r
 | _, _ => False
theorem nil_foot {g : Fct} (h : nilFact g) : ∀ b, ¬ g.foot b := by
 cases g with
 | own old i e sz cs n => obtain ⟨_, rfl, _⟩ := h; rintro b ⟨ad, h, _⟩; cases h
 | _ => exact h.elim
theorem nil_own {g : Fct} (h : nilFact g) : g.isOwn = true := by
 cases g with
 | own => rfl
 | _ => exact h.elim
theorem nil_pairwise {G : List Fct} (h : ∀ g ∈ G, nilFact g) : G.Pairwise Dj := by
 rw [List.pairwise_iff_getElem]
 intro i j hi hj _ _ b hb
 exact (nil_foot (h _ (List.getElem_mem hi)) b hb).elim
theorem FJ_len {F : List Fct} : ∀ {ix : List Nat} {Gs : List (List Fct)}, FJ F ix Gs → ix.length = Gs.length
 | [], [], _ => rfl
 | [], _ :: _, h => h.elim
 | _ :: _, [], h => h.elim
 | _ :: _, _ :: _, h => by simp [FJ_len h.2]
theorem FJ_get {F : List Fct} : ∀ {ix : List Nat} {Gs : List (List Fct)}, FJ F ix Gs → ∀ (p j : Nat) (G : List Fct), ix[p]? = some j → Gs[p]? = some G → (∃ f, F[j]? = some f ∧ DerO f G) ∨ ∀ g ∈ G, nilFact g
 | [], _, _, p, j, G, h, _ => by simp at h
 | _ :: _, [], h, _, _, _, _, _ => h.elim
 | i :: ix, G :: r, h, p, j, G', h1, h2 => by
   cases p with
   | zero =>
     simp at h1 h2
     subst h1; subst h2
     exact h.1.imp id (·.2)
   | succ p => exact FJ_get h.2 p j G' (by simpa using h1) (by simpa using h2)
section
variable {E : Env} {A : Nat → Nat} {T : List (Nat × SV)} {n c : Nat} {B : List (Nat × TypeId × Nat)} {M Ms : List ((Nat × Nat) × SV)} {F F' Fs : List Fct} {o : Oper} {next : St → Prop} {w : World}
theorem Shift.splitO (k : Nat) {L G G' : List Fct} (hk : F[k]? = some (fO G)) (hp : G.Perm (L ++ G')) : Shift F (L ++ fO G' :: F.eraseIdx k) := by
 intro E A n B M w h
 obtain ⟨⟨h1, hpw⟩, h2, h3⟩ := h.fct _ (List.mem_of_getElem? hk)
 have hsub := h.sub (eraseIdx_sub F k)
 have hdj := pairwise_nth_erase h.dj hk
 have hpw' := (hp.pairwise_iff (fun h => Dj.symm h)).1 hpw
 rw [List.pairwise_append] at hpw'
 obtain ⟨q1, q2, q3⟩ := hpw'
 have hL : ∀ f ∈ L, f ∈ G := fun f hf => hp.mem_iff.2 (List.mem_append_left _ hf)
 have hG' : ∀ f ∈ G', f ∈ G := fun f hf => hp.mem_iff.2 (List.mem_append_right _ hf)
 refine ⟨h.key, h.inj, h.mem, h.a0, h.n0, h.ext, fun f hf => ?_, ?_⟩
 · rcases List.mem_append.1 hf with hf | hf
   · exact ⟨(h1 f (hL f hf)).1, fun b hb => h2 b ⟨f, hL f hf, hb⟩, fun _ b hb => h3 rfl b ⟨f, hL f hf, hb⟩⟩
   · rcases List.mem_cons.1 hf with rfl | hf
     · refine ⟨⟨fun g hg => h1 g (hG' g hg), q2⟩, ?_, ?_⟩
       · rintro b ⟨g, hg, hb⟩; exact h2 b ⟨g, hG' g hg, hb⟩
       · rintro _ b ⟨g, hg, hb⟩; exact h3 rfl b ⟨g, hG' g hg, hb⟩
     · exact hsub.fct f hf
 · rw [List.pairwise_append]
   refine ⟨q1, ?_, fun f hf g hg ho b hb hb' => ?_⟩
   · rw [List.pairwise_cons]
     refine ⟨fun f hf ho b hb hb' => ?_, hsub.dj⟩
     obtain ⟨g, hg, hgb⟩ := hb
     exact hdj f hf (.inl rfl) b ⟨g, hG' g hg, hgb⟩ hb'
   · rcases List.mem_cons.1 hg with rfl | hg
     · obtain ⟨g, hg, hgb⟩ := hb'
       exact q3 f hf g hg (.inl (h1 f (hL f hf)).2.1) b hb hgb
     · exact hdj g hg (.inl rfl) b ⟨f, hL f hf, hb⟩ hb'
theorem Shift.joinO (ix : List Nat) {Gs : List (List Fct)} (hG : FJ F ix Gs) (hix : nodupB ix = true) {G : List Fct} (hp : Gs.flatten.Perm G) : Shift F (fO G :: dropAt ix 0 F) := by
 intro E A n B M w h
 have hsub := h.sub (dropAt_sub ix F 0)
 have hnd := nodupB_ok hix
 have hlen := FJ_len hG
 have hmem : ∀ g ∈ Gs.flatten, g.isOwn = true ∧ g.old = false ∧ ((∃ i ∈ ix, ∃ f, F[i]? = some f ∧ f.isOwn = true ∧ f.old = false ∧ g.P w ∧ ∀ b, g.foot b → f.foot b) ∨ nilFact g) := by
   intro g hg
   obtain ⟨G0, h0, hg0⟩ := List.mem_flatten.1 hg
   obtain ⟨p, hpp⟩ := List.getElem?_of_mem h0
   have hplt : p < ix.length := by rw [hlen]; exact (List.getElem?_eq_some_iff.1 hpp).1
   rcases FJ_get hG p ix[p] G0 (List.getElem?_eq_getElem hplt) hpp with ⟨f, hf, hd⟩ | hn
   · obtain ⟨d1, d2, d3, d4⟩ := hd.out
     have hfw := (h.nth _ hf).1
     exact ⟨((d1 w hfw).1 g hg0).2.1, ((d1 w hfw).1 g hg0).2.2, .inl ⟨_, List.getElem_mem hplt, f, hf, d3, d4, ((d1 w hfw).1 g hg0).1, d2 g hg0⟩⟩
   · exact ⟨nil_own (hn g hg0), (nilFact_ok (hn g hg0) w).2.2, .inr (hn g hg0)⟩
 have hpw : Gs.flatten.Pairwise Dj := by
   rw [List.pairwise_flatten]
   refine ⟨fun l hl => ?_, ?_⟩
   · obtain ⟨p, hpp⟩ := List.getElem?_of_mem hl
     have hplt : p < ix.length := by rw [hlen]; exact (List.getElem?_eq_some_iff.1 hpp).1
     rcases FJ_get hG p ix[p] l (List.getElem?_eq_getElem hplt) hpp with ⟨f, hf, hd⟩ | hn
     · exact (hd.out.1 w (h.nth _ hf).1).2
     · exact nil_pairwise hn
   · rw [List.pairwise_iff_getElem]
     intro p q hp' hq' hpq x hx y hy _ b hb hb'
     have hpi : p < ix.length := by rw [hlen]; exact hp'
     have hqi : q < ix.length := by rw [hlen]; exact hq'
     rcases FJ_get hG p ix[p] _ (List.getElem?_eq_getElem hpi) (List.getElem?_eq_getElem hp') with ⟨f, hf, hd⟩ | hn
     · rcases FJ_get hG q ix[q] _ (List.getElem?_eq_getElem hqi) (List.getElem?_eq_getElem hq') with ⟨f', hf', hd'⟩ | hn
       · have hne : ix[p] ≠ ix[q] := List.pairwise_iff_getElem.1 hnd p q hpi hqi hpq
         exact pairwise_pick h.dj hne hf hf' (.inl hd.out.2.2.1) b (hd.out.2.1 x hx b hb) (hd'.out.2.1 y hy b hb')
       · exact nil_foot (hn y hy) b hb'
     · exact nil_foot (hn x hx) b hb
 have hm' : ∀ g ∈ G, g ∈ Gs.flatten := fun g hg => hp.mem_iff.2 hg
 refine ⟨hsub.key, hsub.inj, hsub.mem, hsub.a0, hsub.n0, hsub.ext, fun f hf => ?_, ?_⟩
 · rcases List.mem_cons.1 hf with rfl | hf
   · refine ⟨⟨fun g hg => ?_, (hp.pairwise_iff (fun h => Dj.symm h)).1 hpw⟩, ?_, ?_⟩
     · obtain ⟨m1, m2, m3⟩ := hmem g (hm' g hg)
       refine ⟨?_, m1, m2⟩
       rcases m3 with ⟨i, _, f, _, _, _, hgP, _⟩ | hn
       · exact hgP
       · exact (nilFact_ok hn w).1
     · rintro b ⟨g, hg, hb⟩
       rcases (hmem g (hm' g hg)).2.2 with ⟨i, _, f, hf, _, _, _, hfoot⟩ | hn
       · exact (h.fct _ (List.mem_of_getElem? hf)).2.1 b (hfoot b hb)
       · exact (nil_foot hn b hb).elim
     · rintro _ b ⟨g, hg, hb⟩
       rcases (hmem g (hm' g hg)).2.2 with ⟨i, _, f, hf, _, hold, _, hfoot⟩ | hn
       · exact (h.fct _ (List.mem_of_getElem? hf)).2.2 hold b (hfoot b hb)
       · exact (nil_foot hn b hb).elim
   · exact hsub.fct f hf
 · rw [List.pairwise_cons]
   refine ⟨fun r hr ho b hb hb' => ?_, hsub.dj⟩
   obtain ⟨g, hg, hgb⟩ := hb
   rcases (hmem g (hm' g hg)).2.2 with ⟨i, hi, f, hf, hown, _, _, hfoot⟩ | hn
   · obtain ⟨j, hj1, hj2⟩ := dropAt_at ix F 0 r hr
     rw [Nat.zero_add] at hj2
     exact pairwise_pick h.dj (fun e => hj2 (by rw [← e]; exact hi)) hf hj1 (.inl hown) b (hfoot b hgb) hb'
   · exact nil_foot hn b hgb
theorem Shift.read (k : Nat) {f g : Fct} (hk : F[k]? = some f) (hf : f.isOwn = false) (hg : g.isOwn = false) (ho : f.old = g.old) (h : Rd f g) : Shift F (g :: F) := by
 intro E A n B M w hW
 obtain ⟨h1, h2, h3⟩ := hW.fct _ (List.mem_of_getElem? hk)
 refine ⟨hW.key, hW.inj, hW.mem, hW.a0, hW.n0, hW.ext, fun f' hf' => ?_, ?_⟩
 · rcases List.mem_cons.1 hf' with rfl | hf'
   · exact ⟨h.p w h1, fun b hb => h2 b (h.foot b hb), fun e b hb => h3 (ho.trans e) b (h.foot b hb)⟩
   · exact hW.fct f' hf'
 · rw [List.pairwise_cons]
   refine ⟨fun r hr hor b hb hb' => ?_, hW.dj⟩
   rw [hg] at hor
   rcases hor with hor | hor
   · cases hor
   · obtain ⟨j, hj, rfl⟩ := List.getElem_of_mem hr
     have hj' : F[j]? = some F[j] := List.getElem?_eq_getElem hj
     by_cases e : k = j
     · subst e
       rw [hk] at hj'
       injection hj' with hj'
       rw [← hj', hf] at hor
       cases hor
     · exact pairwise_pick hW.dj e hk hj' (.inr hor) b (h.foot b hb) hb'
theorem Shift.pick (ix : List Nat) (hF : FW F ix F') (hix : nodupB ix = true) : Shift F F' := fun _ _ _ _ _ _ h => h.pick ix hF hix
theorem stop_shift (h : Shift F F') (k : OpW (opStop E o next T n c B M F')) : OpW (opStop E o next T n c B M F) := ⟨fun A a w hW hT => k.out A a w (h E A n B M w hW) hT⟩
theorem weak_shift {s : St} (h : Shift F F') (k : Weak E (.mk T n c B M F') s) : Weak E (.mk T n c B M F) s := fun a w ⟨A, hW, hT⟩ => k a w ⟨A, h E A n B M w hW, hT⟩
theorem ret_shift {X : (Nat → Nat) → World → Prop} (h : Shift F F') (k : RetW (∀ A w, WD E A n B M F' w → X A w)) : RetW (∀ A w, WD E A n B M F w → X A w) := ⟨fun A w hW => k.out A w (h E A n B M w hW)⟩
theorem draw_shift {X : Act → World → Prop} (h : Shift F F') (k : DrawW (∀ a w, Den E (.mk T n c B M F') a w → X a w)) : DrawW (∀ a w, Den E (.mk T n c B M F) a w → X a w) := ⟨fun a w ⟨A, hW, hT⟩ => k.out a w ⟨A, h E A n B M w hW, hT⟩⟩
theorem d_shift (h : Shift F F') (hkeep : keepF Fs F → keepF Fs F') (k : OpW (opD E o Ms Fs next T n c B M F')) : OpW (opD E o Ms Fs next T n c B M F) :=
 ⟨fun hm hf A a w hW hT => k.out hm (hkeep hf) A a w (h E A n B M w hW) hT⟩
theorem WD.get (h : WD E A n B M F w) (k : Nat) {f g : Fct} (hk : F[k]? = some f) (r : Rd f g) : g.P w ∧ ∀ b, g.foot b → b < w.heap.size :=
 ⟨r.p w (h.nth k hk).1, fun b hb => (h.nth k hk).2 b (r.foot b hb)⟩
theorem WD.getP (h : WD E A n B M F w) (ga : Nat) {k ty sz : Nat} (hg : ga = A k) (hB : lookBT B k = some (ty, sz)) (j : Nat) {f g : Fct} (hj : F[j]? = some f) (r : Rd f g) : g.P w ∧ ∀ b, g.foot b → b < w.heap.size ∧ b ≠ ga := by
 subst hg
 refine ⟨r.p w (h.nth j hj).1, fun b hb => ?_⟩
 exact ⟨((h.fct _ (List.mem_of_getElem? hj)).2.1 b (r.foot b hb)).1, fun e => ((h.fct _ (List.mem_of_getElem? hj)).2.1 b (r.foot b hb)).2 k ty sz (lookBT_mem hB) e.symm⟩
theorem rdVia {F : List Fct} (k : Nat) {f : Fct} (hk : F[k]? = some f) {o : Bool} {i : Sl} {sz m : Nat} {cs : List Value} (r : Rd f (fSl o i sz cs m)) : ∀ w, (∀ f ∈ F, f.P w) → RdS w i sz cs m :=
 fun w h => r.p w (h f (List.mem_of_getElem? hk))
end
end Go.Sx
namespace Go.Proofs.YtjkkoonennpceaaGreat
open Go Go.Sx Go.RowKit
structure Waiter where
 t : Int
 n : Int
 deriving DecidableEq
def cWaiter (l : Waiter) : List Value := [.int .i64 l.t, .int .i64 l.n]
theorem encWaiter : Enc cWaiter 2 := ⟨fun _ => rfl, fun _ u hu => by simp [cWaiter] at hu; rcases hu with rfl | rfl <;> rfl⟩
structure Sem where
 free : Int
 limit : Int
 queue : List Waiter
 deriving DecidableEq
structure Once where
 state : Int
 owner : Int
 value : Int
 waits : List Int
 deriving DecidableEq
structure Group where
 count : Int
 waits : List Int
 deriving DecidableEq
structure Barrier where
 parties : Int
 round : Int
 waits : List Int
 deriving DecidableEq
def semV (m : Sem) (q : Sl) : Value := .agg #[.int .i64 m.free, .int .i64 m.limit, q.val m.queue.length]
def onceV (m : Once) (q : Sl) : Value := .agg #[.int .i64 m.state, .int .i64 m.owner, .int .i64 m.value, q.val m.waits.length]
def groupV (m : Group) (q : Sl) : Value := .agg #[.int .i64 m.count, q.val m.waits.length]
def barrierV (m : Barrier) (q : Sl) : Value := .agg #[.int .i64 m.parties, .int .i64 m.round, q.val m.waits.length]
def nestO {α : Type} (h : Sl) (ty : TypeId) (enc : α → List Value) (sz : Nat) (inner : α → List Fct) (xs : List α) : List Fct := own h ty enc sz xs :: xs.flatMap inner
theorem nest_in {α : Type} {h : Sl} {ty : TypeId} {enc : α → List Value} {sz : Nat} {inner : α → List Fct} {xs : List α} {j : Nat} (hj : j < xs.length) {f : Fct} (hf : f ∈ inner xs[j]) : f ∈ nestO h ty enc sz inner xs :=
 List.mem_cons_of_mem _ (List.mem_flatMap.2 ⟨_, List.getElem_mem hj, hf⟩)
theorem nest_h {α : Type} {h : Sl} {ty : TypeId} {enc : α → List Value} {sz : Nat} {inner : α → List Fct} {xs : List α} : RdIn (nestO h ty enc sz inner xs) (slo h enc sz xs) := RdIn.own (List.mem_cons_self ..)
structure SemH where
 m : Sem
 q : Sl
structure OnceH where
 m : Once
 q : Sl
structure GroupH where
 m : Group
 q : Sl
structure BarrierH where
 m : Barrier
 q : Sl
structure ChanH where
 m : Chan
 q0 : Sl
 q1 : Sl
 q2 : Sl
def cSemH (x : SemH) : List Value := [.int .i64 x.m.free, .int .i64 x.m.limit, x.q.val x.m.queue.length]
def cOnceH (x : OnceH) : List Value := [.int .i64 x.m.state, .int .i64 x.m.owner, .int .i64 x.m.value, x.q.val x.m.waits.length]
def cGroupH (x : GroupH) : List Value := [.int .i64 x.m.count, x.q.val x.m.waits.length]
def cBarrierH (x : BarrierH) : List Value := [.int .i64 x.m.parties, .int .i64 x.m.round, x.q.val x.m.waits.length]
def cChanH (x : ChanH) : List Value := [.int .i64 x.m.room, x.q0.val x.m.items.length, x.q1.val x.m.senders.length, x.q2.val x.m.getters.length, .bool x.m.closed]
theorem encSemH : Enc cSemH 3 := ⟨fun _ => rfl, fun _ u hu => by simp [cSemH] at hu; rcases hu with rfl | rfl | rfl <;> rfl⟩
theorem encOnceH : Enc cOnceH 4 := ⟨fun _ => rfl, fun _ u hu => by simp [cOnceH] at hu; rcases hu with rfl | rfl | rfl | rfl <;> rfl⟩
theorem encGroupH : Enc cGroupH 2 := ⟨fun _ => rfl, fun _ u hu => by simp [cGroupH] at hu; rcases hu with rfl | rfl <;> rfl⟩
theorem encBarrierH : Enc cBarrierH 3 := ⟨fun _ => rfl, fun _ u hu => by simp [cBarrierH] at hu; rcases hu with rfl | rfl | rfl <;> rfl⟩
theorem encChanH : Enc cChanH 5 := ⟨fun _ => rfl, fun _ u hu => by simp [cChanH] at hu; rcases hu with rfl | rfl | rfl | rfl | rfl <;> rfl⟩
def semO (x : SemH) : List Fct := [own x.q 137 cWaiter 2 x.m.queue]
def onceO (x : OnceH) : List Fct := [own x.q 3 cInt 1 x.m.waits]
def groupO (x : GroupH) : List Fct := [own x.q 3 cInt 1 x.m.waits]
def barrierO (x : BarrierH) : List Fct := [own x.q 3 cInt 1 x.m.waits]
def chanO (x : ChanH) : List Fct := [own x.q0 3 cInt 1 x.m.items, own x.q1 144 cLet 2 x.m.senders, own x.q2 3 cInt 1 x.m.getters]
def semsO (h : Sl) (xs : List SemH) : List Fct := nestO h 57 cSemH 3 semO xs
def oncesO (h : Sl) (xs : List OnceH) : List Fct := nestO h 70 cOnceH 4 onceO xs
def groupsO (h : Sl) (xs : List GroupH) : List Fct := nestO h 74 cGroupH 2 groupO xs
def barriersO (h : Sl) (xs : List BarrierH) : List Fct := nestO h 65 cBarrierH 3 barrierO xs
def chansO (h : Sl) (xs : List ChanH) : List Fct := nestO h 80 cChanH 5 chanO xs
theorem semsO_0 (h : Sl) (xs : List SemH) (j : Nat) (hj : j < xs.length) : RdIn (semsO h xs) (slo (xs[j]).q cWaiter 2 (xs[j]).m.queue) := RdIn.own (nest_in hj (List.mem_cons_self ..))
theorem oncesO_0 (h : Sl) (xs : List OnceH) (j : Nat) (hj : j < xs.length) : RdIn (oncesO h xs) (slo (xs[j]).q cInt 1 (xs[j]).m.waits) := RdIn.own (nest_in hj (List.mem_cons_self ..))
theorem groupsO_0 (h : Sl) (xs : List GroupH) (j : Nat) (hj : j < xs.length) : RdIn (groupsO h xs) (slo (xs[j]).q cInt 1 (xs[j]).m.waits) := RdIn.own (nest_in hj (List.mem_cons_self ..))
theorem barriersO_0 (h : Sl) (xs : List BarrierH) (j : Nat) (hj : j < xs.length) : RdIn (barriersO h xs) (slo (xs[j]).q cInt 1 (xs[j]).m.waits) := RdIn.own (nest_in hj (List.mem_cons_self ..))
theorem chansO_0 (h : Sl) (xs : List ChanH) (j : Nat) (hj : j < xs.length) : RdIn (chansO h xs) (slo (xs[j]).q0 cInt 1 (xs[j]).m.items) := RdIn.own (nest_in hj (List.mem_cons_self ..))
theorem chansO_1 (h : Sl) (xs : List ChanH) (j : Nat) (hj : j < xs.length) : RdIn (chansO h xs) (slo (xs[j]).q1 cLet 2 (xs[j]).m.senders) := RdIn.own (nest_in hj (List.mem_cons_of_mem _ (List.mem_cons_self ..)))
theorem chansO_2 (h : Sl) (xs : List ChanH) (j : Nat) (hj : j < xs.length) : RdIn (chansO h xs) (slo (xs[j]).q2 cInt 1 (xs[j]).m.getters) := RdIn.own (nest_in hj (List.mem_cons_of_mem _ (List.mem_cons_of_mem _ (List.mem_cons_self ..))))
theorem map_take_succ {α β : Type} {f : α → β} {xs : List α} {ys : List β} {k : Nat} (hk : k < xs.length) (h : ys = (xs.map f).take k) {y : β} (hy : y = f xs[k]) : ys ++ [y] = (xs.map f).take (k + 1) := by
 subst hy; subst h
 rw [List.take_succ_eq_append_getElem (by simpa using hk), List.getElem_map]
theorem e_succ (k n : Nat) (h : k < n) (hn : n ≤ 4611686018427387904) : IntKind.i64.wrap ((k : Int) + 1) = ((k + 1 : Nat) : Int) := by
 rw [IntKind.wrap_i64]; omega
structure Op where
 kind : Int
 on : Int
 arg : Int
 deriving DecidableEq
def cOp (l : Op) : List Value := [.int .i64 l.kind, .int .i64 l.on, .int .i64 l.arg]
theorem encOp : Enc cOp 3 := ⟨fun _ => rfl, fun _ u hu => by simp [cOp] at hu; rcases hu with rfl | rfl | rfl <;> rfl⟩
def Op0 : Op := ⟨0, 0, 0⟩
structure OpSH where
 m : List Op
 q : Sl
def cOpSH (x : OpSH) : List Value := [x.q.val x.m.length]
theorem encOpSH : Enc cOpSH 1 := ⟨fun _ => rfl, fun _ u hu => by simp [cOpSH] at hu; subst hu; rfl⟩
def opSO (x : OpSH) : List Fct := [own x.q 44 cOp 3 x.m]
def threadsO (h : Sl) (xs : List OpSH) : List Fct := nestO h 47 cOpSH 1 opSO xs
theorem threadsO_0 (h : Sl) (xs : List OpSH) (j : Nat) (hj : j < xs.length) : RdIn (threadsO h xs) (slo (xs[j]).q cOp 3 (xs[j]).m) := RdIn.own (nest_in hj (List.mem_cons_self ..))
structure Prog where
 sems : List Int
 groups : List Int
 barriers : List Int
 rooms : List Int
 threads : List (List Op)
 deriving DecidableEq
structure ProgH where
 sems : List Int
 groups : List Int
 barriers : List Int
 rooms : List Int
 threads : List OpSH
 h0 : Sl
 h1 : Sl
 h2 : Sl
 h3 : Sl
 h4 : Sl
def ProgH.pure (s : ProgH) : Prog := ⟨s.sems, s.groups, s.barriers, s.rooms, s.threads.map (·.m)⟩
def progV (s : ProgH) : Value := .agg #[s.h0.val s.sems.length, s.h1.val s.groups.length, s.h2.val s.barriers.length, s.h3.val s.rooms.length, s.h4.val s.threads.length]
def progO (s : ProgH) : List Fct := own s.h0 3 cInt 1 s.sems :: own s.h1 3 cInt 1 s.groups :: own s.h2 3 cInt 1 s.barriers :: own s.h3 3 cInt 1 s.rooms :: threadsO s.h4 s.threads
theorem progO_sems (s : ProgH) : RdIn (progO s) (slo s.h0 cInt 1 s.sems) := RdIn.own (o := false) (e := 3) (by simp [progO])
theorem progO_groups (s : ProgH) : RdIn (progO s) (slo s.h1 cInt 1 s.groups) := RdIn.own (o := false) (e := 3) (by simp [progO])
theorem progO_barriers (s : ProgH) : RdIn (progO s) (slo s.h2 cInt 1 s.barriers) := RdIn.own (o := false) (e := 3) (by simp [progO])
theorem progO_rooms (s : ProgH) : RdIn (progO s) (slo s.h3 cInt 1 s.rooms) := RdIn.own (o := false) (e := 3) (by simp [progO])
theorem progO_threads (s : ProgH) : ∀ g ∈ threadsO s.h4 s.threads, g ∈ progO s := fun g hg => by simp [progO, hg]
structure State where
 places : List Int
 status : List Int
 sems : List Sem
 onces : List Once
 groups : List Group
 barriers : List Barrier
 chans : List Chan
 said : List Int
 fault : Int
 deriving DecidableEq
structure StateH where
 places : List Int
 status : List Int
 sems : List SemH
 onces : List OnceH
 groups : List GroupH
 barriers : List BarrierH
 chans : List ChanH
 said : List Int
 fault : Int
 h0 : Sl
 h1 : Sl
 h2 : Sl
 h3 : Sl
 h4 : Sl
 h5 : Sl
 h6 : Sl
 h7 : Sl
def StateH.pure (s : StateH) : State := ⟨s.places, s.status, s.sems.map (·.m), s.onces.map (·.m), s.groups.map (·.m), s.barriers.map (·.m), s.chans.map (·.m), s.said, s.fault⟩
def stateV (s : StateH) : Value := .agg #[s.h0.val s.places.length, s.h1.val s.status.length, s.h2.val s.sems.length, s.h3.val s.onces.length, s.h4.val s.groups.length, s.h5.val s.barriers.length, s.h6.val s.chans.length, s.h7.val s.said.length, .int .i64 s.fault]
def stateO (s : StateH) : List Fct := own s.h0 3 cInt 1 s.places :: own s.h1 3 cInt 1 s.status :: (semsO s.h2 s.sems ++ (oncesO s.h3 s.onces ++ (groupsO s.h4 s.groups ++ (barriersO s.h5 s.barriers ++ (chansO s.h6 s.chans ++ [own s.h7 3 cInt 1 s.said])))))
theorem stateO_places (s : StateH) : RdIn (stateO s) (slo s.h0 cInt 1 s.places) := RdIn.own (o := false) (e := 3) z90
theorem stateO_status (s : StateH) : RdIn (stateO s) (slo s.h1 cInt 1 s.status) := RdIn.own (o := false) (e := 3) z90
theorem stateO_said (s : StateH) : RdIn (stateO s) (slo s.h7 cInt 1 s.said) := RdIn.own (o := false) (e := 3) z90
theorem stateO_sems (s : StateH) : ∀ g ∈ semsO s.h2 s.sems, g ∈ stateO s := fun g hg => by simp [stateO, hg]
theorem stateO_onces (s : StateH) : ∀ g ∈ oncesO s.h3 s.onces, g ∈ stateO s := fun g hg => by simp [stateO, hg]
theorem stateO_groups (s : StateH) : ∀ g ∈ groupsO s.h4 s.groups, g ∈ stateO s := fun g hg => by simp [stateO, hg]
theorem stateO_barriers (s : StateH) : ∀ g ∈ barriersO s.h5 s.barriers, g ∈ stateO s := fun g hg => by simp [stateO, hg]
theorem stateO_chans (s : StateH) : ∀ g ∈ chansO s.h6 s.chans, g ∈ stateO s := fun g hg => by simp [stateO, hg]
theorem RdIn.sub {G G' : List Fct} {g : Fct} (h : RdIn G g) (hs : ∀ f ∈ G, f ∈ G') : RdIn G' g := by
 obtain ⟨f, hf, k⟩ := h
 exact ⟨f, hs f hf, k⟩
def allS {α : Type} (P : α → Prop) (xs : List α) : Prop := xs.length ≤ 1048576 ∧ ∀ x ∈ xs, P x
theorem allS_map {α β : Type} {P : β → Prop} {f : α → β} {xs : List α} (h : allS P (xs.map f)) : xs.length ≤ 1048576 ∧ ∀ x ∈ xs, P (f x) :=
 ⟨by simpa using h.1, fun x hx => h.2 _ (List.mem_map_of_mem hx)⟩
end Go.Proofs.YtjkkoonennpceaaGreat
namespace Go.Sx
open Go Go.RowKit
def flds (it : TypeId) : Nat → Nat → List (Bool × TypeId × Nat)
 | _, 0 => []
 | k, n + 1 => (false, it, k) :: flds it (k + 1) n
def vInt (x : Int) : Value := .int .i64 x
theorem part_one' {P : Program} {t : TypeId} {d : TypeDesc} (hd : P.underlying t = some d) (ha : isAggD d = false) (cs : Array Value) (off : Nat) (v : Value) (h : cs[off]? = some v) (w : World) : (part t cs off).run P w = .ok v w := by
 unfold part
 rw [Sem.run_bind, run_isAgg hd, ha]
 simp [h]
theorem eqFields_ints {P : Program} (w : World) {it : TypeId} (hI : P.underlying it = some (.int .i64)) (d : Nat) : ∀ (fs : List Field) (us bs : List Int) (p q : List Value), p.length = q.length → us.length = bs.length →
   fs.map (fun f => (f.name == "_", f.type, f.offset)) = flds it p.length us.length →
   (Op.eqFields (d + 1) (p ++ us.map vInt).toArray (q ++ bs.map vInt).toArray fs).run P w = .ok (decide (us = bs)) w
 | [], us, bs, p, q, hp, hl, hf => by
   cases us with
   | nil => cases bs with
     | nil => simp [Op.eqFields]
     | cons _ _ => simp at hl
   | cons _ _ => simp [flds] at hf
 | f :: fs, us, bs, p, q, hp, hl, hf => by
   cases us with
   | nil => simp [flds] at hf
   | cons a us =>
     cases bs with
     | nil => simp at hl
     | cons b bs =>
       simp only [List.map_cons, List.length_cons, flds, List.cons.injEq, Prod.mk.injEq] at hf
       obtain ⟨⟨f1, f2, f3⟩, hf⟩ := hf
       have f1' : f.name ≠ "_" := by simpa using f1
       have ih := eqFields_ints w hI d fs us bs (p ++ [vInt a]) (q ++ [vInt b]) (by simp [hp]) z86 (by simpa using hf)
       simp only [List.append_assoc, List.cons_append, List.nil_append] at ih
       have p1 := part_one' hI rfl (p ++ (a :: us).map vInt).toArray p.length (vInt a) (by simp) w
       have p2 := part_one' hI rfl (q ++ (b :: bs).map vInt).toArray p.length (vInt b) (by simp [hp]) w
       have q1 : (Op.equalIn (d + 1) it (vInt a) (vInt b)).run P w = .ok (a == b) w := run_equalIn_int w d it .i64 .i64 a b hI
       simp only [List.map_cons] at p1 p2
       simp only [Op.eqFields, f2, f3, f1', ne_eq, not_false_eq_true, if_true, Sem.run_bind, p1, p2, Result.andThen_ok, q1, List.map_cons]
       by_cases h1 : a = b
       · subst h1
         simp [ih]
       · simp [h1]
theorem neq_ints {P : Program} {t it : TypeId} {xs ys : List Int} (hS : P.underlying t = some (.struct (P.fieldsOf t))) (hp : P.stoodInHeld t = false) (hI : P.underlying it = some (.int .i64))
   (hl : xs.length = ys.length) (hF : (P.fieldsOf t).toList.map (fun f => (f.name == "_", f.type, f.offset)) = flds it 0 xs.length) (w : World) :
   (binOp .neq t (.agg (xs.map vInt).toArray) (.agg (ys.map vInt).toArray)).run P w = .ok (.bool (decide (xs ≠ ys))) w := by
 have := eqFields_ints w hI 9998 (P.fieldsOf t).toList xs ys [] [] rfl hl hF
 simp only [List.nil_append] at this
 rw [run_neq_struct, show (10000 : Nat) = 9999 + 1 from rfl, run_equalIn_agg w 9999 t _ _ hS hp, this]
 by_cases h : xs = ys <;> simp [h]
theorem fB_of {w : World} {G : List Fct} (h : ∀ g ∈ G, g.P w ∧ ∀ b, g.foot b → b < w.heap.size) : (fB true G).P w ∧ ∀ b, (fB true G).foot b → b < w.heap.size :=
 ⟨fun g hg => (h g hg).1, fun b ⟨g, hg, hb⟩ => (h g hg).2 b hb⟩
theorem fB_two {w : World} {f g : Fct} (h : f.P w ∧ ∀ b, f.foot b → b < w.heap.size) (k : g.P w ∧ ∀ b, g.foot b → b < w.heap.size) : (fB true [f, g]).P w ∧ ∀ b, (fB true [f, g]).foot b → b < w.heap.size :=
 fB_of fun e he => by
   simp only [List.mem_cons, List.not_mem_nil, or_false] at he
   rcases he with rfl | rfl
   · exact h
   · exact k
theorem fB_mem {w : World} {G : List Fct} (h : (fB true G).P w ∧ ∀ b, (fB true G).foot b → b < w.heap.size) {g : Fct} (hg : g ∈ G) : g.P w ∧ ∀ b, g.foot b → b < w.heap.size :=
 ⟨h.1 g hg, fun b hb => h.2 b ⟨g, hg, hb⟩⟩
section
variable {E : Env} {ti : Nat → TI} {A : Nat → Nat} {T : List (Nat × SV)} {n c : Nat} {B : List (Nat × TypeId × Nat)} {M Ms : List ((Nat × Nat) × SV)} {F Fs : List Fct} {o : Oper} {next : St → Prop} {w : World}
theorem stop_loadF (k1 : Nat) {t ty : TypeId} {x : Operand} {g off d : Nat} {cs : List Value} {v : Value} {size : Nat} {zero : List Value} {fs : List (Nat × Nat × Bool)} {el : Option TypeId} {ik : Option IntKind} {kk bytes : Nat}
   (hti : ∀ t, TIok E.P t (ti t)) (hop : o.op = .load t x) (hx : evalO T x = some (.v (.pointer (some ⟨g, off, none⟩)))) (ht : ti t = .mk false size zero fs el ik kk bytes) (hF : F[k1]? = some (fVar g ty cs)) (hv : cs[off]? = some v) (hd : Dst E o d)
   (hnext : next (.mk ((d, .v v) :: T) n c B M F)) : OpW (opStop E o next T n c B M F) := by
 refine ⟨fun A a w hW hT => ?_⟩
 have htt := hti t
 rw [ht] at htt
 obtain ⟨ii, dd, z, e1, e2, e3, e4, e5, e6, e7, e8, e9, e10, e11⟩ := tiSum_parts htt
 have hx' : a.eval x = .pointer (some ⟨g, off, none⟩) := (evalO_sound hT hx).1
 have hb : Blk w g ty cs := (hW.nth k1 hF).1
 have hc : w.cell? ⟨g, off, none⟩ = some v := by
   rw [cell_of_row _ _ _ _ _ _ hb]
   show cs.toArray[off]? = some v
   simpa using hv
 have hr : (execOp a.eval o).run E.P w = .ok (.value v) w := by
   simp [execOp, hop, hx', Instr.loadAt, Instr.sureAddr, run_loadVar_one (w := w) e2 e3 _ _ hc]
 refine upon_of_value hr ?_
 rw [hd.1]
 exact ⟨_, ⟨_, hW, hT.put (v := .v v) hd.lt trivial⟩, hnext⟩
end
theorem eqGuard_str {P : Program} {op : BinOp} {t : TypeId} {x y : Operand} {a b : ByteArray} (w : World) : (eqGuard op t x y (.string a) (.string b)).run P w = .ok () w := by
 cases op <;> rfl
theorem eql_str {P : Program} {t : TypeId} {a b : ByteArray} (w : World) : (binOp .eql t (.string a) (.string b)).run P w = .ok (.bool (a.toList == b.toList)) w := by
 rw [binOp_string_eql]; rfl
end Go.Sx
namespace Go.Proofs.YtjkkoonennpceaaGreat
open Go Go.Sx Go.RowKit
def within (xs : List Int) (lo hi : Int) : Prop := xs.length ≤ 3 ∧ ∀ x ∈ xs, lo ≤ x ∧ x ≤ hi
def Prog.shared (p : Prog) (k : Int) : Int := if k = 1 then 1 else if k = 2 ∨ k = 3 then p.sems.length else if k = 4 then 3 else if k = 5 ∨ k = 6 then p.groups.length else if k = 7 then p.barriers.length else p.rooms.length
def Prog.argOk (p : Prog) (o : Op) : Prop := if o.kind = 2 ∨ o.kind = 3 then 1 ≤ o.arg ∧ o.arg ≤ p.sems.getD o.on.toNat 0 else if o.kind = 5 then -9 ≤ o.arg ∧ o.arg ≤ 9 else if o.kind = 1 ∨ o.kind = 4 ∨ o.kind = 8 then isValue o.arg = true else o.arg = 0
def OpOk (p : Prog) (o : Op) : Prop := 1 ≤ o.kind ∧ o.kind ≤ 10 ∧ 0 ≤ o.on ∧ o.on < p.shared o.kind ∧ p.argOk o
structure ProgOk (p : Prog) : Prop where
 sems : within p.sems 1 9
 groups : within p.groups 0 9
 barriers : within p.barriers 1 6
 rooms : within p.rooms 0 4
 n1 : 1 ≤ p.threads.length
 n4 : p.threads.length ≤ 4
 ops : ∀ t ∈ p.threads, t.length ≤ 8 ∧ ∀ o ∈ t, OpOk p o
theorem opOk1 {p : Prog} {o : Op} (h : o.kind = 1) : OpOk p o ↔ o.on = 0 ∧ isValue o.arg = true := by
 simp only [OpOk, Prog.shared, Prog.argOk, h]; by_cases hv : isValue o.arg = true <;> simp [hv] <;> omega
theorem opOk2 {p : Prog} {o : Op} (h : o.kind = 2 ∨ o.kind = 3) : OpOk p o ↔ (0 ≤ o.on ∧ o.on < p.sems.length) ∧ 1 ≤ o.arg ∧ o.arg ≤ p.sems.getD o.on.toNat 0 := by
 rcases h with h | h <;> simp only [OpOk, Prog.shared, Prog.argOk, h] <;> simp <;> omega
theorem opOk4 {p : Prog} {o : Op} (h : o.kind = 4) : OpOk p o ↔ 0 ≤ o.on ∧ o.on ≤ 2 ∧ isValue o.arg = true := by
 simp only [OpOk, Prog.shared, Prog.argOk, h]; by_cases hv : isValue o.arg = true <;> simp [hv] <;> omega
theorem opOk5 {p : Prog} {o : Op} (h : o.kind = 5) : OpOk p o ↔ (0 ≤ o.on ∧ o.on < p.groups.length) ∧ -9 ≤ o.arg ∧ o.arg ≤ 9 := by
 simp only [OpOk, Prog.shared, Prog.argOk, h]; simp; omega
theorem opOk6 {p : Prog} {o : Op} (h : o.kind = 6) : OpOk p o ↔ (0 ≤ o.on ∧ o.on < p.groups.length) ∧ o.arg = 0 := by
 simp only [OpOk, Prog.shared, Prog.argOk, h]; simp; omega
theorem opOk7 {p : Prog} {o : Op} (h : o.kind = 7) : OpOk p o ↔ (0 ≤ o.on ∧ o.on < p.barriers.length) ∧ o.arg = 0 := by
 simp only [OpOk, Prog.shared, Prog.argOk, h]; simp; omega
theorem opOk8 {p : Prog} {o : Op} (h : o.kind = 8) : OpOk p o ↔ (0 ≤ o.on ∧ o.on < p.rooms.length) ∧ isValue o.arg = true := by
 simp only [OpOk, Prog.shared, Prog.argOk, h]; by_cases hv : isValue o.arg = true <;> simp [hv] <;> omega
theorem opOk9 {p : Prog} {o : Op} (h : o.kind = 9 ∨ o.kind = 10) : OpOk p o ↔ (0 ≤ o.on ∧ o.on < p.rooms.length) ∧ o.arg = 0 := by
 rcases h with h | h <;> simp only [OpOk, Prog.shared, Prog.argOk, h] <;> simp <;> omega
theorem opOk0 {p : Prog} {o : Op} (h : o.kind < 1 ∨ 10 < o.kind) : ¬ OpOk p o := fun e => by
 obtain ⟨h1, h2, _⟩ := e; omega
theorem tno {P : Prop} (h : ¬ P) : false = true ↔ P := ⟨fun e => z98, fun e => (h e).elim⟩
theorem tyes {P : Prop} (h : P) : true = true ↔ P := ⟨fun _ => h, fun _ => rfl⟩
abbrev Tells (w : World) (P : Prop) : Ending → World → Prop := Ret w fun v L => ∃ b : Bool, v = .bool b ∧ (b = true ↔ P) ∧ L = []
set_option maxRecDepth 100000 in
theorem indexFunc_c {fv : FuncId} {cap : Array Value} {G : List Fct} {q : Int → Bool} (hcl : callable Tryz.prog fv = true) (hc : ∀ x w, At w [fB true G] → Calls Tryz.prog fv ([Value.int .i64 x] ++ cap.toList).toArray w (Ret w fun v L => v = .bool (q x) ∧ L = []))
   (i : Sl) (xs : List Int) (w : World) (h : At w [slo i cInt 1 xs, fB true G]) (hb : xs.length ≤ 4294967296) :
   Calls Tryz.prog 160 #[i.val xs.length, .func (.func fv) #[] cap] w (Ret w fun v L => ∃ k : Int, v = .int .i64 k ∧ (0 ≤ k ↔ ∃ x ∈ xs, q x = true) ∧ L = []) := by
 refine calls2 Tryz.func160 rfl tabOk w _ rfl _ rfl _ h ⟨rfl, rfl, rfl, rfl, trivial⟩ _ _ (by decide) ?_
 refine LoopW.mk ⟨{ k : Nat // k ≤ xs.length ∧ ∀ x ∈ xs.take k, ¬ q x = true },
   fun p => .mk [(0, .v (i.val xs.length)), (1, .v (.func (.func fv) #[] cap)), (7, .v (.int .i64 xs.length)), (8, .v (.int .i64 p.1))] 0 0 [] [] [slo i cInt 1 xs, fB true G],
   fun p => xs.length - p.1, ⟨0, Nat.zero_le _, by simp⟩, ?_, ?_⟩
 · exact weak_mk [0, 1] zw2 zw0 zw2 zw5 zw4 rfl rfl
 · rintro ⟨k, hk, he⟩
   refine CaseB.mk (fun h => ?_) (fun h => ?_)
   · have hlt : k < xs.length := by simpa using h
     refine stop_idx encInt tabOk rfl rfl rfl rfl rfl ⟨rfl, rfl⟩ z30 k rfl z38 (fun ad => ?_)
     refine stop_callV _ hcl rfl rfl rfl rfl ⟨rfl, rfl⟩ (fun A w hW => hc _ w ⟨hW.get 1 rfl (.refl _), trivial⟩) ?_
     rintro v L ⟨rfl, rfl⟩
     refine CaseB.mk (fun h => ?_) (fun h => ?_)
     · exact ret0 ⟨(k : Int), rfl, ⟨fun _ => ⟨xs[k], List.getElem_mem hlt, h⟩, fun _ => Int.natCast_nonneg k⟩, rfl⟩ (fun _ => rfl)
     · have hw := wrapN k _ hlt hb
       refine ⟨⟨k + 1, by omega, fun x hx => ?_⟩, ?_, by simp; omega⟩
       · rw [List.take_succ_eq_append_getElem hlt] at hx
         rcases List.mem_append.1 hx with hx | hx
         · exact he x hx
         · simp at hx; subst hx; simpa using h
       · exact weak_mk [0, 1] zw1 zw0 zw1 zw5 zw3 rfl rfl
   · have hge : xs.length ≤ k := by simpa using h
     rw [List.take_of_length_le hge] at he
     exact ret0 ⟨-1, rfl, ⟨fun h => by omega, fun ⟨x, hx, hq⟩ => (he x hx hq).elim⟩, rfl⟩ (fun _ => rfl)
set_option maxRecDepth 100000 in
theorem containsFunc_c {fv : FuncId} {cap : Array Value} {G : List Fct} {q : Int → Bool} (hcl : callable Tryz.prog fv = true) (hc : ∀ x w, At w [fB true G] → Calls Tryz.prog fv ([Value.int .i64 x] ++ cap.toList).toArray w (Ret w fun v L => v = .bool (q x) ∧ L = []))
   (i : Sl) (xs : List Int) (w : World) (h : At w [slo i cInt 1 xs, fB true G]) (hb : xs.length ≤ 4294967296) :
   Calls Tryz.prog 121 #[i.val xs.length, .func (.func fv) #[] cap] w (Tells w (∃ x ∈ xs, q x = true)) := by
 refine calls2 Tryz.func121 rfl tabOk w _ rfl _ rfl _ h ⟨rfl, rfl, rfl, rfl, trivial⟩ _ _ (by decide) ?_
 refine stop_call _ cl160 rfl rfl rfl rfl ⟨rfl, rfl⟩ (fun A w hW => indexFunc_c hcl hc i xs w ⟨hW.get 0 rfl (.refl _), hW.get 1 rfl (.refl _), trivial⟩ hb) ?_
 rintro v L ⟨k, rfl, hk, rfl⟩
 exact ret0 ⟨_, rfl, by simpa using hk, rfl⟩ (fun _ => rfl)
abbrev varI2 (g : Nat) (t : Int) : Fct := fVar g 3 [.int .i64 t]
set_option maxRecDepth 100000 in
theorem within1_c (x lo hi : Int) (g1 g2 : Nat) (w : World) (h : At w [fB true [varI2 g1 lo, varI2 g2 hi]]) :
   Calls Tryz.prog 152 #[.int .i64 x, .pointer (some ⟨g1, 0, none⟩), .pointer (some ⟨g2, 0, none⟩)] w (Ret w fun v L => v = .bool (decide (x < lo) || decide (hi < x)) ∧ L = []) := by
 have h' : At w [varI2 g1 lo, varI2 g2 hi] := ⟨fB_mem h.1 (by simp), fB_mem h.1 (by simp), trivial⟩
 refine calls3 Tryz.func152 rfl tabOk w _ rfl _ rfl _ h' ⟨rfl, rfl, rfl, rfl, trivial⟩ _ _ _ (by decide) ?_
 refine stop_loadV 0 tabOk rfl rfl rfl rfl rfl ⟨rfl, rfl⟩ ?_
 apply CaseB.mk <;> intro g
 · refine ret0 ⟨?_, rfl⟩ (fun _ => rfl)
   have : x < lo := by simpa using g
   simp [this]
 · refine stop_loadV 1 tabOk rfl rfl rfl rfl rfl ⟨rfl, rfl⟩ ?_
   refine ret0 ⟨?_, rfl⟩ (fun _ => rfl)
   have : ¬ x < lo := by simpa using g
   simp [this]
set_option maxRecDepth 100000 in
theorem within_c (i : Sl) (xs : List Int) (lo hi : Int) (w : World) (h : At w [slo i cInt 1 xs]) (hb : xs.length ≤ 4294967296) :
   Calls Tryz.prog 105 #[i.val xs.length, .int .i64 lo, .int .i64 hi] w (Tells w (within xs lo hi)) := by
 refine calls3 Tryz.func105 rfl tabOk w _ rfl _ rfl _ h ⟨rfl, rfl, trivial⟩ _ _ _ (by decide) ?_
 apply CaseB.mk <;> intro g
 · have hl : xs.length ≤ 3 := by simp at g; omega
   refine stop_call _ cl121 rfl rfl rfl rfl ⟨rfl, rfl⟩ (fun A w hW => containsFunc_c (fv := 152) (q := fun x => decide (x < lo) || decide (hi < x)) (G := [varI2 (A 0) lo, varI2 (A 1) hi]) cl152 (fun x w h => within1_c x lo hi _ _ w h) i xs w ⟨hW.get 0 rfl (.refl _), fB_two (hW.var rfl rfl) (hW.var rfl rfl), trivial⟩ hb) ?_
   rintro v L ⟨b, rfl, hbb, rfl⟩
   refine ret0 ⟨_, rfl, ?_, rfl⟩ (fun _ => rfl)
   simp only [Bool.not_eq_true', ← Bool.not_eq_true, hbb, within]
   constructor
   · intro hn
     refine ⟨hl, fun x hx => ?_⟩
     rcases Int.lt_or_le x lo with h1 | h1
     · exact (hn ⟨x, hx, by simp [h1]⟩).elim
     · rcases Int.lt_or_le hi x with h2 | h2
       · exact (hn ⟨x, hx, by simp [h2]⟩).elim
       · exact ⟨h1, h2⟩
   · rintro ⟨_, hx⟩ ⟨x, hx', hq⟩
     have := hx x hx'
     simp at hq
     omega
 · have hl : ¬ xs.length ≤ 3 := by simp at g; omega
   exact ret0 ⟨_, rfl, tno fun h => hl h.1, rfl⟩ (fun _ => rfl)
set_option maxRecDepth 100000 in
theorem opOn_c (i : Sl) (n : Nat) (o : Op) (g : Nat) (w : World) (h : At w [fVar g 44 (cOp o)]) :
   Calls Tryz.prog 153 #[i.val n, .pointer (some ⟨g, 0, none⟩)] w (Tells w (0 ≤ o.on ∧ o.on < n)) := by
 refine calls2 Tryz.func153 rfl tabOk w _ rfl _ rfl _ h ⟨rfl, rfl, trivial⟩ _ _ (by decide) ?_
 refine stop_fldW tabOk rfl rfl rfl rfl ⟨rfl, rfl⟩ ?_
 refine stop_loadF 0 tabOk rfl rfl rfl rfl rfl ⟨rfl, rfl⟩ ?_
 refine CaseB.mk (fun g1 => ?_) (fun g1 => ?_)
 · refine stop_fldW tabOk rfl rfl rfl rfl ⟨rfl, rfl⟩ ?_
   refine stop_loadF 0 tabOk rfl rfl rfl rfl rfl ⟨rfl, rfl⟩ ?_
   refine ret0 ⟨_, rfl, ?_, rfl⟩ (fun _ => rfl)
   have : 0 ≤ o.on := by simpa using g1
   simp [this]
 · have : ¬ 0 ≤ o.on := by simpa using g1
   exact ret0 ⟨_, rfl, tno fun h => this h.1, rfl⟩ (fun _ => rfl)
end Go.Proofs.YtjkkoonennpceaaGreat
namespace Go.Sx
open Go Go.RowKit
def bs (l : List UInt8) : ByteArray := ⟨l.toArray⟩
theorem bs_list (l : List UInt8) : (bs l).toList = l := ByteArray.toList_mk l
theorem bs_size (l : List UInt8) : (bs l).size = l.length := by simp [bs, ByteArray.size]
theorem bs_add (a b : List UInt8) : bs a ++ bs b = bs (a ++ b) := ByteArray.mk_append_mk a b
theorem bs_cut (s : List UInt8) (l h : Nat) : (bs s).extract l h = bs ((s.drop l).take (h - l)) := ByteArray.extract_mk s l h
theorem bs_get (s : List UInt8) (k : Nat) (h : k < s.length) : (bs s)[k]? = some s[k] := by
 have h2 : k < (bs s).size := by rw [bs_size]; exact h
 rw [ByteArray.getElem?_lt' _ _ h2]
 congr 1
def cTxt (x : List UInt8) : List Value := [.string (bs x)]
theorem encTxt : Enc cTxt 1 := ⟨fun _ => rfl, fun _ u hu => by simp [cTxt] at hu; subst hu; rfl⟩
theorem sadd_run {P : Program} {t : TypeId} {a b : List UInt8} (h : a.length + b.length ≤ 9223372036854775807) (w : World) : (binOp .add t (.string (bs a)) (.string (bs b))).run P w = .ok (.string (bs (a ++ b))) w := by
 rw [binOp_string_add, run_string_add_sum w _ _ (by rw [bs_size, bs_size]; exact h), bs_add]
theorem seq_run {P : Program} {t : TypeId} {a b : List UInt8} (w : World) : (binOp .eql t (.string (bs a)) (.string (bs b))).run P w = .ok (.bool (a == b)) w := by
 rw [eql_str, bs_list, bs_list]
theorem sne_run {P : Program} {t : TypeId} {a b : List UInt8} (w : World) : (binOp .neq t (.string (bs a)) (.string (bs b))).run P w = .ok (.bool (a != b)) w := by
 rw [binOp_string_neq, bne]
 show (Op.stringOp .neq _ _).run P w = _
 simp [Op.stringOp, bs_list]
section
variable {E : Env} {ti : Nat → TI} {A : Nat → Nat} {T : List (Nat × SV)} {n c : Nat} {B : List (Nat × TypeId × Nat)} {M : List ((Nat × Nat) × SV)} {F Fs : List Fct} {o : Oper} {next : St → Prop} {a : Act} {w : World}
theorem ti_string {P : Program} {t : TypeId} {agg : Bool} {size bytes : Nat} {zero : List Value} {fs : List (Nat × Nat × Bool)} {el : Option TypeId} {ik : Option IntKind} (h : TIok P t (.mk agg size zero fs el ik 2 bytes)) : P.underlying t = some .string := by
 obtain ⟨ii, dd, z, e1, e2, e3, e4, e5, e6, e7, e8, e9, e10, e11⟩ := tiSum_parts h
 rw [e2, kd_string e10]
theorem slen_run (hti : ∀ t, TIok E.P t (ti t)) (hT : TD E A T n c a w) {k : Call} {t : TypeId} {x : Operand} {s : List UInt8} {agg : Bool} {size bytes : Nat} {zero : List Value} {fs : List (Nat × Nat × Bool)} {el : Option TypeId} {ik : Option IntKind}
   (hop : o.op = .call k) (hk : k.callee = .builtin .len) (ha : k.args.toList = [x]) (hty : k.argTypes.toList = [t])
   (hx : evalO T x = some (.v (.string (bs s)))) (ht : ti t = .mk agg size zero fs el ik 2 bytes) : (execOp a.eval o).run E.P w = .ok (.value (.int .i64 (s.length : Int))) w := by
 have htt := hti t
 rw [ht] at htt
 have hs := ti_string htt
 have hx' := (evalO_sound hT hx).1
 simp only [SV.den] at hx'
 have hargs : k.args = #[x] := by apply Array.ext'; simpa using ha
 have htys : k.argTypes = #[t] := by apply Array.ext'; simpa using hty
 simp [execOp, hop, resolve, hk, hargs, htys, invoke, builtin, hx', run_len_string _ _ _ _ hs, goInt, bs_size]
theorem stop_slen {k : Call} {t : TypeId} {x : Operand} {d : Nat} {s : List UInt8} {agg : Bool} {size bytes : Nat} {zero : List Value} {fs : List (Nat × Nat × Bool)} {el : Option TypeId} {ik : Option IntKind}
   (hti : ∀ t, TIok E.P t (ti t)) (hop : o.op = .call k) (hk : k.callee = .builtin .len) (ha : k.args.toList = [x]) (hty : k.argTypes.toList = [t])
   (hx : evalO T x = some (.v (.string (bs s)))) (ht : ti t = .mk agg size zero fs el ik 2 bytes) (hd : Dst E o d)
   (hnext : next (.mk ((d, .v (.int .i64 (s.length : Int))) :: T) n c B M F)) : OpW (opStop E o next T n c B M F) := by
 refine ⟨fun A a w hW hT => ?_⟩
 refine upon_of_value (slen_run hti hT hop hk ha hty hx ht) ?_
 rw [hd.1]
 exact ⟨_, ⟨_, hW, hT.put (v := .v (.int .i64 (s.length : Int))) hd.lt trivial⟩, hnext⟩
theorem sidx_run (hti : ∀ t, TIok E.P t (ti t)) (hT : TD E A T n c a w) {t : TypeId} {x y : Operand} {s : List UInt8} {kd : IntKind} {q : Int} {agg : Bool} {size bytes : Nat} {zero : List Value} {fs : List (Nat × Nat × Bool)} {el : Option TypeId} {ik : Option IntKind}
   (hop : o.op = .index t x y) (hx : evalO T x = some (.v (.string (bs s)))) (hy : evalO T y = some (.v (.int kd q))) (ht : ti t = .mk agg size zero fs el ik 2 bytes) (j : Nat) (hq : q = (j : Int)) (hj : j < s.length) :
   (execOp a.eval o).run E.P w = .ok (.value (.int .u8 (s[j].toNat : Int))) w := by
 have htt := hti t
 rw [ht] at htt
 have hs := ti_string htt
 subst hq
 have hx' := (evalO_sound hT hx).1
 have hy' := (evalO_sound hT hy).1
 simp only [SV.den] at hx' hy'
 simp [execOp, hop, hx', hy', Instr.index, asIntOf, underlying, hs, bs_get s j hj]
theorem stop_sidx {t : TypeId} {x y : Operand} {d : Nat} {s : List UInt8} {kd : IntKind} {q : Int} {agg : Bool} {size bytes : Nat} {zero : List Value} {fs : List (Nat × Nat × Bool)} {el : Option TypeId} {ik : Option IntKind}
   (hti : ∀ t, TIok E.P t (ti t)) (hop : o.op = .index t x y) (hx : evalO T x = some (.v (.string (bs s)))) (hy : evalO T y = some (.v (.int kd q))) (ht : ti t = .mk agg size zero fs el ik 2 bytes) (hd : Dst E o d) (j : Nat) (hq : q = (j : Int)) (hj : j < s.length)
   (hnext : next (.mk ((d, .v (.int .u8 (s[j].toNat : Int))) :: T) n c B M F)) : OpW (opStop E o next T n c B M F) := by
 refine ⟨fun A a w hW hT => ?_⟩
 refine upon_of_value (sidx_run hti hT hop hx hy ht j hq hj) ?_
 rw [hd.1]
 exact ⟨_, ⟨_, hW, hT.put (v := .v (.int .u8 (s[j].toNat : Int))) hd.lt trivial⟩, hnext⟩
theorem scut_run (hti : ∀ t, TIok E.P t (ti t)) (hT : TD E A T n c a w) {t : TypeId} {x : Operand} {lo hi : Option Operand} {s : List UInt8} {ml mh : Int} {agg : Bool} {size bytes : Nat} {zero : List Value} {fs : List (Nat × Nat × Bool)} {el : Option TypeId} {ik : Option IntKind}
   (hop : o.op = .slice t x lo hi none) (hx : evalO T x = some (.v (.string (bs s)))) (ht : ti t = .mk agg size zero fs el ik 2 bytes)
   (hlo : bndV T 0 lo = some ml) (hhi : bndV T (s.length : Int) hi = some mh) {l h : Nat} (el' : ml = (l : Int)) (eh : mh = (h : Int)) (h1 : l ≤ h) (h2 : h ≤ s.length) :
   (execOp a.eval o).run E.P w = .ok (.value (.string (bs ((s.drop l).take (h - l))))) w := by
 have htt := hti t
 rw [ht] at htt
 have hs := ti_string htt
 subst el'; subst eh
 have hx' := (evalO_sound hT hx).1
 simp only [SV.den] at hx'
 have hz := bs_size s
 have key : ∀ lo' hi' : Option Value, ((lo' = none ∧ l = 0) ∨ ∃ kd, lo' = some (.int kd (l : Int))) → ((hi' = none ∧ h = s.length) ∨ ∃ kd, hi' = some (.int kd (h : Int))) →
     (Instr.slice t (.string (bs s)) lo' hi' none).run E.P w = .ok (.string (bs ((s.drop l).take (h - l)))) w := by
   rintro lo' hi' (⟨rfl, rfl⟩ | ⟨kd, rfl⟩) (⟨rfl, rfl⟩ | ⟨kd2, rfl⟩)
   · rw [run_slice_string_all w t _ hs, hz, bs_cut]
   · rw [run_slice_string_h w t _ hs kd2 _ (by omega) (by omega), bs_cut]; rfl
   · rw [run_slice_string_l w t _ hs kd _ (by omega) (by omega), hz, bs_cut]; rfl
   · rw [run_slice_string w t _ kd kd2 _ _ hs (by omega) (by omega) (by omega), bs_cut]; rfl
 have := key (lo.map a.eval) (hi.map a.eval) (by
   cases lo with
   | none => simp only [bndV, Option.some.injEq] at hlo; exact .inl ⟨rfl, by omega⟩
   | some y => obtain ⟨kd, e⟩ := bndV_some hT hlo; exact .inr ⟨kd, by simp [e]⟩) (by
   cases hi with
   | none => simp only [bndV, Option.some.injEq] at hhi; exact .inl ⟨rfl, by omega⟩
   | some y => obtain ⟨kd, e⟩ := bndV_some hT hhi; exact .inr ⟨kd, by simp [e]⟩)
 have hn : (Instr.sliceAt t (.string (bs s)) (lo.map a.eval) (hi.map a.eval) none).run E.P w = (Instr.slice t (.string (bs s)) (lo.map a.eval) (hi.map a.eval) none).run E.P w := by simp [Instr.sliceAt, underlying, hs]
 simp only [execOp, hop, hx', Option.map_none, hn, this, Sem.run_bind, Sem.run_pure, Result.andThen_ok]
theorem stop_scut {t : TypeId} {x : Operand} {lo hi : Option Operand} {d : Nat} {s : List UInt8} {ml mh : Int} {agg : Bool} {size bytes : Nat} {zero : List Value} {fs : List (Nat × Nat × Bool)} {el : Option TypeId} {ik : Option IntKind}
   (hti : ∀ t, TIok E.P t (ti t)) (hop : o.op = .slice t x lo hi none) (hx : evalO T x = some (.v (.string (bs s)))) (ht : ti t = .mk agg size zero fs el ik 2 bytes) (hd : Dst E o d)
   (hlo : bndV T 0 lo = some ml) (hhi : bndV T (s.length : Int) hi = some mh) (l h : Nat) (el' : ml = (l : Int)) (eh : mh = (h : Int)) (h1 : l ≤ h) (h2 : h ≤ s.length)
   (hnext : next (.mk ((d, .v (.string (bs ((s.drop l).take (h - l))))) :: T) n c B M F)) : OpW (opStop E o next T n c B M F) := by
 refine ⟨fun A a w hW hT => ?_⟩
 refine upon_of_value (scut_run hti hT hop hx ht hlo hhi el' eh h1 h2) ?_
 rw [hd.1]
 exact ⟨_, ⟨_, hW, hT.put (v := .v (.string (bs ((s.drop l).take (h - l))))) hd.lt trivial⟩, hnext⟩
theorem b2s_run (hti : ∀ t, TIok E.P t (ti t)) (hT : TD E A T n c a w) {src dst e : TypeId} {x : Operand} {i : Sl} {s : List UInt8} {agg : Bool} {size bytes kk : Nat} {zero : List Value} {fs : List (Nat × Nat × Bool)} {ik : Option IntKind} {agg2 : Bool} {size2 bytes2 kk2 : Nat} {zero2 : List Value} {fs2 : List (Nat × Nat × Bool)} {el2 : Option TypeId} {agg3 : Bool} {size3 bytes3 : Nat} {zero3 : List Value} {fs3 : List (Nat × Nat × Bool)} {el3 : Option TypeId} {ik3 : Option IntKind}
   (hop : o.op = .convert src dst x) (hx : evalO T x = some (.v (i.val s.length))) (ht : ti src = .mk agg size zero fs (some e) ik kk bytes) (hte : ti e = .mk agg2 size2 zero2 fs2 el2 (some .u8) kk2 bytes2) (htd : ti dst = .mk agg3 size3 zero3 fs3 el3 ik3 2 bytes3)
   (hr : RdS w i 1 (s.map fun b => .int .u8 (b.toNat : Int)) s.length) (hpos : 0 < s.length) : (execOp a.eval o).run E.P w = .ok (.value (.string (bs s))) w := by
 have htt := hti src
 rw [ht] at htt
 obtain ⟨ii, dd, z, e1, e2, e3, e4, e5, e6, e7, e8, e9, e10, e11⟩ := tiSum_parts htt
 have h1 : E.P.underlying src = some (.slice e) := by rw [e2, el_slice e8]
 have htt2 := hti e
 rw [hte] at htt2
 obtain ⟨ii2, dd2, z2, k1, k2, k3, k4, k5, k6, k7, k8, k9, k10, k11⟩ := tiSum_parts htt2
 have h2 : E.P.underlying e = some (.int .u8) := by rw [k2, ik_int k9]
 have htt3 := hti dst
 rw [htd] at htt3
 have h3 := ti_string htt3
 have hx' := (evalO_sound hT hx).1
 simp only [SV.den, Sl.val] at hx'
 obtain ⟨_, _, _, hc⟩ := hr
 obtain ⟨ad, ha, hcell⟩ := hc hpos
 have key := run_convert_bytes_back (P := E.P) w src dst e ad i.c s h1 h2 h3 (fun j hj => hcell j _ (by simp [List.getElem?_eq_getElem hj]))
 rw [ha] at hx'
 simp only [execOp, hop, hx', key, Sem.run_bind, Sem.run_pure, Result.andThen_ok]
 rfl
theorem stop_b2s {src dst e : TypeId} {x : Operand} {d : Nat} {i : Sl} {s : List UInt8} {agg : Bool} {size bytes kk : Nat} {zero : List Value} {fs : List (Nat × Nat × Bool)} {ik : Option IntKind} {agg2 : Bool} {size2 bytes2 kk2 : Nat} {zero2 : List Value} {fs2 : List (Nat × Nat × Bool)} {el2 : Option TypeId} {agg3 : Bool} {size3 bytes3 : Nat} {zero3 : List Value} {fs3 : List (Nat × Nat × Bool)} {el3 : Option TypeId} {ik3 : Option IntKind}
   (hti : ∀ t, TIok E.P t (ti t)) (hop : o.op = .convert src dst x) (hx : evalO T x = some (.v (i.val s.length))) (ht : ti src = .mk agg size zero fs (some e) ik kk bytes) (hte : ti e = .mk agg2 size2 zero2 fs2 el2 (some .u8) kk2 bytes2) (htd : ti dst = .mk agg3 size3 zero3 fs3 el3 ik3 2 bytes3) (hd : Dst E o d)
   (hF : ∀ w, (∀ f ∈ F, f.P w) → RdS w i 1 (s.map fun b => .int .u8 (b.toNat : Int)) s.length) (hpos : 0 < s.length)
   (hnext : next (.mk ((d, .v (.string (bs s))) :: T) n c B M F)) : OpW (opStop E o next T n c B M F) := by
 refine ⟨fun A a w hW hT => ?_⟩
 refine upon_of_value (b2s_run hti hT hop hx ht hte htd (hF w (fun f hf => (hW.fct f hf).1)) hpos) ?_
 rw [hd.1]
 exact ⟨_, ⟨_, hW, hT.put (v := .v (.string (bs s))) hd.lt trivial⟩, hnext⟩
end
end Go.Sx
namespace Go.Proofs.YtjkkoonennpceaaGreat
open Go Go.Sx Go.RowKit
abbrev Str := List UInt8
def cutG (c : UInt8) : Str → Str → List Str
 | acc, [] => [acc]
 | acc, x :: r => if x = c then acc :: cutG c [] r else cutG c (acc ++ [x]) r
def cutM (c : UInt8) (s : Str) : List Str := cutG c [] s
theorem cutG_len (c : UInt8) : ∀ (s acc : Str), 1 ≤ (cutG c acc s).length ∧ (cutG c acc s).length ≤ s.length + 1
 | [], acc => by simp [cutG]
 | x :: r, acc => by
   simp only [cutG]
   split
   · have := cutG_len c r []; simp only [List.length_cons]; omega
   · have := cutG_len c r (acc ++ [x]); simp only [List.length_cons]; omega
theorem cutG_part (c : UInt8) : ∀ (s acc : Str), ∀ x ∈ cutG c acc s, x.length ≤ acc.length + s.length
 | [], acc, x, h => by simp only [cutG, List.mem_singleton] at h; subst h; simp
 | y :: r, acc, x, h => by
   simp only [cutG] at h
   split at h
   · rcases List.mem_cons.1 h with rfl | h
     · omega
     · have := cutG_part c r [] x h; simp only [List.length_cons, List.length_nil] at this ⊢; omega
   · have := cutG_part c r (acc ++ [y]) x h; simp only [List.length_cons, List.length_append, List.length_nil] at this ⊢; omega
theorem cutM_len (c : UInt8) (s : Str) : 1 ≤ (cutM c s).length ∧ (cutM c s).length ≤ s.length + 1 := cutG_len c s []
theorem cutM_part {c : UInt8} {s x : Str} (h : x ∈ cutM c s) : x.length ≤ s.length := by have := cutG_part c s [] x h; simpa using this
def numG : Int → Str → Option Int
 | n, [] => some n
 | n, x :: r => if x.toNat < 48 ∨ 57 < x.toNat then none else numG (n * 10 + ((x.toNat : Int) - 48)) r
def isNeg (s : Str) : Bool := decide (s.head? = some 45)
def unNeg (s : Str) : Str := if isNeg s = true then s.drop 1 else s
def numBad (s : Str) : Prop := (unNeg s).length = 0 ∨ 17 < (unNeg s).length ∨ ((unNeg s).head? = some 48 ∧ (1 < (unNeg s).length ∨ isNeg s = true))
instance (s : Str) : Decidable (numBad s) := by unfold numBad; exact inferInstance
def numM (s : Str) : Option Int := if numBad s then none else (numG 0 (unNeg s)).map fun n => if isNeg s = true then -n else n
def decG : Nat → Nat → Str → Str
 | 0, _, out => out
 | f + 1, n, out => if 9 < n then decG f (n / 10) (UInt8.ofNat (48 + n % 10) :: out) else UInt8.ofNat (48 + n) :: out
def decM (n : Int) : Str := if n < 0 then 45 :: decG 19 n.natAbs [] else decG 19 n.toNat []
theorem decG_len : ∀ (f n : Nat) (out : Str), (decG f n out).length ≤ out.length + f
 | 0, n, out => Nat.le_refl _
 | f + 1, n, out => by
   simp only [decG]
   split
   · have := decG_len f (n / 10) (UInt8.ofNat (48 + n % 10) :: out); simp only [List.length_cons] at this; omega
   · simp only [List.length_cons]; omega
theorem decM_len (n : Int) : (decM n).length ≤ 20 := by
 unfold decM
 split
 · have := decG_len 19 n.natAbs []; simp only [List.length_cons, List.length_nil] at this ⊢; omega
 · have := decG_len 19 n.toNat []; simp only [List.length_nil] at this; omega
def wordsL : List Str := [[], [115, 97, 121], [97, 99, 113, 117, 105, 114, 101], [114, 101, 108, 101, 97, 115, 101], [111, 110, 99, 101], [97, 100, 100], [119, 97, 105, 116], [97, 114, 114, 105, 118, 101], [115, 101, 110, 100], [103, 101, 116], [99, 108, 111, 115, 101]]
def wordM (k : Int) : Str := if k < 1 ∨ 10 < k then [] else wordsL.getD k.toNat []
def argsM (k : Int) : Int := if k = 6 ∨ k = 7 ∨ k = 9 ∨ k = 10 then 1 else if k = 1 then 0 else 2
theorem wordsL_len : ∀ x ∈ wordsL, x.length ≤ 7 := by decide
theorem wordM_len (k : Int) : (wordM k).length ≤ 7 := by
 unfold wordM
 split
 · simp
 · rw [List.getD_eq_getElem?_getD]
   cases h : wordsL[k.toNat]? with
   | none => simp
   | some x => exact wordsL_len x (List.mem_of_getElem? h)
def fmtOpM (o : Op) : Str := if wordM o.kind = [] then [] else if argsM o.kind = 0 then (wordM o.kind ++ [32]) ++ decM o.arg else if argsM o.kind = 1 then (wordM o.kind ++ [32]) ++ decM o.on else (((wordM o.kind ++ [32]) ++ decM o.on) ++ [32]) ++ decM o.arg
theorem fmtOpM_len (o : Op) : (fmtOpM o).length ≤ 60 := by
 have h1 := wordM_len o.kind
 have h2 := decM_len o.on
 have h3 := decM_len o.arg
 unfold fmtOpM
 split
 · simp
 split
 · simp only [List.length_append, List.length_cons, List.length_nil]; omega
 split
 · simp only [List.length_append, List.length_cons, List.length_nil]; omega
 · simp only [List.length_append, List.length_cons, List.length_nil]; omega
def makeM (k : Int) (ns : List Int) : Option Op :=
 if argsM k = 0 then match ns with | [a] => some ⟨k, 0, a⟩ | _ => none
 else if argsM k = 1 then match ns with | [a] => some ⟨k, a, 0⟩ | _ => none
 else match ns with | [a, b] => some ⟨k, a, b⟩ | _ => none
def numsM : List Str → Option (List Int)
 | [] => some []
 | s :: r => match numM s with
   | none => none
   | some n => match numsM r with
     | none => none
     | some l => some (n :: l)
def kindM (t w : Str) (ns : List Int) : Nat → Nat → Option Op
 | 0, _ => none
 | f + 1, k => if wordM k = w then match makeM k ns with
     | some o => if fmtOpM o = t then some o else kindM t w ns f (k + 1)
     | none => kindM t w ns f (k + 1)
   else kindM t w ns f (k + 1)
def parseOpM (t : Str) : Option Op :=
 match numsM (((cutM 32 t).drop 1).take 3) with
 | none => none
 | some ns => if ns.length + 1 = (cutM 32 t).length then kindM t ((cutM 32 t).headD []) ns 10 1 else none
def fmtNums : Str → List Int → Str
 | out, [] => out
 | out, x :: r => fmtNums ((out ++ [32]) ++ decM x) r
def listM (w : Str) (l : List Int) : Str := if l = [] then [] else fmtNums w l ++ [10]
def fmtOps : Bool → Str → List Op → Str
 | _, out, [] => out
 | first, out, o :: r => fmtOps false (((if first = true then out else out ++ [44]) ++ [32]) ++ fmtOpM o) r
def fmtThreads : Str → List (List Op) → Str
 | out, [] => out
 | out, t :: r => fmtThreads (fmtOps true (out ++ [116, 104, 114, 101, 97, 100]) t ++ [10]) r
def fmtProgM (p : Prog) : Str := fmtThreads (((listM [115, 101, 109, 115] p.sems ++ listM [103, 114, 111, 117, 112, 115] p.groups) ++ listM [98, 97, 114, 114, 105, 101, 114, 115] p.barriers) ++ listM [114, 111, 111, 109, 115] p.rooms) p.threads
def lineM (line w : Str) : Option (List Int) :=
 if (cutM 32 line).headD [] = w ∧ 2 ≤ (cutM 32 line).length then match numsM (((cutM 32 line).drop 1).take 5) with
   | none => none
   | some ns => if ns.length + 1 = (cutM 32 line).length then some ns else none
 else none
def opsG : List Str → Option (List Op)
 | [] => some []
 | s :: r => match (if s.head? = some 32 then parseOpM (s.drop 1) else none) with
   | none => none
   | some o => match opsG r with
     | none => none
     | some l => some (o :: l)
def opsM : List Str → Option (List Op)
 | [] => some []
 | s :: r => match parseOpM s with
   | none => none
   | some o => match opsG r with
     | none => none
     | some l => some (o :: l)
def threadM (line : Str) : Option (List Op) :=
 if line = [116, 104, 114, 101, 97, 100] then some []
 else if line.length < 7 ∨ line.take 7 ≠ [116, 104, 114, 101, 97, 100, 32] then none
 else match opsM ((cutM 44 (line.drop 7)).take 9) with
   | none => none
   | some l => if (cutM 44 (line.drop 7)).length ≤ 8 then some l else none
def stepL (p : Prog) (line : Str) : Prog :=
 match lineM line [115, 101, 109, 115] with
 | some a => { p with sems := a }
 | none => match lineM line [103, 114, 111, 117, 112, 115] with
   | some a => { p with groups := a }
   | none => match lineM line [98, 97, 114, 114, 105, 101, 114, 115] with
     | some a => { p with barriers := a }
     | none => match lineM line [114, 111, 111, 109, 115] with
       | some a => { p with rooms := a }
       | none => match threadM line with
         | some t => { p with threads := p.threads ++ [t] }
         | none => p
def parseM (t : Str) : Prog := (((cutM 10 t).take ((cutM 10 t).length - 1)).take 9).foldl stepL ⟨[], [], [], [], []⟩
def samplesL : List Str := [[115, 101, 109, 115, 32, 49, 10, 116, 104, 114, 101, 97, 100, 32, 97, 99, 113, 117, 105, 114, 101, 32, 48, 32, 49, 44, 32, 115, 97, 121, 32, 49, 44, 32, 114, 101, 108, 101, 97, 115, 101, 32, 48, 32, 49, 10, 116, 104, 114, 101, 97, 100, 32, 97, 99, 113, 117, 105, 114, 101, 32, 48, 32, 49, 44, 32, 115, 97, 121, 32, 50, 44, 32, 114, 101, 108, 101, 97, 115, 101, 32, 48, 32, 49, 10], [115, 101, 109, 115, 32, 49, 32, 49, 10, 116, 104, 114, 101, 97, 100, 32, 97, 99, 113, 117, 105, 114, 101, 32, 48, 32, 49, 44, 32, 97, 99, 113, 117, 105, 114, 101, 32, 49, 32, 49, 44, 32, 114, 101, 108, 101, 97, 115, 101, 32, 49, 32, 49, 44, 32, 114, 101, 108, 101, 97, 115, 101, 32, 48, 32, 49, 10, 116, 104, 114, 101, 97, 100, 32, 97, 99, 113, 117, 105, 114, 101, 32, 49, 32, 49, 44, 32, 97, 99, 113, 117, 105, 114, 101, 32, 48, 32, 49, 44, 32, 114, 101, 108, 101, 97, 115, 101, 32, 48, 32, 49, 44, 32, 114, 101, 108, 101, 97, 115, 101, 32, 49, 32, 49, 10], [103, 114, 111, 117, 112, 115, 32, 50, 10, 116, 104, 114, 101, 97, 100, 32, 115, 97, 121, 32, 49, 44, 32, 97, 100, 100, 32, 48, 32, 45, 49, 10, 116, 104, 114, 101, 97, 100, 32, 115, 97, 121, 32, 50, 44, 32, 97, 100, 100, 32, 48, 32, 45, 49, 10, 116, 104, 114, 101, 97, 100, 32, 119, 97, 105, 116, 32, 48, 44, 32, 115, 97, 121, 32, 51, 10], [98, 97, 114, 114, 105, 101, 114, 115, 32, 50, 10, 116, 104, 114, 101, 97, 100, 32, 115, 97, 121, 32, 49, 44, 32, 97, 114, 114, 105, 118, 101, 32, 48, 44, 32, 115, 97, 121, 32, 50, 10, 116, 104, 114, 101, 97, 100, 32, 97, 114, 114, 105, 118, 101, 32, 48, 44, 32, 115, 97, 121, 32, 51, 10], [114, 111, 111, 109, 115, 32, 48, 10, 116, 104, 114, 101, 97, 100, 32, 115, 101, 110, 100, 32, 48, 32, 55, 44, 32, 115, 97, 121, 32, 49, 10, 116, 104, 114, 101, 97, 100, 32, 103, 101, 116, 32, 48, 44, 32, 115, 97, 121, 32, 50, 10], [116, 104, 114, 101, 97, 100, 32, 111, 110, 99, 101, 32, 48, 32, 53, 44, 32, 115, 97, 121, 32, 49, 10, 116, 104, 114, 101, 97, 100, 32, 111, 110, 99, 101, 32, 48, 32, 54, 44, 32, 115, 97, 121, 32, 50, 10], [114, 111, 111, 109, 115, 32, 49, 10, 116, 104, 114, 101, 97, 100, 32, 115, 101, 110, 100, 32, 48, 32, 49, 44, 32, 115, 101, 110, 100, 32, 48, 32, 50, 44, 32, 99, 108, 111, 115, 101, 32, 48, 10, 116, 104, 114, 101, 97, 100, 32, 103, 101, 116, 32, 48, 44, 32, 103, 101, 116, 32, 48, 44, 32, 103, 101, 116, 32, 48, 10], [103, 114, 111, 117, 112, 115, 32, 49, 10, 116, 104, 114, 101, 97, 100, 32, 97, 100, 100, 32, 48, 32, 45, 49, 44, 32, 97, 100, 100, 32, 48, 32, 45, 49, 10, 116, 104, 114, 101, 97, 100, 32, 119, 97, 105, 116, 32, 48, 10]]
instance (xs : List Int) (a b : Int) : Decidable (within xs a b) := by unfold within; exact inferInstance
instance (p : Prog) (o : Op) : Decidable (p.argOk o) := by unfold Prog.argOk; exact inferInstance
instance (p : Prog) (o : Op) : Decidable (OpOk p o) := by unfold OpOk; exact inferInstance
instance (p : Prog) : Decidable (ProgOk p) := decidable_of_iff (within p.sems 1 9 ∧ within p.groups 0 9 ∧ within p.barriers 1 6 ∧ within p.rooms 0 4 ∧ 1 ≤ p.threads.length ∧ p.threads.length ≤ 4 ∧ ∀ t ∈ p.threads, t.length ≤ 8 ∧ ∀ o ∈ t, OpOk p o)
 ⟨fun ⟨a, b, c, d, e, f, g⟩ => ⟨a, b, c, d, e, f, g⟩, fun ⟨a, b, c, d, e, f, g⟩ => ⟨a, b, c, d, e, f, g⟩⟩
theorem samples_ok : ∀ t ∈ samplesL, t.length ≤ 200 ∧ ProgOk (parseM t) ∧ fmtProgM (parseM t) = t := by decide +kernel
theorem part_more (s : Str) {a i : Nat} (h1 : a ≤ i) (h2 : i < s.length) : (s.drop a).take (i + 1 - a) = (s.drop a).take (i - a) ++ [s[i]] := by
 have e : i + 1 - a = (i - a) + 1 := by omega
 rw [e, List.take_succ_eq_append_getElem z81]
 congr 2
 rw [List.getElem_drop]
 congr 1
 omega
theorem u8_eq (a b : UInt8) : ((a.toNat : Int) = (b.toNat : Int)) ↔ a = b := by
 constructor
 · intro h; exact UInt8.toNat_inj.1 (by omega)
 · intro h; rw [h]
set_option maxHeartbeats 4000000 in
set_option maxRecDepth 100000 in
theorem cut_c (s : Str) (c : UInt8) (w : World) (hb : s.length ≤ 1000000) :
   Calls Tryz.prog 161 #[.string (bs s), .int .u8 (c.toNat : Int)] w (Ret w fun v L => ∃ y : Sl, v = y.val (cutM c s).length ∧ L = [own y 9 cTxt 1 (cutM c s)]) := by
 refine calls2 Tryz.func161 rfl tabOk w _ rfl _ rfl [] trivial trivial _ _ (by decide) ?_
 refine AllSl.mk fun y0 => ?_
 refine LoopW.mk ⟨{ q : Nat × Nat × Sl × List Str // (q.1 ≤ s.length → q.2.1 ≤ q.1 ∧ cutM c s = q.2.2.2 ++ cutG c ((s.drop q.2.1).take (q.1 - q.2.1)) (s.drop q.1)) ∧ (s.length < q.1 → q.1 = s.length + 1 ∧ q.2.2.2 = cutM c s) ∧ q.2.1 ≤ s.length + 1 ∧ q.2.2.2.length ≤ q.1 },
   fun q => .mk [(0, .v (.string (bs s))), (1, .v (.int .u8 (c.toNat : Int))), (5, .v (q.1.2.2.1.val q.1.2.2.2.length)), (6, .v (.int .i64 (q.1.2.1 : Int))), (7, .v (.int .i64 (q.1.1 : Int)))] 0 0 [] [] [own q.1.2.2.1 9 cTxt 1 q.1.2.2.2],
   fun q => s.length + 1 - q.1.1, ⟨(0, 0, y0, []), fun _ => ⟨Nat.le_refl _, by simp [cutM]⟩, fun h => z97, by simp, by simp⟩, ?_, ?_⟩
 · exact weak_mk [0] zw2 zw0 zw2 zw5 zw4 rfl rfl
 rintro ⟨⟨i, a, y, out⟩, i1, i2, i3, i4⟩
 simp only at i1 i2 i3 i4 ⊢
 refine stop_slen tabOk rfl rfl rfl rfl rfl rfl ⟨rfl, rfl⟩ ?_
 apply CaseB.mk <;> intro g
 · have hi : i ≤ s.length := by have := of_decide_eq_true g; omega
   obtain ⟨ha, hc⟩ := i1 hi
   have hw := e_succ i (s.length + 1) (by omega) (by omega)
   refine stop_slen tabOk rfl rfl rfl rfl rfl rfl ⟨rfl, rfl⟩ ?_
   apply CaseB.mk <;> intro g
   · have hie : i = s.length := by have g' : (i : Int) = (s.length : Int) := z91; omega
     refine stop_scut tabOk rfl rfl rfl ⟨rfl, rfl⟩ rfl rfl (a) (i) rfl rfl z38 z38 ?_
     refine AllSl.mk fun b3 => ?_
     refine stop_app encTxt 1 tabOk (xs := out) (ys := [(s.drop a).take (i - a)]) rfl rfl rfl rfl rfl rfl rfl rfl rfl (by decide) ⟨rfl, rfl⟩ rfl z30 z38 z38 (fun z3 => ?_)
     refine ⟨⟨(i + 1, i + 1, z3, out ++ [(s.drop a).take (i - a)]), fun h => by have h : i + 1 ≤ s.length := h; omega, fun _ => ⟨show i + 1 = s.length + 1 by omega, ?_⟩, show i + 1 ≤ s.length + 1 by omega, by simp; omega⟩, ?_, by simp only; omega⟩
     · rw [hc, List.drop_eq_nil_of_le (show s.length ≤ i by omega)]; rfl
     · exact weak_mk [0] zw1 zw0 zw1 zw5 zw3 rfl rfl
   have hil : i < s.length := by have g' : ¬ (i : Int) = (s.length : Int) := z91; omega
   have hd : s.drop i = s[i] :: s.drop (i + 1) := List.drop_eq_getElem_cons hil
   refine stop_sidx tabOk rfl rfl rfl rfl ⟨rfl, rfl⟩ (i) rfl z38 ?_
   refine CaseB.mk (fun g2 => ?_) (fun g2 => ?_)
   · have e : s[i] = c := (u8_eq _ _).1 z87
     refine stop_scut tabOk rfl rfl rfl ⟨rfl, rfl⟩ rfl rfl (a) (i) rfl rfl z38 z38 ?_
     refine AllSl.mk fun b3 => ?_
     refine stop_app encTxt 1 tabOk (xs := out) (ys := [(s.drop a).take (i - a)]) rfl rfl rfl rfl rfl rfl rfl rfl rfl (by decide) ⟨rfl, rfl⟩ rfl z30 z38 z38 (fun z3 => ?_)
     refine ⟨⟨(i + 1, i + 1, z3, out ++ [(s.drop a).take (i - a)]), fun _ => ⟨show i + 1 ≤ i + 1 by omega, ?_⟩, fun h => by have h : s.length < i + 1 := h; omega, show i + 1 ≤ s.length + 1 by omega, by simp; omega⟩, ?_, by simp only; omega⟩
     · rw [hc, hd, cutG, if_pos e]; simp
     · exact weak_mk [0] zw1 zw0 zw1 zw5 zw3 rfl rfl
   have e : ¬ s[i] = c := fun h => by rw [h] at g2; simp at g2
   refine ⟨⟨(i + 1, a, y, out), fun _ => ⟨show a ≤ i + 1 by omega, ?_⟩, fun h => by have h : s.length < i + 1 := h; omega, i3, show out.length ≤ i + 1 by omega⟩, ?_, by simp only; omega⟩
   · rw [hc, hd, cutG, if_neg e, part_more s ha hil]
   · exact weak_mk [0] zw1 zw0 zw1 zw5 zw3 rfl rfl
 have hi : s.length < i := by have := of_decide_eq_false g; omega
 obtain ⟨_, e⟩ := i2 hi
 rw [← e]
 exact retw [0] ⟨y, rfl, rfl⟩ z133 rfl ⟨rfl, trivial⟩ (fun _ => rfl)
end Go.Proofs.YtjkkoonennpceaaGreat
