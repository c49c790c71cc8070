/- FnCountTurns: texts that its proof stands on, part 8. -/
import Derived.Test.YtijmjecehppbfaaGreatQCountTurnsg
namespace Go.Proofs.YtijmjecehppbfaaGreat
set_option maxRecDepth 100000
set_option maxHeartbeats 100000000
open Go Go.Sx Go.RowKit
theorem nA (m : Sem) (q : Sl) (w : World) (h : At w [slo q cG 2 m.queue]) (hb : m.queue.length ≤ 1048576) :
   Calls Tryz.prog 126 #[pM m q] w (Ret w fun v L => ∃ y : Sl, v = pM m y ∧ L = [own y 184 cG 2 m.queue]) := by
 refine bV Tryz.func126 rfl aA w _ rfl _ rfl _ h ⟨rfl, rfl, trivial⟩ _ (by decide) ?_
 refine oE cI aA rfl rfl rfl rfl rfl rfl rfl rfl rfl (by decide) ⟨rfl, rfl⟩ z40 z48 z48 (fun y => ?_)
 exact bC [0] ⟨y, rfl, rfl⟩ z151 rfl ⟨rfl, trivial⟩ (fun _ => rfl)
theorem oN0 (x : Waiter) (t : Int) (ga : Nat) (w : World) (h : At w [tL ga t]) :
   Calls Tryz.prog 168 #[.agg (cG x).toArray, .pointer (some ⟨ga, 0, none⟩)] w (Ret w fun v L => v = .bool (x.t == t) ∧ L = []) := by
 refine cM Tryz.func168 rfl aA w _ rfl _ rfl _ h ⟨rfl, rfl, trivial⟩ _ _ (by decide) ?_
 refine mQ 0 aA rfl rfl rfl rfl rfl ⟨rfl, rfl⟩ ?_
 exact aI ⟨rfl, rfl⟩ (fun _ => rfl)
theorem kC0 (i : Sl) (xs : List Waiter) (t : Int) (ga : Nat) (w : World) (h : At w [slo i cG 2 xs, tL ga t]) (hb : xs.length ≤ 1048576) :
   Calls Tryz.prog 167 #[i.val xs.length, .func (.func 168) #[] #[.pointer (some ⟨ga, 0, none⟩)]] w (Ret w fun v L => v = .int .i64 (atM (xs.map (·.t)) t) ∧ L = []) := by
 refine cM Tryz.func167 rfl aA w _ rfl _ rfl _ h ⟨rfl, rfl, rfl, rfl, trivial⟩ _ _ (by decide) ?_
 have hlen : (xs.map (·.t)).length = xs.length := by simp
 refine LoopW.mk ⟨{ k : Nat // k ≤ xs.length ∧ t ∉ (xs.map (·.t)).take k },
   fun p => .mk [(0, .v (i.val xs.length)), (1, .v (.func (.func 168) #[] #[.pointer (some ⟨ga, 0, none⟩)])), (7, .v (.int .i64 xs.length)), (8, .v (.int .i64 p.1))] 0 0 [] [] [slo i cG 2 xs, tL ga t],
   fun p => xs.length - p.1, ⟨0, Nat.zero_le _, by simp⟩, ?_, ?_⟩
 · exact aC [0, 1] zw2 zw0 zw2 zw5 zw4 rfl rfl
 · rintro ⟨k, hk, he⟩
   refine CaseB.mk (fun h => ?_) (fun h => ?_)
   · have hlt : k < xs.length := by simpa using h
     have hlt2 : k < (xs.map (·.t)).length := by rw [hlen]; exact hlt
     refine aG cI aA rfl rfl rfl rfl rfl ⟨rfl, rfl⟩ z40 k rfl z48 (fun ad => ?_)
     refine xC _ cl168 rfl rfl rfl rfl ⟨rfl, rfl⟩ (fun A w hW => (oN0 _ t ga w ⟨hW.varAt 1 rfl, trivial⟩)) ?_
     rintro v L ⟨rfl, rfl⟩
     refine CaseB.mk (fun h => ?_) (fun h => ?_)
     · have heq : (xs.map (·.t))[k] = t := by simpa using h
       exact aI ⟨congrArg (Value.int .i64) (aR0 hlt2 he heq).symm, rfl⟩ (fun _ => rfl)
     · have hne : (xs.map (·.t))[k] ≠ t := by simpa using h
       have hw := nI k _ hlt (by omega)
       refine ⟨⟨k + 1, by omega, gX hlt2 he hne⟩, ?_, by simp; omega⟩
       exact aC [0, 1] zw1 zw0 zw1 zw5 zw3 rfl rfl
   · have hge : xs.length ≤ k := by simpa using h
     rw [List.take_of_length_le (by omega)] at he
     exact aI ⟨congrArg (Value.int .i64) (tE he).symm, rfl⟩ (fun _ => rfl)
theorem hH0 (m : Sem) (q : Sl) (t : Int) (w : World) (h : At w [slo q cG 2 m.queue]) (hb : m.queue.length ≤ 1048576) :
   Calls Tryz.prog 130 #[pM m q, .int .i64 t] w (Ret w fun v L => ∃ a : Int, v = .int .i64 a ∧ a = atM (m.queue.map (·.t)) t ∧ L = []) := by
 refine cM Tryz.func130 rfl aA w _ rfl _ rfl _ h ⟨rfl, rfl, trivial⟩ _ _ (by decide) ?_
 refine aB _ cl167 rfl rfl rfl rfl ⟨rfl, rfl⟩ (fun A w hW => kC0 q m.queue t (A 1) w ⟨hW.get 0 rfl (.refl _), hW.var rfl rfl, trivial⟩ hb) ?_
 rintro v L ⟨rfl, rfl⟩
 exact aI ⟨_, rfl, rfl, rfl⟩ (fun _ => rfl)
def AcqR (p : Sem × Bool) (v : Value) (L : List Fct) : Prop := ∃ y : Sl, v = .tuple #[pM p.1 y, .bool p.2, .bool true] ∧ L = [own y 184 cG 2 p.1.queue]
theorem oM {a b : Int} (h0 : 0 ≤ a - b) (h1 : a - b ≤ 1000) : IntKind.i64.wrap (a - b) = a - b := by rw [cV] <;> omega
theorem cT0 {a b : Int} (h0 : 0 ≤ a + b) (h1 : a + b ≤ 1000) : IntKind.i64.wrap (a + b) = a + b := by rw [cV] <;> omega
theorem hI0 (m : Sem) (q : Sl) (t n : Int) (w : World) (h : At w [slo q cG 2 m.queue]) (ok : SemOk m) (ht : bA t = true) (hn : t ∉ m.queue.map (·.t)) (h1 : 1 ≤ n) (h2 : n ≤ m.limit) :
   Calls Tryz.prog 68 #[pM m q, .int .i64 t, .int .i64 n] w (Ret w (AcqR (m.acquire t n))) := by
 have hb := ok.q6
 have l9 := ok.l9
 have fl := ok.fl
 refine kD Tryz.func68 rfl aA w _ rfl _ rfl _ h ⟨rfl, rfl, trivial⟩ _ _ _ (by decide) ?_
 refine aB _ iS0 rfl rfl rfl rfl ⟨rfl, rfl⟩ (fun A w hW => sK m q w ⟨z39, trivial⟩ (by omega)) ?_
 rintro v L ⟨b, rfl, hbb, rfl⟩
 obtain rfl : b = true := hbb.2 ok
 refine CaseB.mk (fun g => by simp at g) (fun _ => ?_)
 refine aB _ sZ rfl rfl rfl rfl ⟨rfl, rfl⟩ (fun A w hW => gN _ w) ?_
 rintro v L ⟨rfl, rfl⟩
 refine CaseB.mk (fun g => by rw [ht] at g; simp at g) (fun _ => ?_)
 refine aB _ cl130 rfl rfl rfl rfl ⟨rfl, rfl⟩ (fun A w hW => hH0 m q t w ⟨z39, trivial⟩ (by omega)) ?_
 rintro v L ⟨a, rfl, ha, rfl⟩
 have ha0 : ¬ 0 ≤ a := fun h => hn ((eM _ _).1 (ha ▸ h))
 refine CaseB.mk (fun g => by have g' := of_decide_eq_true g; exact (ha0 g').elim) (fun _ => ?_)
 refine CaseB.mk (fun g => by have g' := of_decide_eq_true g; omega) (fun _ => ?_)
 refine CaseB.mk (fun g => by have g' := of_decide_eq_true g; omega) (fun _ => ?_)
 refine aB _ cC0 rfl rfl rfl rfl ⟨rfl, rfl⟩ (fun A w hW => nA m q w ⟨z39, trivial⟩ (by omega)) ?_
 rintro v L ⟨y, rfl, rfl⟩
 have hac : ¬ (m.queue = [] ∧ n ≤ m.free) → m.acquire t n = ({ m with queue := m.queue ++ [⟨t, n⟩] }, false) := fun h => by rw [Sem.acquire, if_neg h]
 apply CaseB.mk <;> intro g
 · have hq : m.queue = [] := List.eq_nil_of_length_eq_zero (by have g' := of_decide_eq_true g; omega)
   apply CaseB.mk <;> intro g
   · have hf : n ≤ m.free := by simpa using g
     have hw := oM (a := m.free) (b := n) (by omega) (by omega)
     have e : m.acquire t n = ({ m with free := m.free - n }, true) := by rw [Sem.acquire, if_pos ⟨hq, hf⟩]
     rw [e]
     exact bC [0] ⟨y, rfl, rfl⟩ ⟨.inl ⟨_, rfl, z80⟩, trivial⟩ rfl ⟨rfl, trivial⟩ (fun _ => z80)
   · have hf : ¬ n ≤ m.free := by simpa using g
     rw [hac fun h => hf h.2]
     refine AllSl.mk fun z => ?_
     refine bZ cI aA (ys := [⟨t, n⟩]) rfl rfl rfl rfl rfl rfl rfl rfl rfl (by decide) ⟨rfl, rfl⟩ z44 z40 z48 z48 (fun y2 => ?_)
     refine aB _ cC0 rfl rfl rfl rfl ⟨rfl, rfl⟩ (fun A w hW => nA { m with queue := m.queue ++ [⟨t, n⟩] } y2 w ⟨z39, trivial⟩ z106) ?_
     rintro v L ⟨y3, rfl, rfl⟩
     exact bC [0] ⟨y3, rfl, rfl⟩ z151 rfl ⟨rfl, trivial⟩ (fun _ => rfl)
 · have hq : ¬ m.queue = [] := fun e => by rw [e] at g; simp at g
   rw [hac fun h => hq h.1]
   refine AllSl.mk fun z => ?_
   refine bZ cI aA (ys := [⟨t, n⟩]) rfl rfl rfl rfl rfl rfl rfl rfl rfl (by decide) ⟨rfl, rfl⟩ z44 z40 z48 z48 (fun y2 => ?_)
   refine aB _ cC0 rfl rfl rfl rfl ⟨rfl, rfl⟩ (fun A w hW => nA { m with queue := m.queue ++ [⟨t, n⟩] } y2 w ⟨z39, trivial⟩ z106) ?_
   rintro v L ⟨y3, rfl, rfl⟩
   exact bC [0] ⟨y3, rfl, rfl⟩ z151 rfl ⟨rfl, trivial⟩ (fun _ => rfl)
structure HandY (f0 : Int) (Q : List Waiter) (q : Sl) where
 f : Int
 R : List Waiter
 G : List Int
 qk : Sl
 y : Sl
 h : dV f0 Q = ((dV f R).1, G ++ (dV f R).2.1, (dV f R).2.2)
 l0 : 0 ≤ f
 l1 : f ≤ f0
 c : ∀ x ∈ R, 1 ≤ x.n
 n : R.length + G.length = Q.length
 rd : ∀ w : World, (slo q cG 2 Q).P w → RdS w qk 2 (cells cG R) R.length
theorem cU0 {f : Int} {R : List Waiter} (h : ∀ h0 : 0 < R.length, ¬ R[0].n ≤ f) : dV f R = (f, [], R) := by
 cases R with
 | nil => rfl
 | cons x r => exact if_neg (h (by simp))
theorem zI {f : Int} {R : List Waiter} (h0 : 0 < R.length) (h : R[0].n ≤ f) : dV f R = ((dV (f - R[0].n) (R.drop 1)).1, R[0].t :: (dV (f - R[0].n) (R.drop 1)).2.1, (dV (f - R[0].n) (R.drop 1)).2.2) := by
 cases R with
 | nil => simp at h0
 | cons x r => exact if_pos h
def HandR (lim : Int) (p : Int × List Int × List Waiter) (v : Value) (cs : List Value) (L : List Fct) : Prop :=
 ∃ y q : Sl, v = y.val p.2.1.length ∧ cs = [.int .i64 p.1, .int .i64 lim, q.val p.2.2.length] ∧ L = [own y 3 aJ 1 p.2.1, own q 184 cG 2 p.2.2]
def gH : Sl := ⟨none, 0⟩
theorem oO0 (g : Nat) (f0 lim : Int) (Q : List Waiter) (q : Sl) (w : World) (hg : Blk w g 95 [.int .i64 f0, .int .i64 lim, q.val Q.length]) (h : AtP w g [slo q cG 2 Q]) (hb : Q.length ≤ 100) (hf0 : 0 ≤ f0) (hf9 : f0 ≤ 100) (hc : ∀ x ∈ Q, 1 ≤ x.n) :
   Calls Tryz.prog 131 #[.pointer (some ⟨g, 0, none⟩)] w (wY w g 95 3 (HandR lim (dV f0 Q))) := by
 refine aQ0 Tryz.func131 rfl aA w _ rfl _ rfl _ 95 _ 3 rfl hg _ h ⟨rfl, rfl, trivial⟩ (by decide) ?_
 refine LoopW.mk ⟨HandY f0 Q q,
   fun y => .mk [(0, .p 0 0), (3, .v (y.y.val y.G.length))] 1 0 [(0, 95, 3)] [((0, 0), .v (.int .i64 y.f)), ((0, 1), .v (.int .i64 lim)), ((0, 2), .v (y.qk.val y.R.length))] [own y.y 3 aJ 1 y.G, slo q cG 2 Q],
   fun y => y.R.length, ⟨f0, Q, [], q, gH, by simp, hf0, by omega, hc, by simp, fun w hq => ?_⟩, ?_, ?_⟩
 · exact hH (F := [slo q cG 2 Q]) 0 rfl w (fun f hf => by simp at hf; rw [hf]; exact hq)
 · exact aC [99, 0] zw2 zw0 zw2 zw5 zw4 rfl rfl
 · rintro ⟨f, R, G, qk, y, hh, l0, l1, hcR, hn, hr⟩
   simp only
   have hrd : ∀ F : List Fct, slo q cG 2 Q ∈ F → ∀ w : World, (∀ f' ∈ F, f'.P w) → RdS w qk 2 (cells cG R) R.length := fun F hm w hF => hr w (hF _ hm)
   have fin : (¬ ∃ h0 : 0 < R.length, R[0].n ≤ f) → dV f0 Q = (f, G, R) := fun hn => by
     rw [hh, cU0 (fun h0 hle => hn ⟨h0, hle⟩)]; simp
   refine aE aA z107 z107 z107 200 [((0, 0), .v (.int .i64 f)), ((0, 2), .v (qk.val R.length))] [1] [_] z142 z152 ⟨rfl, trivial⟩ rfl ?_
   refine CaseB.mk (fun h1 => ?_) (fun h1 => ?_)
   · have h0 : 0 < R.length := by simpa using h1
     refine bM (ti := aU tab) cI aA rfl rfl rfl rfl rfl ⟨rfl, rfl⟩ (hrd _ (by simp)) 0 rfl z48 (fun ad => ?_)
     refine CaseB.mk (fun h2 => ?_) (fun h2 => ?_)
     · have hle : R[0].n ≤ f := by simpa using h2
       have he := zI h0 hle
       have hw := oM (a := f) (b := R[0].n) (by omega) (by have := hcR R[0] (List.getElem_mem h0); omega)
       have hn1 := hcR R[0] (List.getElem_mem h0)
       refine aE aA z107 z107 z107 200 [((0, 2), .v (qk.val R.length))] [1] [_] z153 z156 ⟨rfl, trivial⟩ rfl ?_
       refine bM (ti := aU tab) cI aA rfl rfl rfl rfl rfl ⟨rfl, rfl⟩ (hrd _ (by simp)) 0 rfl z48 (fun ad => ?_)
       refine aG cI aA rfl rfl rfl rfl rfl ⟨rfl, rfl⟩ (hrd _ (by simp)) 0 rfl z48 (fun ad2 => ?_)
       refine AllSl.mk fun z1 => ?_
       refine bZ aD aA (xs := G) (ys := [R[0].t]) rfl rfl rfl rfl rfl rfl rfl rfl rfl (by decide) ⟨rfl, rfl⟩ z44 z40 z48 z48 (fun y2 => ?_)
       refine hY aA rfl rfl rfl rfl ⟨rfl, rfl⟩ rfl rfl (hrd _ (by simp)) (1) (R.length) ((R.drop 1)).length rfl rfl z48 z48 z48 ?_
       refine ⟨⟨f - R[0].n, R.drop 1, G ++ [R[0].t], qk.cut 1 2, y2, by rw [hh, he]; simp, by omega, by omega, fun x hx => hcR x (List.mem_of_mem_drop hx), by simp; omega, fun w hq => uR cI (F := [slo q cG 2 Q]) 1 (by omega) (hrd _ (by simp)) w (fun f' hf' => by simp at hf'; rw [hf']; exact hq)⟩, ?_, by simp; omega⟩
       exact aC [0, 2] zw1 zw0 zw1 zw5 zw3 rfl rfl
     · have hle : ¬ R[0].n ≤ f := by simpa using h2
       have he := fin fun ⟨_, h⟩ => hle h
       rw [he]
       refine oE cI aA rfl rfl rfl rfl rfl rfl rfl rfl rfl (by decide) ⟨rfl, rfl⟩ (hrd _ (by simp)) z48 z48 (fun q2 => ?_)
       exact mN [1, 0] ⟨y, q2, rfl, rfl, rfl⟩ rfl rfl z144 rfl ⟨rfl, rfl, trivial⟩ (fun _ => rfl)
   · have h0 : ¬ 0 < R.length := by simpa using h1
     have he := fin fun ⟨h, _⟩ => h0 h
     rw [he]
     refine oE cI aA rfl rfl rfl rfl rfl rfl rfl rfl rfl (by decide) ⟨rfl, rfl⟩ (hrd _ (by simp)) z48 z48 (fun q2 => ?_)
     exact mN [1, 0] ⟨y, q2, rfl, rfl, rfl⟩ rfl rfl z144 rfl ⟨rfl, rfl, trivial⟩ (fun _ => rfl)
def RelR (p : Option (Sem × List Int)) (v : Value) (L : List Fct) : Prop :=
 match p with
 | none => ∃ y z : Sl, v = .tuple #[pM ⟨0, 0, []⟩ y, z.val 0, .bool false] ∧ L = []
 | some p => ∃ y z : Sl, v = .tuple #[pM p.1 y, z.val p.2.length, .bool true] ∧ L = [own y 184 cG 2 p.1.queue, own z 3 aJ 1 p.2]
theorem zJ (m : Sem) (q : Sl) (n : Int) (w : World) (h : At w [slo q cG 2 m.queue]) (ok : SemOk m) (h1 : 1 ≤ n) (h2 : n ≤ m.limit) :
   Calls Tryz.prog 70 #[pM m q, .int .i64 n] w (Ret w (RelR (m.release n))) := by
 have hb := ok.q6
 have l9 := ok.l9
 have fl := ok.fl
 have f0 := ok.f0
 refine cM Tryz.func70 rfl aA w _ rfl _ rfl _ h ⟨rfl, rfl, trivial⟩ _ _ (by decide) ?_
 refine aB _ iS0 rfl rfl rfl rfl ⟨rfl, rfl⟩ (fun A w hW => sK m q w ⟨z39, trivial⟩ (by omega)) ?_
 rintro v L ⟨b, rfl, hbb, rfl⟩
 obtain rfl : b = true := hbb.2 ok
 refine CaseB.mk (fun g => by simp at g) (fun _ => ?_)
 refine CaseB.mk (fun g => by have g' := of_decide_eq_true g; omega) (fun _ => ?_)
 have hw := oM (a := m.limit) (b := m.free) (by omega) (by omega)
 apply CaseB.mk <;> intro g
 · rw [hw] at g
   have hn : ¬ n ≤ m.limit - m.free := by have g' := of_decide_eq_true g; omega
   rw [Sem.release, if_neg hn]
   exact aI ⟨gH, gH, rfl, rfl⟩ (fun _ => rfl)
 rw [hw] at g
 have hn : n ≤ m.limit - m.free := by have g' := of_decide_eq_false g; omega
 rw [Sem.release, if_pos hn]
 refine aB _ cC0 rfl rfl rfl rfl ⟨rfl, rfl⟩ (fun A w hW => nA m q w ⟨z39, trivial⟩ (by omega)) ?_
 rintro v L ⟨y, rfl, rfl⟩
 have hw2 := cT0 (a := m.free) (b := n) (by omega) (by omega)
 refine bN _ cl131 rfl rfl rfl rfl ⟨rfl, rfl⟩ rfl rfl (fun A w ga hga hW hblk => (oO0 ga (IntKind.i64.wrap (m.free + n)) m.limit m.queue y w hblk ⟨z38, trivial⟩ (by omega) (by rw [hw2]; omega) (by rw [hw2]; omega) (fun x hx => (ok.cnt x hx).1))) ?_
 rw [hw2]
 rintro v cs L ⟨z, q2, rfl, rfl, rfl⟩
 exact bC [1, 0] ⟨q2, z, rfl, rfl⟩ z144 rfl ⟨rfl, rfl, trivial⟩ (fun _ => rfl)
theorem qG (m : Once) (q : Sl) (w : World) (h : At w [slo q aJ 1 m.waits]) (hb : m.waits.length ≤ 1048576) :
   Calls Tryz.prog 127 #[kO m q] w (Ret w fun v L => ∃ y : Sl, v = kO m y ∧ L = [own y 3 aJ 1 m.waits]) := by
 refine bV Tryz.func127 rfl aA w _ rfl _ rfl _ h ⟨rfl, rfl, trivial⟩ _ (by decide) ?_
 refine aB _ hJ rfl rfl rfl rfl ⟨rfl, rfl⟩ (fun A w hW => cA q m.waits w ⟨z39, trivial⟩ (by omega)) ?_
 rintro v L ⟨y, rfl, rfl⟩
 exact bC [0] ⟨y, rfl, rfl⟩ z151 rfl ⟨rfl, trivial⟩ (fun _ => rfl)
def EntR (p : Once × Int) (v : Value) (L : List Fct) : Prop := ∃ y : Sl, v = .tuple #[kO p.1 y, .int .i64 p.2, .bool true] ∧ L = [own y 3 aJ 1 p.1.waits]
def FinR (p : Once × List Int) (v : Value) (L : List Fct) : Prop := ∃ y z : Sl, v = .tuple #[kO p.1 y, z.val p.2.length, .bool true] ∧ L = [own y 3 aJ 1 p.1.waits, own z 3 aJ 1 p.2]
def AddR (p : Option (Group × List Int)) (v : Value) (L : List Fct) : Prop :=
 match p with
 | none => ∃ y z : Sl, v = .tuple #[lQ ⟨0, []⟩ y, z.val 0, .bool false] ∧ L = []
 | some p => ∃ y z : Sl, v = .tuple #[lQ p.1 y, z.val p.2.length, .bool true] ∧ L = [own y 3 aJ 1 p.1.waits, own z 3 aJ 1 p.2]
def WaiR (p : Group × Bool) (v : Value) (L : List Fct) : Prop := ∃ y : Sl, v = .tuple #[lQ p.1 y, .bool p.2, .bool true] ∧ L = [own y 3 aJ 1 p.1.waits]
def ArrR (p : Option (Barrier × List Int)) (v : Value) (L : List Fct) : Prop :=
 match p with
 | none => ∃ z : Sl, v = .tuple #[lE ⟨0, 0, []⟩ gH, z.val 0, .bool false] ∧ L = []
 | some p => ∃ y z : Sl, v = .tuple #[lE p.1 y, z.val p.2.length, .bool true] ∧ L = [own y 3 aJ 1 p.1.waits, own z 3 aJ 1 p.2]
theorem mG0 (m : Once) (q : Sl) (t : Int) (w : World) (h : At w [slo q aJ 1 m.waits]) (ok : eG m) (ht : bA t = true) (hn : t ∉ m.waits) (ho : m.state = 1 → m.owner ≠ t) :
   Calls Tryz.prog 72 #[kO m q, .int .i64 t] w (Ret w (EntR (m.enter t))) := by
 have hb := eV ok
 refine cM Tryz.func72 rfl aA w _ rfl _ rfl _ h ⟨rfl, rfl, trivial⟩ _ _ (by decide) ?_
 refine aB _ iU0 rfl rfl rfl rfl ⟨rfl, rfl⟩ (fun A w hW => qC m q w ⟨z39, trivial⟩ (by omega)) ?_
 rintro v L ⟨b, rfl, hbb, rfl⟩
 obtain rfl : b = true := hbb.2 ok
 refine CaseB.mk (fun g => by simp at g) (fun _ => ?_)
 refine aB _ sZ rfl rfl rfl rfl ⟨rfl, rfl⟩ (fun A w hW => gN _ w) ?_
 rintro v L ⟨rfl, rfl⟩
 refine CaseB.mk (fun g => by rw [ht] at g; simp at g) (fun _ => ?_)
 apply CaseB.mk <;> intro g
 · have e0 : m.state = 0 := by simpa using g
   rw [Once.enter, if_pos e0]
   exact bC [99] ⟨gH, rfl, rfl⟩ z138 rfl ⟨rfl, trivial⟩ (fun _ => (by first | rfl | ((simp only [e0, hC, kO]; rfl))))
 have e0 : ¬ m.state = 0 := by simpa using g
 rw [Once.enter, if_neg e0]
 apply CaseB.mk <;> intro g
 · have e1 : m.state = 1 := by simpa using g
   rw [if_pos e1]
   have hno := ho e1
   refine CaseB.mk (fun g => by exact (hno z103).elim) (fun _ => ?_)
   refine aB _ dV0 rfl rfl rfl rfl ⟨rfl, rfl⟩ (fun A w hW => jG q m.waits t w ⟨z39, trivial⟩ (by omega)) ?_
   rintro v L ⟨rfl, rfl⟩
   refine CaseB.mk (fun g => by exact (hn z103).elim) (fun _ => ?_)
   refine aB _ iV0 rfl rfl rfl rfl ⟨rfl, rfl⟩ (fun A w hW => qG m q w ⟨z39, trivial⟩ (by omega)) ?_
   rintro v L ⟨y, rfl, rfl⟩
   refine AllSl.mk fun z => ?_
   refine bZ aD aA (ys := [t]) rfl rfl rfl rfl rfl rfl rfl rfl rfl (by decide) ⟨rfl, rfl⟩ z44 z40 z48 z48 (fun y2 => ?_)
   refine aB _ hJ rfl rfl rfl rfl ⟨rfl, rfl⟩ (fun A w hW => cA y2 (m.waits ++ [t]) w ⟨z39, trivial⟩ z106) ?_
   rintro v L ⟨y3, rfl, rfl⟩
   exact bC [0] ⟨y3, rfl, rfl⟩ ⟨.inl ⟨_, rfl, (by first | rfl | ((simp only [e1, hC, SV.den, kO]; rfl)))⟩, trivial⟩ rfl ⟨rfl, trivial⟩ (fun _ => (by first | rfl | ((simp only [e1, hC, kO]; rfl))))
 have e1 : ¬ m.state = 1 := by simpa using g
 rw [if_neg e1]
 have e2 : m.state = 2 := by
   rcases ok with h | h | h
   · exact (e0 h.1).elim
   · exact (e1 h.1).elim
   · exact h.1
 refine aB _ iV0 rfl rfl rfl rfl ⟨rfl, rfl⟩ (fun A w hW => qG m q w ⟨z39, trivial⟩ (by omega)) ?_
 rintro v L ⟨y, rfl, rfl⟩
 exact bC [0] ⟨y, rfl, rfl⟩ ⟨.inl ⟨_, rfl, (by first | rfl | ((simp only [e2, hC, SV.den, kO]; rfl)))⟩, trivial⟩ rfl ⟨rfl, trivial⟩ (fun _ => (by first | rfl | ((simp only [e2, hC, kO]; rfl))))
theorem kD0 (m : Once) (q : Sl) (t u : Int) (w : World) (h : At w [slo q aJ 1 m.waits]) (ok : eG m) (h1 : m.state = 1) (ho : m.owner = t) (hv : aW u = true) :
   Calls Tryz.prog 71 #[kO m q, .int .i64 t, .int .i64 u] w (Ret w (FinR (m.finish t u))) := by
 have hb := eV ok
 refine kD Tryz.func71 rfl aA w _ rfl _ rfl _ h ⟨rfl, rfl, trivial⟩ _ _ _ (by decide) ?_
 refine aB _ iU0 rfl rfl rfl rfl ⟨rfl, rfl⟩ (fun A w hW => qC m q w ⟨z39, trivial⟩ (by omega)) ?_
 rintro v L ⟨b, rfl, hbb, rfl⟩
 obtain rfl : b = true := hbb.2 ok
 refine CaseB.mk (fun g => by simp at g) (fun _ => ?_)
 refine CaseB.mk (fun g => by simp [h1] at g) (fun _ => ?_)
 refine CaseB.mk (fun g => by simp [ho] at g) (fun _ => ?_)
 refine aB _ pW rfl rfl rfl rfl ⟨rfl, rfl⟩ (fun A w hW => gD _ w) ?_
 rintro v L ⟨rfl, rfl⟩
 refine CaseB.mk (fun g => by simp [hv] at g) (fun _ => ?_)
 refine aB _ hJ rfl rfl rfl rfl ⟨rfl, rfl⟩ (fun A w hW => cA q m.waits w ⟨z39, trivial⟩ (by omega)) ?_
 rintro v L ⟨y, rfl, rfl⟩
 exact bC [99, 0] ⟨gH, y, rfl, rfl⟩ z132 rfl ⟨rfl, rfl, trivial⟩ (fun _ => rfl)
theorem nP0 (m : Group) (q : Sl) (n : Int) (w : World) (h : At w [slo q aJ 1 m.waits]) (ok : eY m) (h1 : -9 ≤ n) (h9 : n ≤ 9) :
   Calls Tryz.prog 73 #[lQ m q, .int .i64 n] w (Ret w (AddR (m.add n))) := by
 have hb := fM ok
 have hv : 0 ≤ m.count ∧ m.count ≤ 99 := by have := ok.1; simp [aW] at this; omega
 have hw : IntKind.i64.wrap (m.count + n) = m.count + n := by rw [IntKind.wrap_i64]; omega
 refine cM Tryz.func73 rfl aA w _ rfl _ rfl _ h ⟨rfl, rfl, trivial⟩ _ _ (by decide) ?_
 refine aB _ iT0 rfl rfl rfl rfl ⟨rfl, rfl⟩ (fun A w hW => oW m q w ⟨z39, trivial⟩ (by omega)) ?_
 rintro v L ⟨b, rfl, hbb, rfl⟩
 obtain rfl : b = true := hbb.2 ok
 refine CaseB.mk (fun g => by simp at g) (fun _ => ?_)
 refine CaseB.mk (fun g => by have g' := of_decide_eq_true g; omega) (fun _ => ?_)
 refine CaseB.mk (fun g => by have g' := of_decide_eq_true g; omega) (fun _ => ?_)
 refine aB _ pW rfl rfl rfl rfl ⟨rfl, rfl⟩ (fun A w hW => gD _ w) ?_
 rw [hw]
 rintro v L ⟨rfl, rfl⟩
 apply CaseB.mk <;> intro g
 · have hn : ¬ aW (m.count + n) = true := by simpa using g
   rw [Group.add, if_neg hn]
   exact aI ⟨gH, gH, rfl, rfl⟩ (fun _ => rfl)
 have hn : aW (m.count + n) = true := by simpa using g
 rw [Group.add, if_pos hn]
 apply CaseB.mk <;> intro g
 · rw [hw] at g
   have h0 : m.count + n = 0 := by simpa using g
   rw [if_pos h0]
   refine aB _ hJ rfl rfl rfl rfl ⟨rfl, rfl⟩ (fun A w hW => cA q m.waits w ⟨z39, trivial⟩ (by omega)) ?_
   rintro v L ⟨y, rfl, rfl⟩
   exact bC [99, 0] ⟨gH, y, rfl, rfl⟩ z132 rfl ⟨rfl, rfl, trivial⟩ (fun _ => rfl)
 rw [hw] at g
 have h0 : ¬ m.count + n = 0 := by simpa using g
 rw [if_neg h0]
 refine aE aA z107 z107 z107 200 [((0, 0), .v (.int .i64 m.count)), ((0, 1), .v (q.val m.waits.length))] [0] [_] z142 z152 ⟨rfl, trivial⟩ rfl ?_
 refine bL _ hJ rfl rfl rfl rfl ⟨rfl, rfl⟩ (fun A w hW => cA q m.waits w ⟨z39, trivial⟩ (by omega)) ?_
 rintro v L ⟨y, rfl, rfl⟩
 exact bC [0, 99] ⟨y, gH, rfl, rfl⟩ ⟨.inl ⟨_, rfl, z77⟩, .inr z146, trivial⟩ rfl ⟨rfl, rfl, trivial⟩ (fun _ => z77)
theorem oP0 (m : Group) (q : Sl) (t : Int) (w : World) (h : At w [slo q aJ 1 m.waits]) (ok : eY m) (ht : bA t = true) (hn : t ∉ m.waits) :
   Calls Tryz.prog 74 #[lQ m q, .int .i64 t] w (Ret w (WaiR (m.wait t))) := by
 have hb := fM ok
 refine cM Tryz.func74 rfl aA w _ rfl _ rfl _ h ⟨rfl, rfl, trivial⟩ _ _ (by decide) ?_
 refine aB _ iT0 rfl rfl rfl rfl ⟨rfl, rfl⟩ (fun A w hW => oW m q w ⟨z39, trivial⟩ (by omega)) ?_
 rintro v L ⟨b, rfl, hbb, rfl⟩
 obtain rfl : b = true := hbb.2 ok
 refine CaseB.mk (fun g => by simp at g) (fun _ => ?_)
 refine aB _ sZ rfl rfl rfl rfl ⟨rfl, rfl⟩ (fun A w hW => gN _ w) ?_
 rintro v L ⟨rfl, rfl⟩
 refine CaseB.mk (fun g => by rw [ht] at g; simp at g) (fun _ => ?_)
 refine aB _ dV0 rfl rfl rfl rfl ⟨rfl, rfl⟩ (fun A w hW => jG q m.waits t w ⟨z39, trivial⟩ (by omega)) ?_
 rintro v L ⟨rfl, rfl⟩
 refine CaseB.mk (fun g => by exact (hn z103).elim) (fun _ => ?_)
 apply CaseB.mk <;> intro g
 · have h0 : m.count = 0 := by simpa using g
   rw [Group.wait, if_pos h0]
   exact bC [99] ⟨gH, rfl, rfl⟩ z138 rfl ⟨rfl, trivial⟩ (fun _ => rfl)
 have h0 : ¬ m.count = 0 := by simpa using g
 rw [Group.wait, if_neg h0]
 refine aE aA z107 z107 z107 200 [((0, 0), .v (.int .i64 m.count)), ((0, 1), .v (q.val m.waits.length))] [0] [_] z142 z152 ⟨rfl, trivial⟩ rfl ?_
 refine BothW.mk ?_ ?_
 · refine bL _ hJ rfl rfl rfl rfl ⟨rfl, rfl⟩ (fun A w hW => cA q m.waits w ⟨z39, trivial⟩ (by omega)) ?_
   rintro v L ⟨y, rfl, rfl⟩
   refine AllSl.mk fun z => ?_
   refine lN (ti := aU tab) aD aA (ys := [t]) rfl rfl rfl rfl rfl rfl rfl rfl rfl (by decide) ⟨rfl, rfl⟩ z44 z40 z48 z48 z105 (fun y2 => ?_)
   exact bC [0] ⟨y2, rfl, rfl⟩ z151 rfl ⟨rfl, trivial⟩ (fun _ => rfl)
 · refine AllSl.mk fun z => ?_
   refine bL _ hJ rfl rfl rfl rfl ⟨rfl, rfl⟩ (fun A w hW => cA q m.waits w ⟨z39, trivial⟩ (by omega)) ?_
   rintro v L ⟨y, rfl, rfl⟩
   refine lN (ti := aU tab) aD aA (ys := [t]) rfl rfl rfl rfl rfl rfl rfl rfl rfl (by decide) ⟨rfl, rfl⟩ z44 z40 z48 z48 z105 (fun y2 => ?_)
   exact bC [0] ⟨y2, rfl, rfl⟩ z151 rfl ⟨rfl, trivial⟩ (fun _ => rfl)
theorem cV0 (m : Barrier) (q : Sl) (t : Int) (w : World) (h : At w [slo q aJ 1 m.waits]) (ok : dO m) (ht : bA t = true) (hn : t ∉ m.waits) :
   Calls Tryz.prog 75 #[lE m q, .int .i64 t] w (Ret w (ArrR (m.arrive t))) := by
 have hb := fY ok
 obtain ⟨p1, p6, r0, r9, wl, dis⟩ := ok
 have hw : IntKind.i64.wrap (m.round + 1) = m.round + 1 := by rw [IntKind.wrap_i64]; omega
 refine cM Tryz.func75 rfl aA w _ rfl _ rfl _ h ⟨rfl, rfl, trivial⟩ _ _ (by decide) ?_
 refine aB _ mW0 rfl rfl rfl rfl ⟨rfl, rfl⟩ (fun A w hW => qD m q w ⟨z39, trivial⟩ (by omega)) ?_
 rintro v L ⟨b, rfl, hbb, rfl⟩
 obtain rfl : b = true := hbb.2 ⟨p1, p6, r0, r9, wl, dis⟩
 refine CaseB.mk (fun g => by simp at g) (fun _ => ?_)
 refine aB _ sZ rfl rfl rfl rfl ⟨rfl, rfl⟩ (fun A w hW => gN _ w) ?_
 rintro v L ⟨rfl, rfl⟩
 refine CaseB.mk (fun g => by rw [ht] at g; simp at g) (fun _ => ?_)
 refine aB _ dV0 rfl rfl rfl rfl ⟨rfl, rfl⟩ (fun A w hW => jG q m.waits t w ⟨z39, trivial⟩ (by omega)) ?_
 rintro v L ⟨rfl, rfl⟩
 refine CaseB.mk (fun g => by exact (hn z103).elim) (fun _ => ?_)
 refine aB _ hJ rfl rfl rfl rfl ⟨rfl, rfl⟩ (fun A w hW => cA q m.waits w ⟨z39, trivial⟩ (by omega)) ?_
 rintro v L ⟨y, rfl, rfl⟩
 refine AllSl.mk fun z => ?_
 refine bZ aD aA (ys := [t]) rfl rfl rfl rfl rfl rfl rfl rfl rfl (by decide) ⟨rfl, rfl⟩ z44 z40 z48 z48 (fun y2 => ?_)
 have hl : (m.waits ++ [t]).length = m.waits.length + 1 := by simp
 apply CaseB.mk <;> intro g
 · have h0 : (m.waits.length : Int) + 1 < m.parties := by have g' := of_decide_eq_true g; rw [hl] at g'; omega
   rw [Barrier.arrive, if_pos h0]
   exact bC [0, 99] ⟨y2, gH, rfl, rfl⟩ z133 rfl ⟨rfl, rfl, trivial⟩ (fun _ => rfl)
 have h0 : ¬ (m.waits.length : Int) + 1 < m.parties := by have g' := of_decide_eq_false g; rw [hl] at g'; omega
 rw [Barrier.arrive, if_neg h0]
 apply CaseB.mk <;> intro g
 · rw [hw] at g
   have h9 : m.round = 9999 := by have g' := of_decide_eq_true g; omega
   rw [if_pos h9]
   exact aI ⟨gH, rfl, rfl⟩ (fun _ => rfl)
 rw [hw] at g
 have h9 : ¬ m.round = 9999 := by have g' := of_decide_eq_false g; omega
 rw [if_neg h9]
 exact bC [99, 0] ⟨gH, y2, rfl, rfl⟩ ⟨.inr z146, .inl ⟨_, rfl, z76⟩, trivial⟩ rfl ⟨rfl, rfl, trivial⟩ (fun _ => z76)
theorem cL (s : StateH) (w : World) (h : At w [fR (aK s)]) (hb : s.pure.small20) :
   Calls Tryz.prog 64 #[aM s] w (Ret w fun v L => ∃ y : StateH, v = aM y ∧ y.pure = s.pure ∧ L = [fO (aK y)]) := by
 obtain ⟨b0, b1, b2, b3, b4, b5, b6, b7⟩ := hb
 have l0 : s.places.length ≤ 1048576 := b0
 have l1 : s.status.length ≤ 1048576 := b1
 have l7 : s.said.length ≤ 1048576 := b7
 have l2 : s.sems.length ≤ 1048576 := (cO b2).1
 have l3 : s.onces.length ≤ 1048576 := (cO b3).1
 have l4 : s.groups.length ≤ 1048576 := (cO b4).1
 have l5 : s.barriers.length ≤ 1048576 := (cO b5).1
 have l6 : s.chans.length ≤ 1048576 := (cO b6).1
 refine bV Tryz.func64 rfl aA w _ rfl _ rfl _ h ⟨rfl, rfl, trivial⟩ _ (by decide) ?_
 refine mL (Sl × Sl × Sl) (fun y => .mk [(1, .p 0 0), (2, .p 1 0), (3, .p 2 0)] 3 0 [(0, 35, 9), (1, 35, 9), (2, 35, 9)] [((0, 0), .v (s.h0.val s.places.length)), ((0, 1), .v (s.h1.val s.status.length)), ((0, 2), .v (s.h2.val s.sems.length)), ((0, 3), .v (s.h3.val s.onces.length)), ((0, 4), .v (s.h4.val s.groups.length)), ((0, 5), .v (s.h5.val s.barriers.length)), ((0, 6), .v (s.h6.val s.chans.length)), ((0, 7), .v (s.h7.val s.said.length)), ((0, 8), .v (.int .i64 s.fault)), ((2, 0), .v (y.1.val s.places.length)), ((2, 1), .v (y.2.1.val s.status.length)), ((2, 2), .v (.slice none 0 0)), ((2, 3), .v (.slice none 0 0)), ((2, 4), .v (.slice none 0 0)), ((2, 5), .v (.slice none 0 0)), ((2, 6), .v (.slice none 0 0)), ((2, 7), .v (y.2.2.val s.said.length)), ((2, 8), .v (.int .i64 s.fault))] [own y.1 3 aJ 1 s.places, own y.2.1 3 aJ 1 s.status, own y.2.2 3 aJ 1 s.said, fR (aK s)]) ?_ ?_
 · refine aE aA z107 z107 z107 200 [((0, 0), .v (s.h0.val s.places.length)), ((0, 1), .v (s.h1.val s.status.length)), ((0, 7), .v (s.h7.val s.said.length)), ((0, 8), .v (.int .i64 s.fault))] [] [] z129 z145 trivial rfl ?_
   refine BothW.mk ?_ ?_
   refine bL _ hJ rfl rfl rfl rfl ⟨rfl, rfl⟩ (fun A w hW => cA s.h0 s.places w ⟨hW.get 0 rfl (.ofR (fX s)), trivial⟩ (by omega)) ?_
   rintro v L ⟨y0, rfl, rfl⟩
   refine BothW.mk ?_ ?_
   refine bL _ hJ rfl rfl rfl rfl ⟨rfl, rfl⟩ (fun A w hW => cA s.h1 s.status w ⟨hW.get 1 rfl (.ofR (cZ s)), trivial⟩ (by omega)) ?_
   rintro v L ⟨y1, rfl, rfl⟩
   refine BothW.mk ?_ ?_
   refine bL _ hJ rfl rfl rfl rfl ⟨rfl, rfl⟩ (fun A w hW => cA s.h7 s.said w ⟨hW.get 2 rfl (.ofR (iD s)), trivial⟩ (by omega)) ?_
   rintro v L ⟨y7, rfl, rfl⟩
   rotate_left
   refine bL _ hJ rfl rfl rfl rfl ⟨rfl, rfl⟩ (fun A w hW => cA s.h7 s.said w ⟨hW.get 2 rfl (.ofR (iD s)), trivial⟩ (by omega)) ?_
   rintro v L ⟨y7, rfl, rfl⟩
   rotate_left
   refine bL _ hJ rfl rfl rfl rfl ⟨rfl, rfl⟩ (fun A w hW => cA s.h1 s.status w ⟨hW.get 1 rfl (.ofR (cZ s)), trivial⟩ (by omega)) ?_
   rintro v L ⟨y1, rfl, rfl⟩
   refine bL _ hJ rfl rfl rfl rfl ⟨rfl, rfl⟩ (fun A w hW => cA s.h7 s.said w ⟨hW.get 2 rfl (.ofR (iD s)), trivial⟩ (by omega)) ?_
   rintro v L ⟨y7, rfl, rfl⟩
   rotate_left
   refine bL _ hJ rfl rfl rfl rfl ⟨rfl, rfl⟩ (fun A w hW => cA s.h0 s.places w ⟨hW.get 0 rfl (.ofR (fX s)), trivial⟩ (by omega)) ?_
   rintro v L ⟨y0, rfl, rfl⟩
   refine bL _ hJ rfl rfl rfl rfl ⟨rfl, rfl⟩ (fun A w hW => cA s.h1 s.status w ⟨hW.get 1 rfl (.ofR (cZ s)), trivial⟩ (by omega)) ?_
   rintro v L ⟨y1, rfl, rfl⟩
   refine bL _ hJ rfl rfl rfl rfl ⟨rfl, rfl⟩ (fun A w hW => cA s.h7 s.said w ⟨hW.get 2 rfl (.ofR (iD s)), trivial⟩ (by omega)) ?_
   rintro v L ⟨y7, rfl, rfl⟩
   all_goals
     refine ⟨(y0, y1, y7), ?_⟩
     exact aC [2, 1, 0, 3] zw2 zw0 zw2 zw5 zw4 rfl rfl
 rintro ⟨a, b, d⟩
 simp only
 refine LoopW.mk ⟨{ q : Nat × Sl × List SemH // q.1 ≤ s.sems.length ∧ q.2.2.map (·.m) = (s.sems.map (·.m)).take q.1 },
   fun q => .mk [(1, .p 0 0), (2, .p 1 0), (3, .p 2 0), (27, .v (s.h2.val s.sems.length)), (28, .v (.int .i64 (s.sems.length : Int))), (29, .v (.int .i64 (q.1.1 : Int)))] 3 0 [(0, 35, 9), (1, 35, 9), (2, 35, 9)] [((0, 0), .v (s.h0.val s.places.length)), ((0, 1), .v (s.h1.val s.status.length)), ((0, 2), .v (s.h2.val s.sems.length)), ((0, 3), .v (s.h3.val s.onces.length)), ((0, 4), .v (s.h4.val s.groups.length)), ((0, 5), .v (s.h5.val s.barriers.length)), ((0, 6), .v (s.h6.val s.chans.length)), ((0, 7), .v (s.h7.val s.said.length)), ((0, 8), .v (.int .i64 s.fault)), ((2, 0), .v (a.val s.places.length)), ((2, 1), .v (b.val s.status.length)), ((2, 2), .v (q.1.2.1.val q.1.2.2.length)), ((2, 3), .v (.slice none 0 0)), ((2, 4), .v (.slice none 0 0)), ((2, 5), .v (.slice none 0 0)), ((2, 6), .v (.slice none 0 0)), ((2, 7), .v (d.val s.said.length)), ((2, 8), .v (.int .i64 s.fault))] [own q.1.2.1 95 gF 3 q.1.2.2, fO (q.1.2.2.flatMap oG), own a 3 aJ 1 s.places, own b 3 aJ 1 s.status, own d 3 aJ 1 s.said, fR (aK s)],
   fun q => s.sems.length - q.1.1, ⟨(0, ⟨none, 0⟩, []), Nat.zero_le _, by simp⟩, ?_, ?_⟩
 · refine aO (.joinO [] (Gs := []) trivial rfl (.refl _)) ?_
   exact aC [99, 0, 1, 2, 3, 4] zw2 zw0 zw2 zw5 zw4 rfl rfl
 rintro ⟨⟨k, c0, L0⟩, hk, hL0⟩
 simp only at hk hL0
 have ln0 : L0.length = k := by have := congrArg List.length hL0; simp at this; omega
 apply CaseB.mk <;> intro g
 · have hlt : k < s.sems.length := by simpa using g
   have hw := bE k _ hlt (by omega)
   have hsm := (cO b2).2 _ (List.getElem_mem hlt)
   refine aG dC aA rfl rfl rfl rfl rfl ⟨rfl, rfl⟩ (aL 5 rfl (.trans (.R_R (bW s)) (.ofR bG))) k rfl z48 (fun ad => ?_)
   refine aE aA z107 z107 z107 200 [((3, 0), .v (.int .i64 (s.sems[k]).m.free)), ((3, 1), .v (.int .i64 (s.sems[k]).m.limit)), ((3, 2), .v ((s.sems[k]).q.val (s.sems[k]).m.queue.length))] [] [] z136 z148 trivial rfl ?_
   unfold Sem.small20 at hsm
   refine BothW.mk ?_ ?_
   all_goals
     refine bL _ cC0 rfl rfl rfl rfl ⟨rfl, rfl⟩ (fun A w hW => nA _ _ w ⟨hW.get 5 rfl (.trans (.R_R (bW s)) (.ofR (kH _ _ k hlt))), trivial⟩ (by omega)) ?_
     rintro v L ⟨y0, rfl, rfl⟩
   rotate_left
   · refine BothW.mk ?_ ?_
     all_goals
       refine AllSl.mk fun u2 => ?_
       refine bS (ti := aU tab) dC 2 aA (ys := [⟨(s.sems[k]).m, y0⟩]) rfl rfl rfl rfl rfl rfl rfl rfl rfl (by decide) ⟨rfl, rfl⟩ rfl z40 z48 z48 z105 (fun c2 => ?_)
       refine ⟨⟨(k + 1, c2, L0 ++ [⟨(s.sems[k]).m, y0⟩]), hlt, by rw [List.map_append]; exact aR hlt hL0 rfl⟩, ?_, by simp only; omega⟩
       refine aO (.joinO [2, 3] (Gs := [[_], _]) z143 rfl (G := (L0 ++ [(⟨(s.sems[k]).m, y0⟩ : SemH)]).flatMap oG) z55) ?_
       exact aC [1, 0, 3, 4, 5, 6] zw1 zw0 zw1 zw5 zw3 rfl rfl
   refine AllSl.mk fun u2 => ?_
   refine bS (ti := aU tab) dC 2 aA (ys := [⟨(s.sems[k]).m, y0⟩]) rfl rfl rfl rfl rfl rfl rfl rfl rfl (by decide) ⟨rfl, rfl⟩ rfl z40 z48 z48 z105 (fun c2 => ?_)
   refine ⟨⟨(k + 1, c2, L0 ++ [⟨(s.sems[k]).m, y0⟩]), hlt, by rw [List.map_append]; exact aR hlt hL0 rfl⟩, ?_, by simp only; omega⟩
   refine aO (.joinO [2, 3] (Gs := [[_], _]) z143 rfl (G := (L0 ++ [(⟨(s.sems[k]).m, y0⟩ : SemH)]).flatMap oG) z55) ?_
   exact aC [1, 0, 3, 4, 5, 6] zw1 zw0 zw1 zw5 zw3 rfl rfl
 have hge : s.sems.length ≤ k := by simpa using g
 rw [List.take_of_length_le z96] at hL0
 refine LoopW.mk ⟨{ q : Nat × Sl × List OnceH // q.1 ≤ s.onces.length ∧ q.2.2.map (·.m) = (s.onces.map (·.m)).take q.1 },
   fun q => .mk [(1, .p 0 0), (2, .p 1 0), (3, .p 2 0), (42, .v (s.h3.val s.onces.length)), (43, .v (.int .i64 (s.onces.length : Int))), (44, .v (.int .i64 (q.1.1 : Int)))] 3 0 [(0, 35, 9), (1, 35, 9), (2, 35, 9)] [((0, 0), .v (s.h0.val s.places.length)), ((0, 1), .v (s.h1.val s.status.length)), ((0, 2), .v (s.h2.val s.sems.length)), ((0, 3), .v (s.h3.val s.onces.length)), ((0, 4), .v (s.h4.val s.groups.length)), ((0, 5), .v (s.h5.val s.barriers.length)), ((0, 6), .v (s.h6.val s.chans.length)), ((0, 7), .v (s.h7.val s.said.length)), ((0, 8), .v (.int .i64 s.fault)), ((2, 0), .v (a.val s.places.length)), ((2, 1), .v (b.val s.status.length)), ((2, 2), .v (c0.val L0.length)), ((2, 3), .v (q.1.2.1.val q.1.2.2.length)), ((2, 4), .v (.slice none 0 0)), ((2, 5), .v (.slice none 0 0)), ((2, 6), .v (.slice none 0 0)), ((2, 7), .v (d.val s.said.length)), ((2, 8), .v (.int .i64 s.fault))] [own q.1.2.1 102 eB 4 q.1.2.2, fO (q.1.2.2.flatMap mS), fO (lF c0 L0), own a 3 aJ 1 s.places, own b 3 aJ 1 s.status, own d 3 aJ 1 s.said, fR (aK s)],
   fun q => s.onces.length - q.1.1, ⟨(0, ⟨none, 0⟩, []), Nat.zero_le _, by simp⟩, ?_, ?_⟩
 · refine aO (.joinO [0, 1] (Gs := [[_], _]) z143 rfl (G := lF c0 L0) (.of_eq (by simp [lF, iB]))) ?_
   refine aO (.joinO [] (Gs := []) trivial rfl (.refl _)) ?_
   exact aC [99, 0, 1, 2, 3, 4, 5] zw2 zw0 zw2 zw5 zw4 rfl rfl
 rintro ⟨⟨k, c1, L1⟩, hk, hL1⟩
 simp only at hk hL1
 have ln1 : L1.length = k := by have := congrArg List.length hL1; simp at this; omega
 apply CaseB.mk <;> intro g
 · have hlt : k < s.onces.length := by simpa using g
   have hw := bE k _ hlt (by omega)
   have hsm := (cO b3).2 _ (List.getElem_mem hlt)
   refine aG cX aA rfl rfl rfl rfl rfl ⟨rfl, rfl⟩ (aL 6 rfl (.trans (.R_R (bX s)) (.ofR bG))) k rfl z48 (fun ad => ?_)
   refine aE aA z107 z107 z107 200 [((3, 0), .v (.int .i64 (s.onces[k]).m.state)), ((3, 1), .v (.int .i64 (s.onces[k]).m.owner)), ((3, 2), .v (.int .i64 (s.onces[k]).m.value)), ((3, 3), .v ((s.onces[k]).q.val (s.onces[k]).m.waits.length))] [] [] z129 z145 trivial rfl ?_
   unfold Once.small20 at hsm
   refine BothW.mk ?_ ?_
   all_goals
     refine bL _ iV0 rfl rfl rfl rfl ⟨rfl, rfl⟩ (fun A w hW => qG _ _ w ⟨hW.get 6 rfl (.trans (.R_R (bX s)) (.ofR (iW _ _ k hlt))), trivial⟩ (by omega)) ?_
     rintro v L ⟨y0, rfl, rfl⟩
   rotate_left
   · refine BothW.mk ?_ ?_
     all_goals
       refine AllSl.mk fun u2 => ?_
       refine bS (ti := aU tab) cX 2 aA (ys := [⟨(s.onces[k]).m, y0⟩]) rfl rfl rfl rfl rfl rfl rfl rfl rfl (by decide) ⟨rfl, rfl⟩ rfl z40 z48 z48 z105 (fun c2 => ?_)
       refine ⟨⟨(k + 1, c2, L1 ++ [⟨(s.onces[k]).m, y0⟩]), hlt, by rw [List.map_append]; exact aR hlt hL1 rfl⟩, ?_, by simp only; omega⟩
       refine aO (.joinO [2, 3] (Gs := [[_], _]) z143 rfl (G := (L1 ++ [(⟨(s.onces[k]).m, y0⟩ : OnceH)]).flatMap mS) z53) ?_
       exact aC [1, 0, 3, 4, 5, 6, 7] zw1 zw0 zw1 zw5 zw3 rfl rfl
   refine AllSl.mk fun u2 => ?_
   refine bS (ti := aU tab) cX 2 aA (ys := [⟨(s.onces[k]).m, y0⟩]) rfl rfl rfl rfl rfl rfl rfl rfl rfl (by decide) ⟨rfl, rfl⟩ rfl z40 z48 z48 z105 (fun c2 => ?_)
   refine ⟨⟨(k + 1, c2, L1 ++ [⟨(s.onces[k]).m, y0⟩]), hlt, by rw [List.map_append]; exact aR hlt hL1 rfl⟩, ?_, by simp only; omega⟩
   refine aO (.joinO [2, 3] (Gs := [[_], _]) z143 rfl (G := (L1 ++ [(⟨(s.onces[k]).m, y0⟩ : OnceH)]).flatMap mS) z53) ?_
   exact aC [1, 0, 3, 4, 5, 6, 7] zw1 zw0 zw1 zw5 zw3 rfl rfl
 have hge : s.onces.length ≤ k := by simpa using g
 rw [List.take_of_length_le z96] at hL1
 refine LoopW.mk ⟨{ q : Nat × Sl × List GroupH // q.1 ≤ s.groups.length ∧ q.2.2.map (·.m) = (s.groups.map (·.m)).take q.1 },
   fun q => .mk [(1, .p 0 0), (2, .p 1 0), (3, .p 2 0), (57, .v (s.h4.val s.groups.length)), (58, .v (.int .i64 (s.groups.length : Int))), (59, .v (.int .i64 (q.1.1 : Int)))] 3 0 [(0, 35, 9), (1, 35, 9), (2, 35, 9)] [((0, 0), .v (s.h0.val s.places.length)), ((0, 1), .v (s.h1.val s.status.length)), ((0, 2), .v (s.h2.val s.sems.length)), ((0, 3), .v (s.h3.val s.onces.length)), ((0, 4), .v (s.h4.val s.groups.length)), ((0, 5), .v (s.h5.val s.barriers.length)), ((0, 6), .v (s.h6.val s.chans.length)), ((0, 7), .v (s.h7.val s.said.length)), ((0, 8), .v (.int .i64 s.fault)), ((2, 0), .v (a.val s.places.length)), ((2, 1), .v (b.val s.status.length)), ((2, 2), .v (c0.val L0.length)), ((2, 3), .v (c1.val L1.length)), ((2, 4), .v (q.1.2.1.val q.1.2.2.length)), ((2, 5), .v (.slice none 0 0)), ((2, 6), .v (.slice none 0 0)), ((2, 7), .v (d.val s.said.length)), ((2, 8), .v (.int .i64 s.fault))] [own q.1.2.1 108 dQ 2 q.1.2.2, fO (q.1.2.2.flatMap iV), fO (jJ c1 L1), fO (lF c0 L0), own a 3 aJ 1 s.places, own b 3 aJ 1 s.status, own d 3 aJ 1 s.said, fR (aK s)],
   fun q => s.groups.length - q.1.1, ⟨(0, ⟨none, 0⟩, []), Nat.zero_le _, by simp⟩, ?_, ?_⟩
 · refine aO (.joinO [0, 1] (Gs := [[_], _]) z143 rfl (G := jJ c1 L1) (.of_eq (by simp [jJ, iB]))) ?_
   refine aO (.joinO [] (Gs := []) trivial rfl (.refl _)) ?_
   exact aC [99, 0, 1, 2, 3, 4, 5, 6] zw2 zw0 zw2 zw5 zw4 rfl rfl
 rintro ⟨⟨k, c2, L2⟩, hk, hL2⟩
 simp only at hk hL2
 have ln2 : L2.length = k := by have := congrArg List.length hL2; simp at this; omega
 apply CaseB.mk <;> intro g
 · have hlt : k < s.groups.length := by simpa using g
   have hw := bE k _ hlt (by omega)
   have hsm := (cO b4).2 _ (List.getElem_mem hlt)
   refine aG cJ aA rfl rfl rfl rfl rfl ⟨rfl, rfl⟩ (aL 7 rfl (.trans (.R_R (bO s)) (.ofR bG))) k rfl z48 (fun ad => ?_)
   refine aE aA z107 z107 z107 200 [((3, 0), .v (.int .i64 (s.groups[k]).m.count)), ((3, 1), .v ((s.groups[k]).q.val (s.groups[k]).m.waits.length))] [] [] z142 z152 trivial rfl ?_
   unfold Group.small20 at hsm
   refine BothW.mk ?_ ?_
   all_goals
     refine bL _ hJ rfl rfl rfl rfl ⟨rfl, rfl⟩ (fun A w hW => cA _ _ w ⟨hW.get 7 rfl (.trans (.R_R (bO s)) (.ofR (fG _ _ k hlt))), trivial⟩ (by omega)) ?_
     rintro v L ⟨y0, rfl, rfl⟩
   rotate_left
   · refine BothW.mk ?_ ?_
     all_goals
       refine AllSl.mk fun u2 => ?_
       refine bS (ti := aU tab) cJ 2 aA (ys := [⟨(s.groups[k]).m, y0⟩]) rfl rfl rfl rfl rfl rfl rfl rfl rfl (by decide) ⟨rfl, rfl⟩ rfl z40 z48 z48 z105 (fun c2 => ?_)
       refine ⟨⟨(k + 1, c2, L2 ++ [⟨(s.groups[k]).m, y0⟩]), hlt, by rw [List.map_append]; exact aR hlt hL2 rfl⟩, ?_, by simp only; omega⟩
       refine aO (.joinO [2, 3] (Gs := [[_], _]) z143 rfl (G := (L2 ++ [(⟨(s.groups[k]).m, y0⟩ : GroupH)]).flatMap iV) z52) ?_
       exact aC [1, 0, 3, 4, 5, 6, 7, 8] zw1 zw0 zw1 zw5 zw3 rfl rfl
   refine AllSl.mk fun u2 => ?_
   refine bS (ti := aU tab) cJ 2 aA (ys := [⟨(s.groups[k]).m, y0⟩]) rfl rfl rfl rfl rfl rfl rfl rfl rfl (by decide) ⟨rfl, rfl⟩ rfl z40 z48 z48 z105 (fun c2 => ?_)
   refine ⟨⟨(k + 1, c2, L2 ++ [⟨(s.groups[k]).m, y0⟩]), hlt, by rw [List.map_append]; exact aR hlt hL2 rfl⟩, ?_, by simp only; omega⟩
   refine aO (.joinO [2, 3] (Gs := [[_], _]) z143 rfl (G := (L2 ++ [(⟨(s.groups[k]).m, y0⟩ : GroupH)]).flatMap iV) z52) ?_
   exact aC [1, 0, 3, 4, 5, 6, 7, 8] zw1 zw0 zw1 zw5 zw3 rfl rfl
 have hge : s.groups.length ≤ k := by simpa using g
 rw [List.take_of_length_le z96] at hL2
 refine LoopW.mk ⟨{ q : Nat × Sl × List BarrierH // q.1 ≤ s.barriers.length ∧ q.2.2.map (·.m) = (s.barriers.map (·.m)).take q.1 },
   fun q => .mk [(1, .p 0 0), (2, .p 1 0), (3, .p 2 0), (76, .v (s.h5.val s.barriers.length)), (77, .v (.int .i64 (s.barriers.length : Int))), (78, .v (.int .i64 (q.1.1 : Int)))] 3 0 [(0, 35, 9), (1, 35, 9), (2, 35, 9)] [((0, 0), .v (s.h0.val s.places.length)), ((0, 1), .v (s.h1.val s.status.length)), ((0, 2), .v (s.h2.val s.sems.length)), ((0, 3), .v (s.h3.val s.onces.length)), ((0, 4), .v (s.h4.val s.groups.length)), ((0, 5), .v (s.h5.val s.barriers.length)), ((0, 6), .v (s.h6.val s.chans.length)), ((0, 7), .v (s.h7.val s.said.length)), ((0, 8), .v (.int .i64 s.fault)), ((2, 0), .v (a.val s.places.length)), ((2, 1), .v (b.val s.status.length)), ((2, 2), .v (c0.val L0.length)), ((2, 3), .v (c1.val L1.length)), ((2, 4), .v (c2.val L2.length)), ((2, 5), .v (q.1.2.1.val q.1.2.2.length)), ((2, 6), .v (.slice none 0 0)), ((2, 7), .v (d.val s.said.length)), ((2, 8), .v (.int .i64 s.fault))] [own q.1.2.1 114 cY 3 q.1.2.2, fO (q.1.2.2.flatMap dZ), fO (iO c2 L2), fO (jJ c1 L1), fO (lF c0 L0), own a 3 aJ 1 s.places, own b 3 aJ 1 s.status, own d 3 aJ 1 s.said, fR (aK s)],
   fun q => s.barriers.length - q.1.1, ⟨(0, ⟨none, 0⟩, []), Nat.zero_le _, by simp⟩, ?_, ?_⟩
 · refine aO (.joinO [0, 1] (Gs := [[_], _]) z143 rfl (G := iO c2 L2) (.of_eq (by simp [iO, iB]))) ?_
   refine aO (.joinO [] (Gs := []) trivial rfl (.refl _)) ?_
   exact aC [99, 0, 1, 2, 3, 4, 5, 6, 7] zw2 zw0 zw2 zw5 zw4 rfl rfl
 rintro ⟨⟨k, c3, L3⟩, hk, hL3⟩
 simp only at hk hL3
 have ln3 : L3.length = k := by have := congrArg List.length hL3; simp at this; omega
 apply CaseB.mk <;> intro g
 · have hlt : k < s.barriers.length := by simpa using g
   have hw := bE k _ hlt (by omega)
   have hsm := (cO b5).2 _ (List.getElem_mem hlt)
   refine aG cC aA rfl rfl rfl rfl rfl ⟨rfl, rfl⟩ (aL 8 rfl (.trans (.R_R (bK s)) (.ofR bG))) k rfl z48 (fun ad => ?_)
   refine aE aA z107 z107 z107 200 [((3, 0), .v (.int .i64 (s.barriers[k]).m.parties)), ((3, 1), .v (.int .i64 (s.barriers[k]).m.round)), ((3, 2), .v ((s.barriers[k]).q.val (s.barriers[k]).m.waits.length))] [] [] z136 z148 trivial rfl ?_
   unfold Barrier.small20 at hsm
   refine BothW.mk ?_ ?_
   all_goals
     refine bL _ hJ rfl rfl rfl rfl ⟨rfl, rfl⟩ (fun A w hW => cA _ _ w ⟨hW.get 8 rfl (.trans (.R_R (bK s)) (.ofR (eE _ _ k hlt))), trivial⟩ (by omega)) ?_
     rintro v L ⟨y0, rfl, rfl⟩
   rotate_left
   · refine BothW.mk ?_ ?_
     all_goals
       refine AllSl.mk fun u2 => ?_
       refine bS (ti := aU tab) cC 2 aA (ys := [⟨(s.barriers[k]).m, y0⟩]) rfl rfl rfl rfl rfl rfl rfl rfl rfl (by decide) ⟨rfl, rfl⟩ rfl z40 z48 z48 z105 (fun c2 => ?_)
       refine ⟨⟨(k + 1, c2, L3 ++ [⟨(s.barriers[k]).m, y0⟩]), hlt, by rw [List.map_append]; exact aR hlt hL3 rfl⟩, ?_, by simp only; omega⟩
       refine aO (.joinO [2, 3] (Gs := [[_], _]) z143 rfl (G := (L3 ++ [(⟨(s.barriers[k]).m, y0⟩ : BarrierH)]).flatMap dZ) z51) ?_
       exact aC [1, 0, 3, 4, 5, 6, 7, 8, 9] zw1 zw0 zw1 zw5 zw3 rfl rfl
   refine AllSl.mk fun u2 => ?_
   refine bS (ti := aU tab) cC 2 aA (ys := [⟨(s.barriers[k]).m, y0⟩]) rfl rfl rfl rfl rfl rfl rfl rfl rfl (by decide) ⟨rfl, rfl⟩ rfl z40 z48 z48 z105 (fun c2 => ?_)
   refine ⟨⟨(k + 1, c2, L3 ++ [⟨(s.barriers[k]).m, y0⟩]), hlt, by rw [List.map_append]; exact aR hlt hL3 rfl⟩, ?_, by simp only; omega⟩
   refine aO (.joinO [2, 3] (Gs := [[_], _]) z143 rfl (G := (L3 ++ [(⟨(s.barriers[k]).m, y0⟩ : BarrierH)]).flatMap dZ) z51) ?_
   exact aC [1, 0, 3, 4, 5, 6, 7, 8, 9] zw1 zw0 zw1 zw5 zw3 rfl rfl
 have hge : s.barriers.length ≤ k := by simpa using g
 rw [List.take_of_length_le z96] at hL3
 refine LoopW.mk ⟨{ q : Nat × Sl × List ChanH // q.1 ≤ s.chans.length ∧ q.2.2.map (·.m) = (s.chans.map (·.m)).take q.1 },
   fun q => .mk [(1, .p 0 0), (2, .p 1 0), (3, .p 2 0), (97, .v (s.h6.val s.chans.length)), (98, .v (.int .i64 (s.chans.length : Int))), (99, .v (.int .i64 (q.1.1 : Int)))] 3 0 [(0, 35, 9), (1, 35, 9), (2, 35, 9)] [((0, 0), .v (s.h0.val s.places.length)), ((0, 1), .v (s.h1.val s.status.length)), ((0, 2), .v (s.h2.val s.sems.length)), ((0, 3), .v (s.h3.val s.onces.length)), ((0, 4), .v (s.h4.val s.groups.length)), ((0, 5), .v (s.h5.val s.barriers.length)), ((0, 6), .v (s.h6.val s.chans.length)), ((0, 7), .v (s.h7.val s.said.length)), ((0, 8), .v (.int .i64 s.fault)), ((2, 0), .v (a.val s.places.length)), ((2, 1), .v (b.val s.status.length)), ((2, 2), .v (c0.val L0.length)), ((2, 3), .v (c1.val L1.length)), ((2, 4), .v (c2.val L2.length)), ((2, 5), .v (c3.val L3.length)), ((2, 6), .v (q.1.2.1.val q.1.2.2.length)), ((2, 7), .v (d.val s.said.length)), ((2, 8), .v (.int .i64 s.fault))] [own q.1.2.1 119 fD 5 q.1.2.2, fO (q.1.2.2.flatMap gJ), fO (gG c3 L3), fO (iO c2 L2), fO (jJ c1 L1), fO (lF c0 L0), own a 3 aJ 1 s.places, own b 3 aJ 1 s.status, own d 3 aJ 1 s.said, fR (aK s)],
   fun q => s.chans.length - q.1.1, ⟨(0, ⟨none, 0⟩, []), Nat.zero_le _, by simp⟩, ?_, ?_⟩
 · refine aO (.joinO [0, 1] (Gs := [[_], _]) z143 rfl (G := gG c3 L3) (.of_eq (by simp [gG, iB]))) ?_
   refine aO (.joinO [] (Gs := []) trivial rfl (.refl _)) ?_
   exact aC [99, 0, 1, 2, 3, 4, 5, 6, 7, 8] zw2 zw0 zw2 zw5 zw4 rfl rfl
 rintro ⟨⟨k, c4, L4⟩, hk, hL4⟩
 simp only at hk hL4
 have ln4 : L4.length = k := by have := congrArg List.length hL4; simp at this; omega
 apply CaseB.mk <;> intro g
 · have hlt : k < s.chans.length := by simpa using g
   have hw := bE k _ hlt (by omega)
   have hsm := (cO b6).2 _ (List.getElem_mem hlt)
   refine aG cN aA rfl rfl rfl rfl rfl ⟨rfl, rfl⟩ (aL 9 rfl (.trans (.R_R (aQ s)) (.ofR bG))) k rfl z48 (fun ad => ?_)
   refine aE aA z107 z107 z107 200 [((3, 0), .v (.int .i64 (s.chans[k]).m.room)), ((3, 1), .v ((s.chans[k]).q0.val (s.chans[k]).m.items.length)), ((3, 2), .v ((s.chans[k]).q1.val (s.chans[k]).m.senders.length)), ((3, 3), .v ((s.chans[k]).q2.val (s.chans[k]).m.getters.length)), ((3, 4), .v (.bool (s.chans[k]).m.closed))] [] [] z123 z140 trivial rfl ?_
   obtain ⟨z0, z1, z2⟩ := hsm
   refine BothW.mk ?_ ?_
   all_goals
     refine bL _ sY rfl rfl rfl rfl ⟨rfl, rfl⟩ (fun A w hW => mA _ _ _ _ w ⟨hW.get 9 rfl (.trans (.R_R (aQ s)) (.ofR (mU _ _ k hlt))), hW.get 9 rfl (.trans (.R_R (aQ s)) (.ofR (iC _ _ k hlt))), hW.get 9 rfl (.trans (.R_R (aQ s)) (.ofR (iX _ _ k hlt))), trivial⟩ ⟨by omega, by omega, by omega⟩) ?_
     rintro v L ⟨y0, y1, y2, rfl, rfl⟩
   rotate_left
   · refine BothW.mk ?_ ?_
     all_goals
       refine AllSl.mk fun u2 => ?_
       refine bS (ti := aU tab) cN 4 aA (ys := [⟨(s.chans[k]).m, y0, y1, y2⟩]) rfl rfl rfl rfl rfl rfl rfl rfl rfl (by decide) ⟨rfl, rfl⟩ rfl z40 z48 z48 z105 (fun c2 => ?_)
       refine ⟨⟨(k + 1, c2, L4 ++ [⟨(s.chans[k]).m, y0, y1, y2⟩]), hlt, by rw [List.map_append]; exact aR hlt hL4 rfl⟩, ?_, by simp only; omega⟩
       refine aO (.joinO [2, 3, 4, 5] (Gs := [[_], [_], [_], _]) z127 rfl (G := (L4 ++ [(⟨(s.chans[k]).m, y0, y1, y2⟩ : ChanH)]).flatMap gJ) z54) ?_
       exact aC [1, 0, 3, 4, 5, 6, 7, 8, 9, 10] zw1 zw0 zw1 zw5 zw3 rfl rfl
   refine AllSl.mk fun u2 => ?_
   refine bS (ti := aU tab) cN 4 aA (ys := [⟨(s.chans[k]).m, y0, y1, y2⟩]) rfl rfl rfl rfl rfl rfl rfl rfl rfl (by decide) ⟨rfl, rfl⟩ rfl z40 z48 z48 z105 (fun c2 => ?_)
   refine ⟨⟨(k + 1, c2, L4 ++ [⟨(s.chans[k]).m, y0, y1, y2⟩]), hlt, by rw [List.map_append]; exact aR hlt hL4 rfl⟩, ?_, by simp only; omega⟩
   refine aO (.joinO [2, 3, 4, 5] (Gs := [[_], [_], [_], _]) z127 rfl (G := (L4 ++ [(⟨(s.chans[k]).m, y0, y1, y2⟩ : ChanH)]).flatMap gJ) z54) ?_
   exact aC [1, 0, 3, 4, 5, 6, 7, 8, 9, 10] zw1 zw0 zw1 zw5 zw3 rfl rfl
 have hge : s.chans.length ≤ k := by simpa using g
 rw [List.take_of_length_le z96] at hL4
 refine aP (.joinO [0, 1] (Gs := [[_], _]) z143 rfl (G := mT c4 L4) (.of_eq (by simp [mT, iB]))) ?_
 generalize hy : (⟨s.places, s.status, L0, L1, L2, L3, L4, s.said, s.fault, a, b, c0, c1, c2, c3, c4, d⟩ : StateH) = y
 refine aP (.joinO [5, 6, 4, 3, 2, 1, 0, 7] (Gs := [[_], [_], _, _, _, _, _, [_]]) z116 rfl (G := aK y) (by subst hy; exact .of_eq z101)) ?_
 exact bC [0] ⟨y, by rw [← hy]; rfl, by rw [← hy]; simp [StateH.pure, hL0, hL1, hL2, hL3, hL4], rfl⟩ z151 rfl ⟨rfl, trivial⟩ (fun _ => rfl)
def xM (P : ProgH) (y : StateH) (n m : Nat) (sd : Value) (full : Bool) : List Value :=
 [P.h0.val P.sems.length, P.h1.val P.groups.length, P.h2.val P.barriers.length, P.h3.val P.rooms.length, P.h4.val P.threads.length, y.h0.val n, y.h1.val m, y.h2.val y.sems.length, y.h3.val y.onces.length, y.h4.val y.groups.length, y.h5.val y.barriers.length, y.h6.val y.chans.length, sd, .int .i64 y.fault, .bool full]
theorem cW0 (p : Prog) (who : List Int) (s : State) {k : Nat} (hk : k < who.length) : onM p (who.take (k + 1)) s = goM p (onM p (who.take k) s) who[k] := by
 rw [List.take_succ_eq_append_getElem hk, onM, List.foldl_append]; rfl
theorem aT (p : Prog) (who : List Int) (s : State) : (onM p who s).places.length = s.places.length ∧ (onM p who s).status.length = s.status.length := by
 obtain ⟨pl, st, h, h1, h2⟩ := mY p who s
 rw [h]; exact ⟨h1, h2⟩
theorem zK {xs : List Int} {B : Int} (h : ∀ a ∈ xs, 0 ≤ a ∧ a ≤ B) {i : Nat} (hi : i < xs.length) : ∀ a ∈ xs.set i (xs[i] + 1), 0 ≤ a ∧ a ≤ B + 1 := by
 intro a ha
 rcases List.mem_or_eq_of_mem_set ha with ha | rfl
 · have := h a ha; omega
 · have := h _ (List.getElem_mem hi); omega
theorem gV (p : Prog) : ∀ (who : List Int) (s : State) (B : Int), 0 ≤ B → (∀ a ∈ s.places, 0 ≤ a ∧ a ≤ B) → ∀ a ∈ (onM p who s).places, 0 ≤ a ∧ a ≤ B + who.length
 | [], s, B, _, h => fun a ha => by have := h a ha; simp; omega
 | x :: r, s, B, hB, h => fun a ha => by
   have hg : ∀ a ∈ (goM p s x).places, 0 ≤ a ∧ a ≤ B + 1 := by
     intro a ha
     simp only [goM] at ha
     rcases List.mem_or_eq_of_mem_set ha with ha | rfl
     · have := h a ha; omega
     · rw [List.getD_eq_getElem?_getD]
       cases hx : s.places[x.toNat]? with
       | none => simp; omega
       | some u => have := h u (List.mem_of_getElem? hx); simp; omega
   have := gV p r (goM p s x) (B + 1) (by omega) hg a ha
   simp only [List.length_cons]
   omega
theorem jM (g n m : Nat) (P : ProgH) (y : StateH) (sd : Value) (full : Bool) (z : Sl) (who : List Int) (s : State) (w : World) (hg : Blk w g 89 (xM P y n m sd full))
   (h : AtG w [own y.h0 3 aJ 1 s.places, own y.h1 3 aJ 1 s.status] [slo P.h4 kI 1 P.threads, slo z aJ 1 who])
   (hoff : ∀ f ∈ [own y.h0 3 aJ 1 s.places, own y.h1 3 aJ 1 s.status] ++ [slo P.h4 kI 1 P.threads, slo z aJ 1 who], ∀ b, f.foot b → b ≠ g)
   (h1 : s.places.length = n) (h2 : s.status.length = m) (hm : n = m) (hn : P.threads.length = n) (hw : ∀ t ∈ who, 0 ≤ t ∧ t < n) (hl : who.length ≤ 100) (hp : ∀ a ∈ s.places, 0 ≤ a ∧ a ≤ 100) (_hn4 : n ≤ 100) :
   Calls Tryz.prog 67 #[.pointer (some ⟨g, 0, none⟩), z.val who.length] w (vM w g 89 15 [own y.h0 3 aJ 1 s.places, own y.h1 3 aJ 1 s.status]
     fun v cs L => v = .tuple #[] ∧ cs = xM P y n m sd full ∧ L = [own y.h0 3 aJ 1 (onM P.pure who s).places, own y.h1 3 aJ 1 (onM P.pure who s).status]) := by
 subst hm
 refine sH Tryz.func67 rfl aA w _ rfl _ rfl _ 89 _ 15 rfl hg _ _ h hoff ⟨rfl, rfl, rfl, rfl, trivial⟩ _ _ rfl rfl ?_
 refine LoopW.mk ⟨{ q : Nat × List Int × List Int // q.1 ≤ who.length ∧ q.2.1 = (onM P.pure (who.take q.1) s).places ∧ q.2.2 = (onM P.pure (who.take q.1) s).status },
   fun q => .mk [(0, .p 0 0), (6, .v (z.val who.length)), (7, .v (.int .i64 (who.length : Int))), (8, .v (.int .i64 (q.1.1 : Int)))] 1 0 [(0, 89, 15)]
     [((0, 0), .v (P.h0.val P.sems.length)), ((0, 1), .v (P.h1.val P.groups.length)), ((0, 2), .v (P.h2.val P.barriers.length)), ((0, 3), .v (P.h3.val P.rooms.length)), ((0, 4), .v (P.h4.val P.threads.length)), ((0, 5), .v (y.h0.val q.1.2.1.length)), ((0, 6), .v (y.h1.val q.1.2.2.length)), ((0, 7), .v (y.h2.val y.sems.length)), ((0, 8), .v (y.h3.val y.onces.length)), ((0, 9), .v (y.h4.val y.groups.length)), ((0, 10), .v (y.h5.val y.barriers.length)), ((0, 11), .v (y.h6.val y.chans.length)), ((0, 12), .v sd), ((0, 13), .v (.int .i64 y.fault)), ((0, 14), .v (.bool full))]
     [own y.h0 3 aJ 1 q.1.2.1, own y.h1 3 aJ 1 q.1.2.2, slo P.h4 kI 1 P.threads, slo z aJ 1 who],
   fun q => who.length - q.1.1, ⟨(0, s.places, s.status), Nat.zero_le _, rfl, rfl⟩, ?_, ?_⟩
 · exact aC [0, 1, 2, 3] zw14 zw0 zw14 zw5 zw32 rfl rfl
 rintro ⟨⟨k, pl, st⟩, hk, hpl, hst⟩
 simp only at hk hpl hst
 have l1 : pl.length = n := by rw [hpl, (aT _ _ _).1, h1]
 have l2 : st.length = n := by rw [hst, (aT _ _ _).2, h2]
 refine CaseB.mk (fun g3 => ?_) (fun g3 => ?_)
 · have hlt : k < who.length := by simpa using g3
   have hw' := bE k _ hlt (by omega)
   obtain ⟨t0, t1⟩ := hw _ (List.getElem_mem hlt)
   obtain ⟨τ, hτ⟩ : ∃ τ : Nat, who[k] = (τ : Int) := ⟨_, (Int.toNat_of_nonneg t0).symm⟩
   have hτn : τ < n := by omega
   have hτp : τ < pl.length := by omega
   have hτs : τ < st.length := by omega
   have hτP : τ < P.threads.length := by omega
   have hb := gV P.pure (who.take k) s 100 (by omega) hp
   rw [← hpl] at hb
   have hpb := hb _ (List.getElem_mem hτp)
   have htl : ((who.take k).length : Int) ≤ 100 := by simp; omega
   have hw1 : IntKind.i64.wrap (pl[τ] + 1) = pl[τ] + 1 := by rw [IntKind.wrap_i64]; omega
   have hgo := cW0 P.pure who s hlt
   refine aG aD aA rfl rfl rfl rfl rfl ⟨rfl, rfl⟩ z40 k rfl z48 (fun ad => ?_)
   refine aG aD aA rfl rfl rfl rfl rfl ⟨rfl, rfl⟩ (aL 0 rfl (Rd.own (o := false) (o' := false))) τ hτ z48 (fun ad2 => ?_)
   refine cE aD 0 aA rfl rfl rfl rfl rfl ⟨rfl, rfl⟩ rfl z94 τ hτ z48 (fun g1 hg1 => ?_)
   refine bP aD 0 aA rfl rfl rfl rfl rfl rfl rfl rfl hg1 τ 0 (pl[τ] + 1) rfl hτp rfl [.int .i64 (pl[τ] + 1)] (fun _ => by simp [SV.den, hw1]) rfl ?_
   refine cE aD 1 aA rfl rfl rfl rfl rfl ⟨rfl, rfl⟩ rfl z94 τ hτ z48 (fun g2 hg2 => ?_)
   refine bP aD 1 aA rfl rfl rfl rfl rfl rfl rfl rfl hg2 τ 0 0 rfl hτs rfl [.int .i64 0] (fun _ => rfl) rfl ?_
   have hset : (pl.set τ (pl[τ] + 1))[τ]'(by simpa using hτp) = pl[τ] + 1 := by simp
   refine aE aA z107 z107 z107 200 [((0, 4), .v (P.h4.val P.threads.length)), ((0, 5), .v (y.h0.val pl.length))] [1, 2] [_, _] z142 z152 ⟨rfl, rfl, trivial⟩ rfl ?_
   refine bM (ti := aU tab) (xs := pl.set τ (pl[τ] + 1)) aD aA rfl (by rw [List.length_set]; rfl) rfl rfl rfl ⟨rfl, rfl⟩ (aL 0 rfl (Rd.own (o := false) (o' := false))) τ hτ (by simpa using hτp) (fun ad3 => ?_)
   refine bM (ti := aU tab) dR aA rfl rfl rfl rfl rfl ⟨rfl, rfl⟩ z40 τ hτ z48 (fun ad4 => ?_)
   have hpg : (onM P.pure (who.take k) s).places.getD τ 0 = pl[τ] := by rw [← hpl, List.getD_eq_getElem?_getD, List.getElem?_eq_getElem hτp]; rfl
   have hPg : (P.pure.threads.getD τ []).length = P.threads[τ].m.length := by simp [ProgH.pure, List.getD_eq_getElem?_getD, hτP]
   have hgo1 : (onM P.pure (who.take (k + 1)) s).places = pl.set τ (pl[τ] + 1) := by rw [hgo, hτ]; simp only [goM, Int.toNat_natCast, hpg, hpl]
   have hgo2 : (onM P.pure (who.take (k + 1)) s).status = st.set τ (lW P.pure τ (pl[τ] + 1)) := by rw [hgo, hτ]; simp only [goM, Int.toNat_natCast, hpg, hst]
   refine CaseB.mk (fun g4 => ?_) (fun g4 => ?_)
   · have hr : lW P.pure τ (pl[τ] + 1) = 3 := by
       rw [lW, hPg, if_pos]
       have g5 := g4
       simp only [hset] at g5
       simpa using g5
     refine cE aD 0 aA rfl rfl rfl rfl rfl ⟨rfl, rfl⟩ rfl z94 τ hτ z48 (fun g3 hg3 => ?_)
     refine bP aD 0 aA rfl rfl rfl rfl rfl rfl rfl rfl hg3 τ 0 3 rfl (by simpa using hτs) rfl [.int .i64 3] (fun _ => rfl) rfl ?_
     refine ⟨⟨(k + 1, pl.set τ (pl[τ] + 1), (st.set τ 0).set τ 3), hlt, hgo1.symm, by rw [hgo2, hr]; simp⟩, ?_, by simp only; omega⟩
     exact aC [1, 0, 2, 3] zw10 zw0 zw10 zw5 zw29 rfl rfl
   · have hr : lW P.pure τ (pl[τ] + 1) = 0 := by
       rw [lW, hPg, if_neg]
       have g5 := g4
       simp only [hset] at g5
       simpa using g5
     refine ⟨⟨(k + 1, pl.set τ (pl[τ] + 1), st.set τ 0), hlt, hgo1.symm, by rw [hgo2, hr]⟩, ?_, by simp only; omega⟩
     exact aC [1, 0, 2, 3] zw10 zw0 zw10 zw5 zw29 rfl rfl
 · have hge : who.length ≤ k := by simpa using g3
   rw [List.take_of_length_le hge] at hpl hst
   rw [← hpl, ← hst]
   exact vN [0, 1] ⟨rfl, by simp only [xM, l1, l2], rfl⟩ rfl rfl z144 rfl ⟨rfl, rfl, trivial⟩ (fun _ => rfl)
def kP (sd : List Int) (v : Int) : List Int := if 64 ≤ sd.length then sd else sd ++ [v]
theorem kE0 (g n m : Nat) (P : ProgH) (y : StateH) (z : Sl) (sd : List Int) (full : Bool) (u : Int) (w : World) (hg : Blk w g 89 (xM P y n m (z.val sd.length) full))
   (h : AtG w [own z 3 aJ 1 sd] []) (hoff : ∀ f ∈ [own z 3 aJ 1 sd] ++ [], ∀ b, f.foot b → b ≠ g) (hl : sd.length ≤ 100) :
   Calls Tryz.prog 66 #[.pointer (some ⟨g, 0, none⟩), .int .i64 u] w (vM w g 89 15 [own z 3 aJ 1 sd]
     fun v cs L => v = .tuple #[] ∧ ∃ z2 : Sl, cs = xM P y n m (z2.val (kP sd u).length) (full || decide (64 ≤ sd.length)) ∧ L = [own z2 3 aJ 1 (kP sd u)]) := by
 refine sH Tryz.func66 rfl aA w _ rfl _ rfl _ 89 _ 15 rfl hg _ _ h hoff trivial _ _ rfl rfl ?_
 refine CaseB.mk (fun g1 => ?_) (fun g1 => ?_)
 · have hge : 64 ≤ sd.length := by have g' := of_decide_eq_true g1; omega
   rw [kP, if_pos hge, decide_eq_true hge, Bool.or_true]
   exact vN [0] ⟨rfl, z, rfl, rfl⟩ rfl rfl z151 rfl ⟨rfl, trivial⟩ (fun _ => rfl)
 have hge : ¬ 64 ≤ sd.length := by have g' := of_decide_eq_false g1; omega
 rw [kP, if_neg hge, decide_eq_false hge, Bool.or_false]
 refine AllSl.mk fun z1 => ?_
 refine bZ aD aA (xs := sd) (ys := [u]) rfl rfl rfl rfl rfl rfl rfl rfl rfl (by decide) ⟨rfl, rfl⟩ z44 z40 z48 z48 (fun z2 => ?_)
 exact vN [0] ⟨rfl, z2, rfl, rfl⟩ rfl rfl z151 rfl ⟨rfl, trivial⟩ (fun _ => rfl)
def bY (p : Prog) (s : State) (t : Int) (b : Bool) : State := if b = true then onM p [t] s else bB s t 1
theorem qH (g n m : Nat) (P : ProgH) (y : StateH) (sd : Value) (full : Bool) (t : Int) (b : Bool) (s : State) (w : World) (hg : Blk w g 89 (xM P y n m sd full))
   (h : AtG w [own y.h0 3 aJ 1 s.places, own y.h1 3 aJ 1 s.status] [slo P.h4 kI 1 P.threads])
   (hoff : ∀ f ∈ [own y.h0 3 aJ 1 s.places, own y.h1 3 aJ 1 s.status] ++ [slo P.h4 kI 1 P.threads], ∀ b, f.foot b → b ≠ g)
   (h1 : s.places.length = n) (h2 : s.status.length = m) (hm : n = m) (hn : P.threads.length = n) (hw : 0 ≤ t ∧ t < n) (hp : ∀ a ∈ s.places, 0 ≤ a ∧ a ≤ 100) (hn4 : n ≤ 100) :
   Calls Tryz.prog 69 #[.pointer (some ⟨g, 0, none⟩), .int .i64 t, .bool b] w (vM w g 89 15 [own y.h0 3 aJ 1 s.places, own y.h1 3 aJ 1 s.status]
     fun v cs L => v = .tuple #[] ∧ cs = xM P y n m sd full ∧ L = [own y.h0 3 aJ 1 (bY P.pure s t b).places, own y.h1 3 aJ 1 (bY P.pure s t b).status]) := by
 refine sH Tryz.func69 rfl aA w _ rfl _ rfl _ 89 _ 15 rfl hg _ _ h hoff ⟨rfl, rfl, trivial⟩ _ _ rfl rfl ?_
 refine CaseB.mk (fun g1 => ?_) (fun g1 => ?_)
 · rw [bY, if_pos g1]
   refine AllSl.mk fun z => ?_
   refine cB _ [1, 2] (G := [_, _]) sE rfl rfl rfl rfl ⟨rfl, rfl⟩ rfl rfl ⟨rfl, rfl, trivial⟩ ⟨rfl, rfl, rfl, rfl, trivial⟩ (fun A w ga hga hW hblk => (jM ga n m P y sd full z [t] s w hblk (hW.atG [1, 2] (G := [_, _]) ⟨rfl, rfl, trivial⟩ rfl ⟨rfl, rfl, rfl, rfl, trivial⟩ [3, 0] (Fo := [_, _]) z149 rfl) (hW.atG_off z108 hga (ix := [1, 2]) (G := [_, _]) ⟨rfl, rfl, trivial⟩ (jx := [3, 0]) (Fo := [_, _]) z149) h1 h2 hm hn (fun x hx => by simp at hx; rw [hx]; exact hw) (by simp) hp hn4)) ?_
   rintro v cs L ⟨rfl, rfl, rfl⟩
   exact vN [0, 1] ⟨rfl, rfl, rfl⟩ rfl rfl z144 rfl ⟨rfl, rfl, trivial⟩ (fun _ => rfl)
 · have hb : ¬ b = true := by rw [g1]; decide
   rw [bY, if_neg hb]
   obtain ⟨τ, rfl⟩ : ∃ τ : Nat, t = (τ : Int) := ⟨_, (Int.toNat_of_nonneg hw.1).symm⟩
   refine cE aD 1 aA rfl rfl rfl rfl rfl ⟨rfl, rfl⟩ rfl h2.symm τ rfl (by omega) (fun g1 hg1 => ?_)
   refine bP aD 1 aA rfl rfl rfl rfl rfl rfl rfl rfl hg1 τ 0 1 rfl (by omega) rfl [.int .i64 1] (fun _ => rfl) rfl ?_
   exact vN [1, 0] ⟨rfl, rfl, rfl⟩ rfl rfl z144 rfl ⟨rfl, rfl, trivial⟩ (fun _ => rfl)
theorem qI (p : Prog) (who : List Int) (s : State) : (onM p who s).said = s.said := by
 obtain ⟨pl, st, h, _⟩ := mY p who s
 rw [h]
theorem kT {β : Type} (k u : Int) (x : β) : aN [(k, x)] u = if k = u then [x] else [] := by
 by_cases h : k = u <;> simp [aN, h]
theorem aZ {α β : Type} {g : α → Int} {h : α → β} {xs : List α} {u : Int} : aN (xs.map fun x => (g x, h x)) u = [] ↔ u ∉ xs.map g := by
 rw [oK]
 constructor
 · intro h1 h2
   obtain ⟨x, hx, rfl⟩ := List.mem_map.1 h2
   exact h1 _ (List.mem_map.2 ⟨x, hx, rfl⟩) rfl
 · intro h1 e he h2
   obtain ⟨x, hx, rfl⟩ := List.mem_map.1 he
   exact h1 (List.mem_map.2 ⟨x, hx, h2⟩)
theorem xN {α β : Type} (g : α → Int) (h : α → β) (xs : List α) (n : Nat) (nd : (xs.map g).Nodup) :
   (∀ u ∈ (xs.take n).map g, aN (xs.map fun x => (g x, h x)) u ≠ [] ∧ aN ((xs.drop n).map fun x => (g x, h x)) u = []) ∧
   (∀ u, u ∉ (xs.take n).map g → aN ((xs.drop n).map fun x => (g x, h x)) u = aN (xs.map fun x => (g x, h x)) u) := by
 have e : xs.map g = (xs.take n).map g ++ (xs.drop n).map g := by rw [← List.map_append, List.take_append_drop]
 have e2 : (xs.map fun x => (g x, h x)) = ((xs.take n).map fun x => (g x, h x)) ++ (xs.drop n).map fun x => (g x, h x) := by rw [← List.map_append, List.take_append_drop]
 rw [e, List.nodup_append] at nd
 refine ⟨fun u hu => ⟨fun h0 => ?_, aZ.2 fun h2 => nd.2.2 u hu u h2 rfl⟩, fun u hu => ?_⟩
 · rw [aZ, e] at h0
   exact h0 (List.mem_append_left _ hu)
 · rw [e2, dM, aZ.2 hu]; rfl
theorem fP {xs : List Int} (h : bD xs = true) : xs.Nodup := by
 simp only [bD, decide_eq_true_eq] at h
 exact h.1
theorem kF0 {p : Prog} {s : State} {k : Nat} {ops : List Op} {a st : Int} {op : Op} (r : Rdy p s k ops a st op) (hk : op.kind = 1) (hs : s.said.length + 1 ≤ 64) : Fits p (onM p [(k : Int)] (jX s op.arg)) := by
 have hv : aW op.arg = true := by
   have h := r.ok.2.2.2.2
   rw [Prog.argOk, if_neg (by omega), if_neg (by omega), if_pos (by omega)] at h
   exact h
 exact r.onFits (s1 := jX s op.arg) (who := []) (fx := []) (fx' := []) (r.ft.shared.of rfl rfl rfl rfl rfl) rfl rfl rfl (by simpa [jX] using hs)
   (fun v h => by
     rcases List.mem_append.1 h with h | h
     · exact r.ft.said v h
     · simp at h; rw [h]; exact hv)
   (Swap.refl _) (fun _ _ => rfl) (r.own0 (by omega)) (by simp) (fun u hu => by simp at hu) (fun _ _ _ => rfl) rfl
theorem Rdy.sem {p : Prog} {s : State} {k : Nat} {ops : List Op} {a st : Int} {op : Op} (r : Rdy p s k ops a st op) (hk : op.kind = 2 ∨ op.kind = 3) :
   ∃ x, s.sems[op.on.toNat]? = some x ∧ zH s op = x ∧ SemOk x ∧ 1 ≤ op.arg ∧ op.arg ≤ x.limit ∧ ((op.on.toNat : Nat) : Int) = op.on := by
 obtain ⟨_, _, o0, o1, h5⟩ := r.ok
 rw [Prog.argOk, if_pos hk] at h5
 rw [Prog.shared, if_neg (by omega), if_pos hk, ← r.ft.lsems] at o1
 have hi : op.on.toNat < s.sems.length := by omega
 have hx : s.sems[op.on.toNat]? = some s.sems[op.on.toNat] := List.getElem?_eq_getElem hi
 obtain ⟨g1, g2⟩ := r.ft.sems _ _ hx
 rw [List.getD_eq_getElem?_getD, g2] at h5
 exact ⟨_, hx, by rw [zH, List.getD_eq_getElem?_getD, hx]; rfl, g1, h5.1, h5.2, by omega⟩
theorem Rdy.once {p : Prog} {s : State} {k : Nat} {ops : List Op} {a st : Int} {op : Op} (r : Rdy p s k ops a st op) (hk : op.kind = 4) :
   ∃ x, s.onces[op.on.toNat]? = some x ∧ pC s op = x ∧ eG x ∧ aW op.arg = true ∧ ((op.on.toNat : Nat) : Int) = op.on := by
 obtain ⟨_, _, o0, o1, h5⟩ := r.ok
 rw [Prog.argOk, if_neg (by omega), if_neg (by omega), if_pos (by omega)] at h5
 rw [Prog.shared, if_neg (by omega), if_neg (by omega), if_pos hk] at o1
 have hl := r.ft.lonces
 have hi : op.on.toNat < s.onces.length := by omega
 have hx : s.onces[op.on.toNat]? = some s.onces[op.on.toNat] := List.getElem?_eq_getElem hi
 exact ⟨_, hx, by rw [pC, List.getD_eq_getElem?_getD, hx]; rfl, r.ft.onces _ (List.getElem_mem hi), h5, by omega⟩
theorem Rdy.group {p : Prog} {s : State} {k : Nat} {ops : List Op} {a st : Int} {op : Op} (r : Rdy p s k ops a st op) (hk : op.kind = 5 ∨ op.kind = 6) :
   ∃ x, s.groups[op.on.toNat]? = some x ∧ rB s op = x ∧ eY x ∧ (op.kind = 5 → -9 ≤ op.arg ∧ op.arg ≤ 9) ∧ ((op.on.toNat : Nat) : Int) = op.on := by
 obtain ⟨_, _, o0, o1, h5⟩ := r.ok
 rw [Prog.shared, if_neg (by omega), if_neg (by omega), if_neg (by omega), if_pos hk, ← r.ft.lgroups] at o1
 have hi : op.on.toNat < s.groups.length := by omega
 have hx : s.groups[op.on.toNat]? = some s.groups[op.on.toNat] := List.getElem?_eq_getElem hi
 refine ⟨_, hx, by rw [rB, List.getD_eq_getElem?_getD, hx]; rfl, r.ft.groups _ (List.getElem_mem hi), fun e => ?_, by omega⟩
 rw [Prog.argOk, if_neg (by omega), if_pos e] at h5
 exact h5
theorem Rdy.barrier {p : Prog} {s : State} {k : Nat} {ops : List Op} {a st : Int} {op : Op} (r : Rdy p s k ops a st op) (hk : op.kind = 7) :
   ∃ x, s.barriers[op.on.toNat]? = some x ∧ iQ s op = x ∧ dO x ∧ ((op.on.toNat : Nat) : Int) = op.on := by
 obtain ⟨_, _, o0, o1, _⟩ := r.ok
 rw [Prog.shared, if_neg (by omega), if_neg (by omega), if_neg (by omega), if_neg (by omega), if_pos hk, ← r.ft.lbarriers] at o1
 have hi : op.on.toNat < s.barriers.length := by omega
 have hx : s.barriers[op.on.toNat]? = some s.barriers[op.on.toNat] := List.getElem?_eq_getElem hi
 exact ⟨_, hx, by rw [iQ, List.getD_eq_getElem?_getD, hx]; rfl, (r.ft.barriers _ _ hx).1, by omega⟩
theorem Rdy.chan {p : Prog} {s : State} {k : Nat} {ops : List Op} {a st : Int} {op : Op} (r : Rdy p s k ops a st op) (hk : 8 ≤ op.kind) :
   ∃ x, s.chans[op.on.toNat]? = some x ∧ gO s op = x ∧ x.Valid ∧ (op.kind = 8 → aW op.arg = true) ∧ ((op.on.toNat : Nat) : Int) = op.on := by
 obtain ⟨_, _, o0, o1, h5⟩ := r.ok
 rw [Prog.shared, if_neg (by omega), if_neg (by omega), if_neg (by omega), if_neg (by omega), if_neg (by omega), ← r.ft.lchans] at o1
 have hi : op.on.toNat < s.chans.length := by omega
 have hx : s.chans[op.on.toNat]? = some s.chans[op.on.toNat] := List.getElem?_eq_getElem hi
 refine ⟨_, hx, by rw [gO, List.getD_eq_getElem?_getD, hx]; rfl, by have := (r.ft.chans _ _ hx).1; simpa [Chan.valid] using this, fun e => ?_, by omega⟩
 rw [Prog.argOk, if_neg (by omega), if_neg (by omega), if_pos (by omega)] at h5
 exact h5
theorem bC0 {p : Prog} {s : State} {k : Nat} {ops : List Op} {a st : Int} {op : Op} (r : Rdy p s k ops a st op) (hk : op.kind = 2) : Fits p (jS p s k op) := by
 obtain ⟨x, hx, hxa, ok, a1, a2, hi⟩ := r.sem (.inl hk)
 have sw := fun x' => kS hx x'
 have hn : (k : Int) ∉ x.queue.map (·.t) := aZ.1 ((sw x).none r.ev)
 rw [jS, hxa, Sem.acquire]
 by_cases hc : x.queue = [] ∧ op.arg ≤ x.free
 · rw [if_pos hc]
   simp only [if_true]
   have := ok.fl
   exact r.onFits (s1 := setSem s op _) (who := []) (r.ft.shared.setSem (s := s) hx (x' := { x with free := x.free - op.arg }) ⟨ok.l1, ok.l9, by show 0 ≤ x.free - op.arg; omega, by show x.free - op.arg ≤ x.limit; omega, ok.q6, ok.cnt, ok.dis, fun w hw => by rw [show ({ x with free := x.free - op.arg } : Sem).queue = [] from hc.1] at hw; simp at hw⟩ rfl) rfl rfl rfl r.ft.lsaid r.ft.said
     (sw _) (fun _ _ => rfl) (r.own0 (by omega)) (by simp) (fun u hu => by simp at hu) (fun _ _ _ => rfl) ((sw x).none r.ev)
 · rw [if_neg hc]
   simp only [Bool.false_eq_true, if_false]
   have hok : SemOk { x with queue := x.queue ++ [⟨(k : Int), op.arg⟩] } := by
     have hdis : bD ((x.queue ++ [(⟨(k : Int), op.arg⟩ : Waiter)]).map (·.t)) = true := by
       rw [List.map_append]; exact gU ok.dis r.thr hn
     refine ⟨ok.l1, ok.l9, ok.f0, ok.fl, by have := cW hdis; simpa using this, fun w hw => ?_, hdis, fun w hw => ?_⟩
     · rcases List.mem_append.1 hw with hw | hw
       · exact ok.cnt w hw
       · simp at hw; subst hw; exact ⟨a1, a2⟩
     · by_cases h0 : x.queue = []
       · have h1 : ¬ op.arg ≤ x.free := fun h => hc ⟨h0, h⟩
         simp [h0] at hw
         subst hw
         show x.free < op.arg
         omega
       · obtain ⟨y, q, hq⟩ := List.exists_cons_of_ne_nil h0
         refine ok.hd w ?_
         rw [hq] at hw ⊢
         simpa using hw
   have hadd : ∀ u, aN (dH op.on.toNat { x with queue := x.queue ++ [⟨(k : Int), op.arg⟩] }) u = aN (dH op.on.toNat x) u ++ (if (k : Int) = u then [⟨2, op.on, op.arg⟩] else []) := fun u => by
     simp only [dH, List.map_append, dM, List.map_cons, List.map_nil, kT, hi]
   refine r.waitFits (s1 := setSem s op _) (b := 1) (r.ft.shared.setSem (s := s) hx hok rfl) rfl rfl rfl rfl (sw _) (fun _ _ => rfl) (fun u hu => ?_) (.inl ⟨rfl, ?_, r.own0 (by omega)⟩)
   · rw [hadd, if_neg (fun h => hu h.symm), List.append_nil]
   · rw [hadd, if_pos rfl, (sw x).none r.ev, jW, if_pos (by omega), hk]; rfl
theorem tR : ∀ (q : List Waiter) (f : Int), 0 ≤ f → (∀ w ∈ q, 1 ≤ w.n) → ∃ n, (dV f q).2.2 = q.drop n ∧ (dV f q).2.1 = (q.take n).map (·.t) ∧ 0 ≤ (dV f q).1 ∧ (dV f q).1 ≤ f ∧ ∀ w, (q.drop n)[0]? = some w → (dV f q).1 < w.n
 | [], f, h0, _ => ⟨0, rfl, rfl, h0, by simp [dV], by simp⟩
 | w :: q, f, h0, hc => by
   have h1 := hc w (by simp)
   rw [dV]
   by_cases e : w.n ≤ f
   · rw [if_pos e]
     obtain ⟨n, i1, i2, i3, i4, i5⟩ := tR q (f - w.n) (by omega) (fun y hy => hc y (List.mem_cons_of_mem _ hy))
     exact ⟨n + 1, by simpa using i1, by simp [i2], i3, by show (dV (f - w.n) q).1 ≤ f; omega, by simpa using i5⟩
   · rw [if_neg e]
     exact ⟨0, rfl, rfl, h0, Int.le_refl _, fun y hy => by simp at hy; subst hy; show f < w.n; omega⟩
theorem bD0 {p : Prog} {s : State} {k : Nat} {ops : List Op} {a st : Int} {op : Op} (r : Rdy p s k ops a st op) (hk : op.kind = 3) : Fits p (iR p s k op) := by
 obtain ⟨x, hx, hxa, ok, a1, a2, hi⟩ := r.sem (.inr hk)
 have sw := fun x' => kS hx x'
 rw [iR, hxa, Sem.release]
 by_cases hc : op.arg ≤ x.limit - x.free
 · rw [if_pos hc]
   have f0 := ok.f0
   obtain ⟨n, i1, i2, i3, i4, i5⟩ := tR x.queue (x.free + op.arg) (by omega) (fun w hw => (ok.cnt w hw).1)
   simp only [i1, i2]
   have nd := fP ok.dis
   obtain ⟨t1, t2⟩ := xN (·.t) (fun w : Waiter => (⟨2, (op.on.toNat : Int), w.n⟩ : Waiting)) x.queue n nd
   have hsub : ((x.queue.drop n).map (·.t)).Sublist (x.queue.map (·.t)) := (List.drop_sublist _ _).map _
   refine r.onFits (s1 := setSem s op _) (who := (x.queue.take n).map (·.t)) (r.ft.shared.setSem (s := s) hx (x' := ⟨(dV (x.free + op.arg) x.queue).1, x.limit, x.queue.drop n⟩) ⟨ok.l1, ok.l9, i3, by show (dV (x.free + op.arg) x.queue).1 ≤ x.limit; omega, by have := ok.q6; show (x.queue.drop n).length ≤ 6; rw [List.length_drop]; omega, fun w hw => ok.cnt w (List.mem_of_mem_drop hw), pA hsub ok.dis, i5⟩ rfl) rfl rfl rfl r.ft.lsaid r.ft.said
     (sw _) (fun _ _ => rfl) (r.own0 (by omega)) (nd.sublist ((List.take_sublist _ _).map _)) t1 (fun u hu _ => t2 u hu) ?_
   have h0 := (sw x).none r.ev
   by_cases hm : (k : Int) ∈ (x.queue.take n).map (·.t)
   · exact (t1 _ hm).2
   · exact (t2 _ hm).trans h0
 · rw [if_neg hc]
   exact r.ft.fault (by omega) (by omega)
theorem kG0 {p : Prog} {s : State} {k : Nat} {ops : List Op} {a st : Int} {op : Op} (r : Rdy p s k ops a st op) (hk : op.kind = 5) : Fits p (tQ p s k op) := by
 obtain ⟨x, hx, hxa, ⟨ok1, ok2, ok3⟩, ha, hi⟩ := r.group (.inl hk)
 have sw := fun x' => iG hx x'
 have nd := fP ok2
 rw [tQ, hxa, Group.add]
 by_cases hc : aW (x.count + op.arg) = true
 · rw [if_pos hc]
   by_cases h0 : x.count + op.arg = 0
   · rw [if_pos h0]
     obtain ⟨t1, t2⟩ := xN (fun t : Int => t) (fun t : Int => (⟨6, (op.on.toNat : Int), 0⟩ : Waiting)) x.waits x.waits.length (by simpa using nd)
     simp only [List.take_length, List.drop_length, List.map_id'] at t1 t2
     refine r.onFits (s1 := setGroup s op ⟨0, []⟩) (who := x.waits) (r.ft.shared.setGroup (s := s) ⟨by decide, by decide, .inr rfl⟩) rfl rfl rfl r.ft.lsaid r.ft.said
       (sw _) (fun _ _ => rfl) (r.own0 (by omega)) nd t1 (fun u hu _ => t2 u hu) rfl
   · rw [if_neg h0]
     have hv : 0 < x.count + op.arg := by simp [aW] at hc; omega
     exact r.onFits (s1 := setGroup s op ⟨x.count + op.arg, x.waits⟩) (who := []) (r.ft.shared.setGroup (s := s) ⟨hc, ok2, .inl hv⟩) rfl rfl rfl r.ft.lsaid r.ft.said
       (sw _) (fun _ _ => rfl) (r.own0 (by omega)) (by simp) (fun u hu => by simp at hu) (fun _ _ _ => rfl) ((sw x).none r.ev)
 · rw [if_neg hc]
   exact r.ft.fault (by omega) (by omega)
theorem hJ0 {p : Prog} {s : State} {k : Nat} {ops : List Op} {a st : Int} {op : Op} (r : Rdy p s k ops a st op) (hk : op.kind = 6) : Fits p (qF p s k op) := by
 obtain ⟨x, hx, hxa, ⟨ok1, ok2, ok3⟩, ha, hi⟩ := r.group (.inr hk)
 have sw := fun x' => iG hx x'
 have hn : (k : Int) ∉ x.waits := by
   have h := (aZ (g := fun t : Int => t)).1 ((sw x).none r.ev)
   simpa using h
 rw [qF, hxa, Group.wait]
 by_cases hc : x.count = 0
 · rw [if_pos hc]
   simp only [if_true]
   have hw : x.waits = [] := by
     rcases ok3 with h | h
     · omega
     · exact h
   have he : cS op.on.toNat x = [] := by simp [cS, hw]
   exact r.onFits (s1 := setGroup s op ⟨0, []⟩) (who := []) (r.ft.shared.setGroup (s := s) ⟨by decide, by decide, .inr rfl⟩) rfl rfl rfl r.ft.lsaid r.ft.said
     (sw _) (fun _ _ => rfl) (r.own0 (by omega)) (by simp) (fun u hu => by simp at hu) (fun _ _ _ => by rw [he]; rfl) rfl
 · rw [if_neg hc]
   simp only [Bool.false_eq_true, if_false]
   have hadd : ∀ u, aN (cS op.on.toNat ⟨x.count, x.waits ++ [(k : Int)]⟩) u = aN (cS op.on.toNat x) u ++ (if (k : Int) = u then [⟨6, op.on, 0⟩] else []) := fun u => by
     simp only [cS, List.map_append, dM, List.map_cons, List.map_nil, kT, hi]
   have hv : 0 < x.count := by simp [aW] at ok1; omega
   refine r.waitFits (s1 := setGroup s op _) (b := 1) (r.ft.shared.setGroup (s := s) ⟨ok1, gU ok2 r.thr hn, .inl hv⟩) rfl rfl rfl rfl (sw _) (fun _ _ => rfl) (fun u hu => ?_) (.inl ⟨rfl, ?_, r.own0 (by omega)⟩)
   · rw [hadd, if_neg (fun h => hu h.symm), List.append_nil]
   · rw [hadd, if_pos rfl, (sw x).none r.ev, jW, if_neg (by omega), hk]; rfl
theorem cX0 {p : Prog} {s : State} {k : Nat} {ops : List Op} {a st : Int} {op : Op} (r : Rdy p s k ops a st op) (hk : op.kind = 7) (hw : (iQ s op).arrive k ≠ none) : Fits p (gT p s k op) := by
 obtain ⟨x, hx, hxa, ⟨p1, p6, r0, r9, wl, dis⟩, hi⟩ := r.barrier hk
 have sw := fun x' => kZ hx x'
 have nd := fP dis
 have hn : (k : Int) ∉ x.waits := by
   have h := (aZ (g := fun t : Int => t)).1 ((sw x).none r.ev)
   simpa using h
 rw [hxa, Barrier.arrive] at hw
 rw [gT, hxa, Barrier.arrive]
 by_cases hc : (x.waits.length : Int) + 1 < x.parties
 · rw [if_pos hc]
   simp only [if_true]
   have hadd : ∀ u, aN (cF op.on.toNat ⟨x.parties, x.round, x.waits ++ [(k : Int)]⟩) u = aN (cF op.on.toNat x) u ++ (if (k : Int) = u then [⟨7, op.on, 0⟩] else []) := fun u => by
     simp only [cF, List.map_append, dM, List.map_cons, List.map_nil, kT, hi]
   refine r.waitFits (s1 := setBarrier s op _) (b := 1) (r.ft.shared.setBarrier (s := s) hx (x' := ⟨x.parties, x.round, x.waits ++ [(k : Int)]⟩) ⟨p1, p6, r0, r9, by simpa using hc, gU dis r.thr hn⟩ rfl) rfl rfl rfl rfl (sw _) (fun _ _ => rfl) (fun u hu => ?_) (.inl ⟨rfl, ?_, r.own0 (by omega)⟩)
   · rw [hadd, if_neg (fun h => hu h.symm), List.append_nil]
   · rw [hadd, if_pos rfl, (sw x).none r.ev, jW, if_neg (by omega), hk]; rfl
 · rw [if_neg hc] at hw ⊢
   by_cases h9 : x.round = 9999
   · rw [if_pos h9] at hw; exact (hw rfl).elim
   · rw [if_neg h9]
     have hne : x.waits ++ [(k : Int)] ≠ [] := by simp
     simp only [if_neg hne]
     obtain ⟨t1, t2⟩ := xN (fun t : Int => t) (fun t : Int => (⟨7, (op.on.toNat : Int), 0⟩ : Waiting)) x.waits x.waits.length (by simpa using nd)
     simp only [List.take_length, List.drop_length, List.map_id'] at t1 t2
     exact r.onFits (s1 := setBarrier s op ⟨x.parties, x.round + 1, []⟩) (who := x.waits) (r.ft.shared.setBarrier (s := s) hx ⟨p1, p6, by show 0 ≤ x.round + 1; omega, by show x.round + 1 ≤ 9999; omega, by show ((0 : Nat) : Int) < x.parties; omega, show bD [] = true by decide⟩ rfl) rfl rfl rfl r.ft.lsaid r.ft.said
       (sw _) (fun _ _ => rfl) (r.own0 (by omega)) nd t1 (fun u hu _ => t2 u hu) rfl
end Go.Proofs.YtijmjecehppbfaaGreat
