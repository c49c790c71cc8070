/- FnExactStepThread: texts that its proof stands on, part 5. -/
import Derived.Test.YtklclbcckjhdpaaGreatQExactStepThreadd
namespace Go.Proofs.YtklclbcckjhdpaaGreat
open Go Go.Sx Go.RowKit
set_option maxRecDepth 100000 in
theorem szOnceS_c (h : Sl) (xs : List OnceH) (left : Int) (w : World) (hh : At w [fR (oncesO h xs)]) (h0 : -1 ≤ left) (h1 : left ≤ 1048576) :
   Calls Tryz.prog 47 #[h.val xs.length, .int .i64 left] w (Ret w fun v L => v = .int .i64 (szAll szOnceM (xs.map (·.m)) left) ∧ L = []) := by
 have hrd := (Rd.ofR (nest_h (xs := xs))).p w hh.1.1
 obtain ⟨_, b1, b2, _⟩ := hrd
 unfold maxLen at b2
 have e : IntKind.i64.wrap (left - (xs.length : Int)) = left - xs.length := e_wrap (by omega) (by omega)
 refine calls2 Tryz.func47 rfl tabOk w _ rfl _ rfl _ hh ⟨rfl, rfl, trivial⟩ _ _ (by decide) ?_
 apply CaseB.mk <;> intro g
 · rw [e] at g
   have g2 : left - (xs.length : Int) < 0 := by simpa using g
   exact ret0 ⟨by simp [szAll, g2], rfl⟩ (fun _ => rfl)
 · rw [e] at g
   have g2 : ¬ left - (xs.length : Int) < 0 := by simpa using g
   refine LoopW.mk ⟨{ p : Nat × Int // p.1 ≤ xs.length ∧ szList szOnceM ((xs.map (·.m)).drop p.1) p.2 = szAll szOnceM (xs.map (·.m)) left ∧ -1 ≤ p.2 ∧ p.2 ≤ 1048576 },
     fun p => .mk [(0, .v (h.val xs.length)), (1, .v (.int .i64 p.1.2)), (5, .v (.int .i64 (p.1.1 : Int)))] 0 0 [] [] [fR (oncesO h xs)],
     fun p => xs.length - p.1.1, ⟨(0, left - xs.length), Nat.zero_le _, by simp [szAll, g2], by omega, by omega⟩, ?_, ?_⟩
   · exact weak_mk [0] zw12 zw0 zw12 zw5 zw26 rfl rfl
   · rintro ⟨⟨k, l⟩, hk, hl, hl0, hl1⟩
     simp only at hk hl hl0 hl1
     refine CaseB.mk (fun g3 => ?_) (fun g3 => ?_)
     · have hlt : k < xs.length := by simpa using g3
       rw [List.drop_eq_getElem_cons z99] at hl
       simp only [szList, List.getElem_map] at hl
       refine stop_idx encOnceH tabOk rfl rfl rfl rfl rfl ⟨rfl, rfl⟩ (rdVia 0 rfl (.ofR nest_h)) k rfl z47 (fun ad => ?_)
       refine stop_call _ cl116 rfl rfl rfl rfl ⟨rfl, rfl⟩ (fun A w hW => szOnce_c _ _ _ w ⟨hW.get 0 rfl (.ofR (oncesO_0 h xs k hlt)), trivial⟩ hl0 hl1) ?_
       rintro v L ⟨rfl, rfl⟩
       refine CaseB.mk (fun g4 => ?_) (fun g4 => ?_)
       · have q : szOnceM xs[k].m l < 0 := by simpa using g4
         rw [if_pos q] at hl
         exact ret0 ⟨by rw [← hl], rfl⟩ (fun _ => rfl)
       · have q : ¬ szOnceM xs[k].m l < 0 := by simpa using g4
         rw [if_neg q] at hl
         have q2 := (szOnceM_gen xs[k].m l hl1 q).2
         have hw := e_succ k _ hlt (by omega)
         refine ⟨⟨(k + 1, szOnceM xs[k].m l), hlt, hl, by omega, by omega⟩, ?_, by simp only; omega⟩
         exact weak_mk [0] zw1 zw0 zw1 zw5 zw3 rfl rfl
     · have hge : xs.length ≤ k := by simpa using g3
       rw [List.drop_eq_nil_of_le z97] at hl
       exact ret0 ⟨congrArg (Value.int .i64) hl, rfl⟩ (fun _ => rfl)
def OnceH0 : OnceH := ⟨⟨0, 0, 0, []⟩, ⟨none, 0⟩⟩
set_option maxRecDepth 100000 in
theorem toOnceS_c (h : Sl) (xs : List OnceH) (w : World) (hh : At w [fR (oncesO h xs)]) (hl : xs.length ≤ 1048576) (hb : ∀ x ∈ xs, Once.small20 x.m) :
   Calls Tryz.prog 56 #[h.val xs.length] w (Ret w fun v L => ∃ (y : Sl) (ys : List OnceH), v = y.val ys.length ∧ ys.map (·.m) = xs.map (·.m) ∧ L = [fO (oncesO y ys)]) := by
 refine calls1 Tryz.func56 rfl tabOk w _ rfl _ rfl _ hh ⟨rfl, rfl, trivial⟩ _ (by decide) ?_
 refine stop_make encOnceH OnceH0 tabOk rfl rfl rfl rfl rfl (by decide) ⟨rfl, rfl⟩ xs.length rfl z47 z47 (fun y => ?_)
 refine LoopW.mk ⟨{ p : Nat × List OnceH // p.1 ≤ xs.length ∧ p.2.map (·.m) = (xs.map (·.m)).take p.1 },
   fun p => .mk [(0, .v (h.val xs.length)), (3, .v (y.val (p.1.2 ++ List.replicate (xs.length - p.1.1) OnceH0).length)), (4, .v (.int .i64 (p.1.1 : Int)))] 0 0 [] [] [own y 102 cOnceH 4 (p.1.2 ++ List.replicate (xs.length - p.1.1) OnceH0), fO (p.1.2.flatMap onceO), fR (oncesO h xs)],
   fun p => xs.length - p.1.1, ⟨(0, []), Nat.zero_le _, by simp⟩, ?_, ?_⟩
 · refine weak_shift (.joinO [] (Gs := []) trivial rfl (.refl _)) ?_
   exact weak_mk [1, 0, 2] zw8 zw0 zw8 zw5 zw17 rfl rfl
 · rintro ⟨⟨k, ys⟩, hk, hy⟩
   simp only at hk hy
   have hyl : ys.length = k := by have := congrArg List.length hy; simp at this; omega
   apply CaseB.mk <;> intro g
   · have hlt : k < xs.length := by simpa using g
     have hlt2 : k < (ys ++ List.replicate (xs.length - k) OnceH0).length := by simp; omega
     refine stop_idx encOnceH tabOk rfl rfl rfl rfl rfl ⟨rfl, rfl⟩ (rdVia 2 rfl (.ofR nest_h)) k rfl z47 (fun ad => ?_)
     refine stop_call _ cl134 rfl rfl rfl rfl ⟨rfl, rfl⟩ (fun A w hW => toOnce_c _ _ w ⟨hW.get 2 rfl (.ofR (oncesO_0 h xs k hlt)), trivial⟩ (hb _ (List.getElem_mem hlt))) ?_
     rintro v L ⟨y0, rfl, rfl⟩
     generalize hx : (⟨xs[k].m, y0⟩ : OnceH) = x
     have hxm : x.m = xs[k].m := by rw [← hx]
     have hT : (ys ++ List.replicate (xs.length - k) OnceH0).set k x = (ys ++ [x]) ++ List.replicate (xs.length - (k + 1)) OnceH0 := by
       rw [List.set_append_right _ _ (by omega), show k - ys.length = 0 by omega, show xs.length - k = (xs.length - (k + 1)) + 1 by omega, List.replicate_succ, List.append_assoc]
       rfl
     generalize hq : (ys ++ List.replicate (xs.length - k) OnceH0) = Q at hT hlt2
     refine stop_idxW encOnceH 1 tabOk rfl rfl rfl rfl rfl ⟨rfl, rfl⟩ rfl z90 k rfl hlt2 (fun g1 hg1 => ?_)
     refine stop_storeW encOnceH 1 tabOk rfl rfl rfl rfl rfl rfl rfl rfl hg1 k 0 x rfl hlt2 rfl (cOnceH x) (fun _ => by rw [← hx]; rfl) z76 ?_
     have hw := e_succ k _ hlt (by omega)
     refine ⟨⟨(k + 1, ys ++ [x]), hlt, by rw [List.map_append]; exact map_take_succ hlt hy hxm⟩, ?_, by simp only; omega⟩
     refine weak_shift (.joinO [1, 2] (Gs := [[_], _]) z138 rfl (G := (ys ++ [x]).flatMap onceO) (by subst hx; rw [List.flatMap_append]; exact (List.Perm.of_eq (by simp [onceO])).trans List.perm_append_comm)) ?_
     exact weak_mk [1, 0, 2] zw6 zw0 zw6 zw5 zw13 rfl rfl
   · have hge : xs.length ≤ k := by simpa using g
     have hT : ys ++ List.replicate (xs.length - k) OnceH0 = ys := by rw [show xs.length - k = 0 by omega]; simp
     simp only [hT]
     refine ret_shift (.joinO [0, 1] (Gs := [[_], _]) z138 rfl (G := oncesO y ys) (.of_eq (by simp [oncesO, nestO]))) ?_
     exact retw [0] ⟨y, ys, rfl, by rw [hy, List.take_of_length_le z97], rfl⟩ z146 rfl ⟨rfl, trivial⟩ (fun _ => rfl)
set_option maxRecDepth 100000 in
theorem eqOnceS_c (h h2 : Sl) (xs ys : List OnceH) (w : World) (hh : At w [fR (oncesO h xs), fR (oncesO h2 ys)]) (hl : xs.length ≤ 1048576) (hb : ∀ x ∈ xs, Once.small20 x.m) (hb2 : ∀ x ∈ ys, Once.small20 x.m) :
   Calls Tryz.prog 78 #[h.val xs.length, h2.val ys.length] w (Ret w fun v L => v = .bool (decide (xs.map (·.m) = ys.map (·.m))) ∧ L = []) := by
 refine calls2 Tryz.func78 rfl tabOk w _ rfl _ rfl _ hh ⟨rfl, rfl, rfl, rfl, trivial⟩ _ _ (by decide) ?_
 apply CaseB.mk <;> intro g
 · have hne : xs.map (·.m) ≠ ys.map (·.m) := fun e => by
     have := congrArg List.length e
     simp at this g
     omega
   refine ret0 ⟨?_, rfl⟩ (fun _ => rfl)
   simp [hne]
 · have hll : xs.length = ys.length := by simp at g; omega
   refine LoopW.mk ⟨{ k : Nat // k ≤ xs.length ∧ (xs.map (·.m)).take k = (ys.map (·.m)).take k },
     fun p => .mk [(0, .v (h.val xs.length)), (1, .v (h2.val ys.length)), (5, .v (.int .i64 p.1))] 0 0 [] [] [fR (oncesO h xs), fR (oncesO h2 ys)],
     fun p => xs.length - p.1, ⟨0, Nat.zero_le _, rfl⟩, ?_, ?_⟩
   · exact weak_mk [0, 1] zw2 zw0 zw2 zw5 zw4 rfl rfl
   · rintro ⟨k, hk, he⟩
     refine CaseB.mk (fun g2 => ?_) (fun g2 => ?_)
     · have hlt : k < xs.length := by simpa using g2
       have hlt2 : k < ys.length := by omega
       obtain ⟨q1, q2⟩ := take_eq_succ he z99 z95
       simp only [List.getElem_map] at q1 q2
       refine draw_start tabOk z107 z107 z107 200 [] [0, 1] [_, _] trivial trivial ⟨rfl, rfl, trivial⟩ rfl ?_
       refine d_idx (ti := tiOf tab) encOnceH tabOk rfl rfl rfl rfl rfl ⟨rfl, rfl⟩ (rdVia 0 rfl (.ofR nest_h)) k rfl z47 (fun ad => ?_)
       refine d_idx (ti := tiOf tab) encOnceH tabOk rfl rfl rfl rfl rfl ⟨rfl, rfl⟩ (rdVia 1 rfl (.ofR nest_h)) k rfl z47 (fun ad2 => ?_)
       refine d_call _ cl147 rfl rfl rfl rfl ⟨rfl, rfl⟩ (fun A w hW => eqOnce_c _ _ _ _ w ⟨hW.get 0 rfl (.ofR (oncesO_0 h xs k hlt)), hW.get 1 rfl (.ofR (oncesO_0 h2 ys k hlt2)), trivial⟩ (hb _ (List.getElem_mem hlt)) (hb2 _ (List.getElem_mem hlt2))) ?_
       rintro v L ⟨rfl, rfl⟩
       refine CaseB.mk (fun g3 => ?_) (fun g3 => ?_)
       · have hne := q2 z100
         refine ret0 ⟨?_, rfl⟩ (fun _ => rfl)
         simp [hne]
       · have heq := q1 z100
         have hw := e_succ k _ hlt (by omega)
         refine ⟨⟨k + 1, by omega, heq⟩, ?_, by simp; omega⟩
         exact weak_mk [0, 1] zw1 zw0 zw1 zw5 zw3 rfl rfl
     · have hge : xs.length ≤ k := by simpa using g2
       have heq : xs.map (·.m) = ys.map (·.m) := by rw [List.take_of_length_le z97, List.take_of_length_le z106] at he; exact he
       refine ret0 ⟨?_, rfl⟩ (fun _ => rfl)
       simp [heq]
def Group.small20 (m : Group) : Prop := m.waits.length ≤ 1048576
def szGroupM (m : Group) (left : Int) : Int := szStep m.waits.length left fun a0 => a0
theorem szGroupM_gen (m : Group) (l : Int) (hl : l ≤ 1048576) (h : ¬ szGroupM m l < 0) : m.small20 ∧ szGroupM m l ≤ l := by
 simp only [szGroupM, szStep, szN] at h ⊢
 simp only [Group.small20]
 omega
set_option maxRecDepth 100000 in
theorem szGroup_c (m : Group) (s0 : Sl) (left : Int) (w : World) (h : At w [slo s0 cInt 1 m.waits]) (h0 : -1 ≤ left) (h1 : left ≤ 1048576) :
   Calls Tryz.prog 117 #[groupV m s0, .int .i64 left] w (Ret w fun v L => v = .int .i64 (szGroupM m left) ∧ L = []) := by
 refine calls2 Tryz.func117 rfl tabOk w _ rfl _ rfl _ h ⟨rfl, rfl, trivial⟩ _ _ (by decide) ?_
 refine stop_call _ cl44 rfl rfl rfl rfl ⟨rfl, rfl⟩ (fun A w hW => szIntS_c s0 m.waits left w ⟨z39, trivial⟩ h0 h1) ?_
 rintro v L ⟨rfl, rfl⟩
 refine CaseB.mk (fun g0 => ?_) (fun g0 => ?_)
 · have q : szN m.waits.length (left) < 0 := by simpa using g0
   refine ret0 ⟨?_, rfl⟩ (fun _ => rfl)
   simp [szGroupM, szStep, q]
 have q0 : ¬ szN m.waits.length (left) < 0 := by simpa using g0
 refine ret0 ⟨?_, rfl⟩ (fun _ => rfl)
 simp [szGroupM, szStep, q0]
set_option maxRecDepth 100000 in
theorem toGroup_c (m : Group) (s0 : Sl) (w : World) (h : At w [slo s0 cInt 1 m.waits]) (hb : m.small20) :
   Calls Tryz.prog 135 #[groupV m s0] w (Ret w fun v L => ∃ y0 : Sl, v = groupV m y0 ∧ L = [own y0 3 cInt 1 m.waits]) := by
 have b0 := hb
 unfold Group.small20 at b0
 refine calls1 Tryz.func135 rfl tabOk w _ rfl _ rfl _ h ⟨rfl, rfl, trivial⟩ _ (by decide) ?_
 refine stop_call _ cl40 rfl rfl rfl rfl ⟨rfl, rfl⟩ (fun A w hW => toIntS_c s0 m.waits w ⟨z39, trivial⟩ b0) ?_
 rintro v L ⟨y0, rfl, rfl⟩
 exact retw [0] ⟨y0, rfl, rfl⟩ z146 rfl ⟨rfl, trivial⟩ (fun _ => rfl)
set_option maxRecDepth 100000 in
theorem eqGroup_c (m m2 : Group) (s0 u0 : Sl) (w : World) (h : At w [slo s0 cInt 1 m.waits, slo u0 cInt 1 m2.waits]) (hb : m.small20) (hb2 : m2.small20) :
   Calls Tryz.prog 148 #[groupV m s0, groupV m2 u0] w (Ret w fun v L => v = .bool (decide (m = m2)) ∧ L = []) := by
 have hx : ∀ {a b : Group}, a = b ↔ a.count = b.count ∧ a.waits = b.waits := fun {a b} => ⟨fun h => by subst h; exact ⟨rfl, rfl⟩, fun h => by cases a; cases b; simp_all⟩
 have b0 := hb
 unfold Group.small20 at b0
 have c0 := hb2
 unfold Group.small20 at c0
 refine calls2 Tryz.func148 rfl tabOk w _ rfl _ rfl _ h ⟨rfl, rfl, rfl, rfl, trivial⟩ _ _ (by decide) ?_
 refine CaseB.mk (fun h0 => ?_) (fun h0 => ?_)
 · have g : ¬ m = m2 := fun e => by subst e; simp at h0
   exact ret0 ⟨by simp [g], rfl⟩ (fun _ => rfl)
 refine stop_call _ cl36 rfl rfl rfl rfl ⟨rfl, rfl⟩ (fun A w hW => eqIntS_c s0 u0 m.waits m2.waits w ⟨z39, z39, trivial⟩ (by omega) (by omega)) ?_
 rintro v L ⟨rfl, rfl⟩
 refine CaseB.mk (fun h1 => ?_) (fun h1 => ?_)
 · have g : ¬ m = m2 := fun e => by subst e; simp at h1
   exact ret0 ⟨by simp [g], rfl⟩ (fun _ => rfl)
 have g : m = m2 := hx.2 ⟨by simpa using h0, by simpa using h1⟩
 exact ret0 ⟨by simp [g], rfl⟩ (fun _ => rfl)
set_option maxRecDepth 100000 in
theorem szGroupS_c (h : Sl) (xs : List GroupH) (left : Int) (w : World) (hh : At w [fR (groupsO h xs)]) (h0 : -1 ≤ left) (h1 : left ≤ 1048576) :
   Calls Tryz.prog 48 #[h.val xs.length, .int .i64 left] w (Ret w fun v L => v = .int .i64 (szAll szGroupM (xs.map (·.m)) left) ∧ L = []) := by
 have hrd := (Rd.ofR (nest_h (xs := xs))).p w hh.1.1
 obtain ⟨_, b1, b2, _⟩ := hrd
 unfold maxLen at b2
 have e : IntKind.i64.wrap (left - (xs.length : Int)) = left - xs.length := e_wrap (by omega) (by omega)
 refine calls2 Tryz.func48 rfl tabOk w _ rfl _ rfl _ hh ⟨rfl, rfl, trivial⟩ _ _ (by decide) ?_
 apply CaseB.mk <;> intro g
 · rw [e] at g
   have g2 : left - (xs.length : Int) < 0 := by simpa using g
   exact ret0 ⟨by simp [szAll, g2], rfl⟩ (fun _ => rfl)
 · rw [e] at g
   have g2 : ¬ left - (xs.length : Int) < 0 := by simpa using g
   refine LoopW.mk ⟨{ p : Nat × Int // p.1 ≤ xs.length ∧ szList szGroupM ((xs.map (·.m)).drop p.1) p.2 = szAll szGroupM (xs.map (·.m)) left ∧ -1 ≤ p.2 ∧ p.2 ≤ 1048576 },
     fun p => .mk [(0, .v (h.val xs.length)), (1, .v (.int .i64 p.1.2)), (5, .v (.int .i64 (p.1.1 : Int)))] 0 0 [] [] [fR (groupsO h xs)],
     fun p => xs.length - p.1.1, ⟨(0, left - xs.length), Nat.zero_le _, by simp [szAll, g2], by omega, by omega⟩, ?_, ?_⟩
   · exact weak_mk [0] zw12 zw0 zw12 zw5 zw26 rfl rfl
   · rintro ⟨⟨k, l⟩, hk, hl, hl0, hl1⟩
     simp only at hk hl hl0 hl1
     refine CaseB.mk (fun g3 => ?_) (fun g3 => ?_)
     · have hlt : k < xs.length := by simpa using g3
       rw [List.drop_eq_getElem_cons z99] at hl
       simp only [szList, List.getElem_map] at hl
       refine stop_idx encGroupH tabOk rfl rfl rfl rfl rfl ⟨rfl, rfl⟩ (rdVia 0 rfl (.ofR nest_h)) k rfl z47 (fun ad => ?_)
       refine stop_call _ cl117 rfl rfl rfl rfl ⟨rfl, rfl⟩ (fun A w hW => szGroup_c _ _ _ w ⟨hW.get 0 rfl (.ofR (groupsO_0 h xs k hlt)), trivial⟩ hl0 hl1) ?_
       rintro v L ⟨rfl, rfl⟩
       refine CaseB.mk (fun g4 => ?_) (fun g4 => ?_)
       · have q : szGroupM xs[k].m l < 0 := by simpa using g4
         rw [if_pos q] at hl
         exact ret0 ⟨by rw [← hl], rfl⟩ (fun _ => rfl)
       · have q : ¬ szGroupM xs[k].m l < 0 := by simpa using g4
         rw [if_neg q] at hl
         have q2 := (szGroupM_gen xs[k].m l hl1 q).2
         have hw := e_succ k _ hlt (by omega)
         refine ⟨⟨(k + 1, szGroupM xs[k].m l), hlt, hl, by omega, by omega⟩, ?_, by simp only; omega⟩
         exact weak_mk [0] zw1 zw0 zw1 zw5 zw3 rfl rfl
     · have hge : xs.length ≤ k := by simpa using g3
       rw [List.drop_eq_nil_of_le z97] at hl
       exact ret0 ⟨congrArg (Value.int .i64) hl, rfl⟩ (fun _ => rfl)
def GroupH0 : GroupH := ⟨⟨0, []⟩, ⟨none, 0⟩⟩
set_option maxRecDepth 100000 in
theorem toGroupS_c (h : Sl) (xs : List GroupH) (w : World) (hh : At w [fR (groupsO h xs)]) (hl : xs.length ≤ 1048576) (hb : ∀ x ∈ xs, Group.small20 x.m) :
   Calls Tryz.prog 57 #[h.val xs.length] w (Ret w fun v L => ∃ (y : Sl) (ys : List GroupH), v = y.val ys.length ∧ ys.map (·.m) = xs.map (·.m) ∧ L = [fO (groupsO y ys)]) := by
 refine calls1 Tryz.func57 rfl tabOk w _ rfl _ rfl _ hh ⟨rfl, rfl, trivial⟩ _ (by decide) ?_
 refine stop_make encGroupH GroupH0 tabOk rfl rfl rfl rfl rfl (by decide) ⟨rfl, rfl⟩ xs.length rfl z47 z47 (fun y => ?_)
 refine LoopW.mk ⟨{ p : Nat × List GroupH // p.1 ≤ xs.length ∧ p.2.map (·.m) = (xs.map (·.m)).take p.1 },
   fun p => .mk [(0, .v (h.val xs.length)), (3, .v (y.val (p.1.2 ++ List.replicate (xs.length - p.1.1) GroupH0).length)), (4, .v (.int .i64 (p.1.1 : Int)))] 0 0 [] [] [own y 108 cGroupH 2 (p.1.2 ++ List.replicate (xs.length - p.1.1) GroupH0), fO (p.1.2.flatMap groupO), fR (groupsO h xs)],
   fun p => xs.length - p.1.1, ⟨(0, []), Nat.zero_le _, by simp⟩, ?_, ?_⟩
 · refine weak_shift (.joinO [] (Gs := []) trivial rfl (.refl _)) ?_
   exact weak_mk [1, 0, 2] zw8 zw0 zw8 zw5 zw17 rfl rfl
 · rintro ⟨⟨k, ys⟩, hk, hy⟩
   simp only at hk hy
   have hyl : ys.length = k := by have := congrArg List.length hy; simp at this; omega
   apply CaseB.mk <;> intro g
   · have hlt : k < xs.length := by simpa using g
     have hlt2 : k < (ys ++ List.replicate (xs.length - k) GroupH0).length := by simp; omega
     refine stop_idx encGroupH tabOk rfl rfl rfl rfl rfl ⟨rfl, rfl⟩ (rdVia 2 rfl (.ofR nest_h)) k rfl z47 (fun ad => ?_)
     refine stop_call _ cl135 rfl rfl rfl rfl ⟨rfl, rfl⟩ (fun A w hW => toGroup_c _ _ w ⟨hW.get 2 rfl (.ofR (groupsO_0 h xs k hlt)), trivial⟩ (hb _ (List.getElem_mem hlt))) ?_
     rintro v L ⟨y0, rfl, rfl⟩
     generalize hx : (⟨xs[k].m, y0⟩ : GroupH) = x
     have hxm : x.m = xs[k].m := by rw [← hx]
     have hT : (ys ++ List.replicate (xs.length - k) GroupH0).set k x = (ys ++ [x]) ++ List.replicate (xs.length - (k + 1)) GroupH0 := by
       rw [List.set_append_right _ _ (by omega), show k - ys.length = 0 by omega, show xs.length - k = (xs.length - (k + 1)) + 1 by omega, List.replicate_succ, List.append_assoc]
       rfl
     generalize hq : (ys ++ List.replicate (xs.length - k) GroupH0) = Q at hT hlt2
     refine stop_idxW encGroupH 1 tabOk rfl rfl rfl rfl rfl ⟨rfl, rfl⟩ rfl z90 k rfl hlt2 (fun g1 hg1 => ?_)
     refine stop_storeW encGroupH 1 tabOk rfl rfl rfl rfl rfl rfl rfl rfl hg1 k 0 x rfl hlt2 rfl (cGroupH x) (fun _ => by rw [← hx]; rfl) z76 ?_
     have hw := e_succ k _ hlt (by omega)
     refine ⟨⟨(k + 1, ys ++ [x]), hlt, by rw [List.map_append]; exact map_take_succ hlt hy hxm⟩, ?_, by simp only; omega⟩
     refine weak_shift (.joinO [1, 2] (Gs := [[_], _]) z138 rfl (G := (ys ++ [x]).flatMap groupO) (by subst hx; rw [List.flatMap_append]; exact (List.Perm.of_eq (by simp [groupO])).trans List.perm_append_comm)) ?_
     exact weak_mk [1, 0, 2] zw6 zw0 zw6 zw5 zw13 rfl rfl
   · have hge : xs.length ≤ k := by simpa using g
     have hT : ys ++ List.replicate (xs.length - k) GroupH0 = ys := by rw [show xs.length - k = 0 by omega]; simp
     simp only [hT]
     refine ret_shift (.joinO [0, 1] (Gs := [[_], _]) z138 rfl (G := groupsO y ys) (.of_eq (by simp [groupsO, nestO]))) ?_
     exact retw [0] ⟨y, ys, rfl, by rw [hy, List.take_of_length_le z97], rfl⟩ z146 rfl ⟨rfl, trivial⟩ (fun _ => rfl)
set_option maxRecDepth 100000 in
theorem eqGroupS_c (h h2 : Sl) (xs ys : List GroupH) (w : World) (hh : At w [fR (groupsO h xs), fR (groupsO h2 ys)]) (hl : xs.length ≤ 1048576) (hb : ∀ x ∈ xs, Group.small20 x.m) (hb2 : ∀ x ∈ ys, Group.small20 x.m) :
   Calls Tryz.prog 79 #[h.val xs.length, h2.val ys.length] w (Ret w fun v L => v = .bool (decide (xs.map (·.m) = ys.map (·.m))) ∧ L = []) := by
 refine calls2 Tryz.func79 rfl tabOk w _ rfl _ rfl _ hh ⟨rfl, rfl, rfl, rfl, trivial⟩ _ _ (by decide) ?_
 apply CaseB.mk <;> intro g
 · have hne : xs.map (·.m) ≠ ys.map (·.m) := fun e => by
     have := congrArg List.length e
     simp at this g
     omega
   refine ret0 ⟨?_, rfl⟩ (fun _ => rfl)
   simp [hne]
 · have hll : xs.length = ys.length := by simp at g; omega
   refine LoopW.mk ⟨{ k : Nat // k ≤ xs.length ∧ (xs.map (·.m)).take k = (ys.map (·.m)).take k },
     fun p => .mk [(0, .v (h.val xs.length)), (1, .v (h2.val ys.length)), (5, .v (.int .i64 p.1))] 0 0 [] [] [fR (groupsO h xs), fR (groupsO h2 ys)],
     fun p => xs.length - p.1, ⟨0, Nat.zero_le _, rfl⟩, ?_, ?_⟩
   · exact weak_mk [0, 1] zw2 zw0 zw2 zw5 zw4 rfl rfl
   · rintro ⟨k, hk, he⟩
     refine CaseB.mk (fun g2 => ?_) (fun g2 => ?_)
     · have hlt : k < xs.length := by simpa using g2
       have hlt2 : k < ys.length := by omega
       obtain ⟨q1, q2⟩ := take_eq_succ he z99 z95
       simp only [List.getElem_map] at q1 q2
       refine draw_start tabOk z107 z107 z107 200 [] [0, 1] [_, _] trivial trivial ⟨rfl, rfl, trivial⟩ rfl ?_
       refine d_idx (ti := tiOf tab) encGroupH tabOk rfl rfl rfl rfl rfl ⟨rfl, rfl⟩ (rdVia 0 rfl (.ofR nest_h)) k rfl z47 (fun ad => ?_)
       refine d_idx (ti := tiOf tab) encGroupH tabOk rfl rfl rfl rfl rfl ⟨rfl, rfl⟩ (rdVia 1 rfl (.ofR nest_h)) k rfl z47 (fun ad2 => ?_)
       refine d_call _ cl148 rfl rfl rfl rfl ⟨rfl, rfl⟩ (fun A w hW => eqGroup_c _ _ _ _ w ⟨hW.get 0 rfl (.ofR (groupsO_0 h xs k hlt)), hW.get 1 rfl (.ofR (groupsO_0 h2 ys k hlt2)), trivial⟩ (hb _ (List.getElem_mem hlt)) (hb2 _ (List.getElem_mem hlt2))) ?_
       rintro v L ⟨rfl, rfl⟩
       refine CaseB.mk (fun g3 => ?_) (fun g3 => ?_)
       · have hne := q2 z100
         refine ret0 ⟨?_, rfl⟩ (fun _ => rfl)
         simp [hne]
       · have heq := q1 z100
         have hw := e_succ k _ hlt (by omega)
         refine ⟨⟨k + 1, by omega, heq⟩, ?_, by simp; omega⟩
         exact weak_mk [0, 1] zw1 zw0 zw1 zw5 zw3 rfl rfl
     · have hge : xs.length ≤ k := by simpa using g2
       have heq : xs.map (·.m) = ys.map (·.m) := by rw [List.take_of_length_le z97, List.take_of_length_le z106] at he; exact he
       refine ret0 ⟨?_, rfl⟩ (fun _ => rfl)
       simp [heq]
def Barrier.small20 (m : Barrier) : Prop := m.waits.length ≤ 1048576
def szBarrierM (m : Barrier) (left : Int) : Int := szStep m.waits.length left fun a0 => a0
theorem szBarrierM_gen (m : Barrier) (l : Int) (hl : l ≤ 1048576) (h : ¬ szBarrierM m l < 0) : m.small20 ∧ szBarrierM m l ≤ l := by
 simp only [szBarrierM, szStep, szN] at h ⊢
 simp only [Barrier.small20]
 omega
set_option maxRecDepth 100000 in
theorem szBarrier_c (m : Barrier) (s0 : Sl) (left : Int) (w : World) (h : At w [slo s0 cInt 1 m.waits]) (h0 : -1 ≤ left) (h1 : left ≤ 1048576) :
   Calls Tryz.prog 118 #[barrierV m s0, .int .i64 left] w (Ret w fun v L => v = .int .i64 (szBarrierM m left) ∧ L = []) := by
 refine calls2 Tryz.func118 rfl tabOk w _ rfl _ rfl _ h ⟨rfl, rfl, trivial⟩ _ _ (by decide) ?_
 refine stop_call _ cl44 rfl rfl rfl rfl ⟨rfl, rfl⟩ (fun A w hW => szIntS_c s0 m.waits left w ⟨z39, trivial⟩ h0 h1) ?_
 rintro v L ⟨rfl, rfl⟩
 refine CaseB.mk (fun g0 => ?_) (fun g0 => ?_)
 · have q : szN m.waits.length (left) < 0 := by simpa using g0
   refine ret0 ⟨?_, rfl⟩ (fun _ => rfl)
   simp [szBarrierM, szStep, q]
 have q0 : ¬ szN m.waits.length (left) < 0 := by simpa using g0
 refine ret0 ⟨?_, rfl⟩ (fun _ => rfl)
 simp [szBarrierM, szStep, q0]
set_option maxRecDepth 100000 in
theorem toBarrier_c (m : Barrier) (s0 : Sl) (w : World) (h : At w [slo s0 cInt 1 m.waits]) (hb : m.small20) :
   Calls Tryz.prog 136 #[barrierV m s0] w (Ret w fun v L => ∃ y0 : Sl, v = barrierV m y0 ∧ L = [own y0 3 cInt 1 m.waits]) := by
 have b0 := hb
 unfold Barrier.small20 at b0
 refine calls1 Tryz.func136 rfl tabOk w _ rfl _ rfl _ h ⟨rfl, rfl, trivial⟩ _ (by decide) ?_
 refine stop_call _ cl40 rfl rfl rfl rfl ⟨rfl, rfl⟩ (fun A w hW => toIntS_c s0 m.waits w ⟨z39, trivial⟩ b0) ?_
 rintro v L ⟨y0, rfl, rfl⟩
 exact retw [0] ⟨y0, rfl, rfl⟩ z146 rfl ⟨rfl, trivial⟩ (fun _ => rfl)
set_option maxRecDepth 100000 in
theorem eqBarrier_c (m m2 : Barrier) (s0 u0 : Sl) (w : World) (h : At w [slo s0 cInt 1 m.waits, slo u0 cInt 1 m2.waits]) (hb : m.small20) (hb2 : m2.small20) :
   Calls Tryz.prog 149 #[barrierV m s0, barrierV m2 u0] w (Ret w fun v L => v = .bool (decide (m = m2)) ∧ L = []) := by
 have hx : ∀ {a b : Barrier}, a = b ↔ a.parties = b.parties ∧ a.round = b.round ∧ a.waits = b.waits := fun {a b} => ⟨fun h => by subst h; exact ⟨rfl, rfl, rfl⟩, fun h => by cases a; cases b; simp_all⟩
 have b0 := hb
 unfold Barrier.small20 at b0
 have c0 := hb2
 unfold Barrier.small20 at c0
 refine calls2 Tryz.func149 rfl tabOk w _ rfl _ rfl _ h ⟨rfl, rfl, rfl, rfl, trivial⟩ _ _ (by decide) ?_
 refine CaseB.mk (fun h0 => ?_) (fun h0 => ?_)
 · have g : ¬ m = m2 := fun e => by subst e; simp at h0
   exact ret0 ⟨by simp [g], rfl⟩ (fun _ => rfl)
 refine CaseB.mk (fun h1 => ?_) (fun h1 => ?_)
 · have g : ¬ m = m2 := fun e => by subst e; simp at h1
   exact ret0 ⟨by simp [g], rfl⟩ (fun _ => rfl)
 refine stop_call _ cl36 rfl rfl rfl rfl ⟨rfl, rfl⟩ (fun A w hW => eqIntS_c s0 u0 m.waits m2.waits w ⟨z39, z39, trivial⟩ (by omega) (by omega)) ?_
 rintro v L ⟨rfl, rfl⟩
 refine CaseB.mk (fun h2 => ?_) (fun h2 => ?_)
 · have g : ¬ m = m2 := fun e => by subst e; simp at h2
   exact ret0 ⟨by simp [g], rfl⟩ (fun _ => rfl)
 have g : m = m2 := hx.2 ⟨by simpa using h0, by simpa using h1, by simpa using h2⟩
 exact ret0 ⟨by simp [g], rfl⟩ (fun _ => rfl)
set_option maxRecDepth 100000 in
theorem szBarrierS_c (h : Sl) (xs : List BarrierH) (left : Int) (w : World) (hh : At w [fR (barriersO h xs)]) (h0 : -1 ≤ left) (h1 : left ≤ 1048576) :
   Calls Tryz.prog 49 #[h.val xs.length, .int .i64 left] w (Ret w fun v L => v = .int .i64 (szAll szBarrierM (xs.map (·.m)) left) ∧ L = []) := by
 have hrd := (Rd.ofR (nest_h (xs := xs))).p w hh.1.1
 obtain ⟨_, b1, b2, _⟩ := hrd
 unfold maxLen at b2
 have e : IntKind.i64.wrap (left - (xs.length : Int)) = left - xs.length := e_wrap (by omega) (by omega)
 refine calls2 Tryz.func49 rfl tabOk w _ rfl _ rfl _ hh ⟨rfl, rfl, trivial⟩ _ _ (by decide) ?_
 apply CaseB.mk <;> intro g
 · rw [e] at g
   have g2 : left - (xs.length : Int) < 0 := by simpa using g
   exact ret0 ⟨by simp [szAll, g2], rfl⟩ (fun _ => rfl)
 · rw [e] at g
   have g2 : ¬ left - (xs.length : Int) < 0 := by simpa using g
   refine LoopW.mk ⟨{ p : Nat × Int // p.1 ≤ xs.length ∧ szList szBarrierM ((xs.map (·.m)).drop p.1) p.2 = szAll szBarrierM (xs.map (·.m)) left ∧ -1 ≤ p.2 ∧ p.2 ≤ 1048576 },
     fun p => .mk [(0, .v (h.val xs.length)), (1, .v (.int .i64 p.1.2)), (5, .v (.int .i64 (p.1.1 : Int)))] 0 0 [] [] [fR (barriersO h xs)],
     fun p => xs.length - p.1.1, ⟨(0, left - xs.length), Nat.zero_le _, by simp [szAll, g2], by omega, by omega⟩, ?_, ?_⟩
   · exact weak_mk [0] zw12 zw0 zw12 zw5 zw26 rfl rfl
   · rintro ⟨⟨k, l⟩, hk, hl, hl0, hl1⟩
     simp only at hk hl hl0 hl1
     refine CaseB.mk (fun g3 => ?_) (fun g3 => ?_)
     · have hlt : k < xs.length := by simpa using g3
       rw [List.drop_eq_getElem_cons z99] at hl
       simp only [szList, List.getElem_map] at hl
       refine stop_idx encBarrierH tabOk rfl rfl rfl rfl rfl ⟨rfl, rfl⟩ (rdVia 0 rfl (.ofR nest_h)) k rfl z47 (fun ad => ?_)
       refine stop_call _ cl118 rfl rfl rfl rfl ⟨rfl, rfl⟩ (fun A w hW => szBarrier_c _ _ _ w ⟨hW.get 0 rfl (.ofR (barriersO_0 h xs k hlt)), trivial⟩ hl0 hl1) ?_
       rintro v L ⟨rfl, rfl⟩
       refine CaseB.mk (fun g4 => ?_) (fun g4 => ?_)
       · have q : szBarrierM xs[k].m l < 0 := by simpa using g4
         rw [if_pos q] at hl
         exact ret0 ⟨by rw [← hl], rfl⟩ (fun _ => rfl)
       · have q : ¬ szBarrierM xs[k].m l < 0 := by simpa using g4
         rw [if_neg q] at hl
         have q2 := (szBarrierM_gen xs[k].m l hl1 q).2
         have hw := e_succ k _ hlt (by omega)
         refine ⟨⟨(k + 1, szBarrierM xs[k].m l), hlt, hl, by omega, by omega⟩, ?_, by simp only; omega⟩
         exact weak_mk [0] zw1 zw0 zw1 zw5 zw3 rfl rfl
     · have hge : xs.length ≤ k := by simpa using g3
       rw [List.drop_eq_nil_of_le z97] at hl
       exact ret0 ⟨congrArg (Value.int .i64) hl, rfl⟩ (fun _ => rfl)
def BarrierH0 : BarrierH := ⟨⟨0, 0, []⟩, ⟨none, 0⟩⟩
set_option maxRecDepth 100000 in
theorem toBarrierS_c (h : Sl) (xs : List BarrierH) (w : World) (hh : At w [fR (barriersO h xs)]) (hl : xs.length ≤ 1048576) (hb : ∀ x ∈ xs, Barrier.small20 x.m) :
   Calls Tryz.prog 58 #[h.val xs.length] w (Ret w fun v L => ∃ (y : Sl) (ys : List BarrierH), v = y.val ys.length ∧ ys.map (·.m) = xs.map (·.m) ∧ L = [fO (barriersO y ys)]) := by
 refine calls1 Tryz.func58 rfl tabOk w _ rfl _ rfl _ hh ⟨rfl, rfl, trivial⟩ _ (by decide) ?_
 refine stop_make encBarrierH BarrierH0 tabOk rfl rfl rfl rfl rfl (by decide) ⟨rfl, rfl⟩ xs.length rfl z47 z47 (fun y => ?_)
 refine LoopW.mk ⟨{ p : Nat × List BarrierH // p.1 ≤ xs.length ∧ p.2.map (·.m) = (xs.map (·.m)).take p.1 },
   fun p => .mk [(0, .v (h.val xs.length)), (3, .v (y.val (p.1.2 ++ List.replicate (xs.length - p.1.1) BarrierH0).length)), (4, .v (.int .i64 (p.1.1 : Int)))] 0 0 [] [] [own y 114 cBarrierH 3 (p.1.2 ++ List.replicate (xs.length - p.1.1) BarrierH0), fO (p.1.2.flatMap barrierO), fR (barriersO h xs)],
   fun p => xs.length - p.1.1, ⟨(0, []), Nat.zero_le _, by simp⟩, ?_, ?_⟩
 · refine weak_shift (.joinO [] (Gs := []) trivial rfl (.refl _)) ?_
   exact weak_mk [1, 0, 2] zw8 zw0 zw8 zw5 zw17 rfl rfl
 · rintro ⟨⟨k, ys⟩, hk, hy⟩
   simp only at hk hy
   have hyl : ys.length = k := by have := congrArg List.length hy; simp at this; omega
   apply CaseB.mk <;> intro g
   · have hlt : k < xs.length := by simpa using g
     have hlt2 : k < (ys ++ List.replicate (xs.length - k) BarrierH0).length := by simp; omega
     refine stop_idx encBarrierH tabOk rfl rfl rfl rfl rfl ⟨rfl, rfl⟩ (rdVia 2 rfl (.ofR nest_h)) k rfl z47 (fun ad => ?_)
     refine stop_call _ cl136 rfl rfl rfl rfl ⟨rfl, rfl⟩ (fun A w hW => toBarrier_c _ _ w ⟨hW.get 2 rfl (.ofR (barriersO_0 h xs k hlt)), trivial⟩ (hb _ (List.getElem_mem hlt))) ?_
     rintro v L ⟨y0, rfl, rfl⟩
     generalize hx : (⟨xs[k].m, y0⟩ : BarrierH) = x
     have hxm : x.m = xs[k].m := by rw [← hx]
     have hT : (ys ++ List.replicate (xs.length - k) BarrierH0).set k x = (ys ++ [x]) ++ List.replicate (xs.length - (k + 1)) BarrierH0 := by
       rw [List.set_append_right _ _ (by omega), show k - ys.length = 0 by omega, show xs.length - k = (xs.length - (k + 1)) + 1 by omega, List.replicate_succ, List.append_assoc]
       rfl
     generalize hq : (ys ++ List.replicate (xs.length - k) BarrierH0) = Q at hT hlt2
     refine stop_idxW encBarrierH 1 tabOk rfl rfl rfl rfl rfl ⟨rfl, rfl⟩ rfl z90 k rfl hlt2 (fun g1 hg1 => ?_)
     refine stop_storeW encBarrierH 1 tabOk rfl rfl rfl rfl rfl rfl rfl rfl hg1 k 0 x rfl hlt2 rfl (cBarrierH x) (fun _ => by rw [← hx]; rfl) z76 ?_
     have hw := e_succ k _ hlt (by omega)
     refine ⟨⟨(k + 1, ys ++ [x]), hlt, by rw [List.map_append]; exact map_take_succ hlt hy hxm⟩, ?_, by simp only; omega⟩
     refine weak_shift (.joinO [1, 2] (Gs := [[_], _]) z138 rfl (G := (ys ++ [x]).flatMap barrierO) (by subst hx; rw [List.flatMap_append]; exact (List.Perm.of_eq (by simp [barrierO])).trans List.perm_append_comm)) ?_
     exact weak_mk [1, 0, 2] zw6 zw0 zw6 zw5 zw13 rfl rfl
   · have hge : xs.length ≤ k := by simpa using g
     have hT : ys ++ List.replicate (xs.length - k) BarrierH0 = ys := by rw [show xs.length - k = 0 by omega]; simp
     simp only [hT]
     refine ret_shift (.joinO [0, 1] (Gs := [[_], _]) z138 rfl (G := barriersO y ys) (.of_eq z91)) ?_
     exact retw [0] ⟨y, ys, rfl, by rw [hy, List.take_of_length_le z97], rfl⟩ z146 rfl ⟨rfl, trivial⟩ (fun _ => rfl)
set_option maxRecDepth 100000 in
theorem eqBarrierS_c (h h2 : Sl) (xs ys : List BarrierH) (w : World) (hh : At w [fR (barriersO h xs), fR (barriersO h2 ys)]) (hl : xs.length ≤ 1048576) (hb : ∀ x ∈ xs, Barrier.small20 x.m) (hb2 : ∀ x ∈ ys, Barrier.small20 x.m) :
   Calls Tryz.prog 80 #[h.val xs.length, h2.val ys.length] w (Ret w fun v L => v = .bool (decide (xs.map (·.m) = ys.map (·.m))) ∧ L = []) := by
 refine calls2 Tryz.func80 rfl tabOk w _ rfl _ rfl _ hh ⟨rfl, rfl, rfl, rfl, trivial⟩ _ _ (by decide) ?_
 apply CaseB.mk <;> intro g
 · have hne : xs.map (·.m) ≠ ys.map (·.m) := fun e => by
     have := congrArg List.length e
     simp at this g
     omega
   refine ret0 ⟨?_, rfl⟩ (fun _ => rfl)
   simp [hne]
 · have hll : xs.length = ys.length := by simp at g; omega
   refine LoopW.mk ⟨{ k : Nat // k ≤ xs.length ∧ (xs.map (·.m)).take k = (ys.map (·.m)).take k },
     fun p => .mk [(0, .v (h.val xs.length)), (1, .v (h2.val ys.length)), (5, .v (.int .i64 p.1))] 0 0 [] [] [fR (barriersO h xs), fR (barriersO h2 ys)],
     fun p => xs.length - p.1, ⟨0, Nat.zero_le _, rfl⟩, ?_, ?_⟩
   · exact weak_mk [0, 1] zw2 zw0 zw2 zw5 zw4 rfl rfl
   · rintro ⟨k, hk, he⟩
     refine CaseB.mk (fun g2 => ?_) (fun g2 => ?_)
     · have hlt : k < xs.length := by simpa using g2
       have hlt2 : k < ys.length := by omega
       obtain ⟨q1, q2⟩ := take_eq_succ he z99 z95
       simp only [List.getElem_map] at q1 q2
       refine draw_start tabOk z107 z107 z107 200 [] [0, 1] [_, _] trivial trivial ⟨rfl, rfl, trivial⟩ rfl ?_
       refine d_idx (ti := tiOf tab) encBarrierH tabOk rfl rfl rfl rfl rfl ⟨rfl, rfl⟩ (rdVia 0 rfl (.ofR nest_h)) k rfl z47 (fun ad => ?_)
       refine d_idx (ti := tiOf tab) encBarrierH tabOk rfl rfl rfl rfl rfl ⟨rfl, rfl⟩ (rdVia 1 rfl (.ofR nest_h)) k rfl z47 (fun ad2 => ?_)
       refine d_call _ cl149 rfl rfl rfl rfl ⟨rfl, rfl⟩ (fun A w hW => eqBarrier_c _ _ _ _ w ⟨hW.get 0 rfl (.ofR (barriersO_0 h xs k hlt)), hW.get 1 rfl (.ofR (barriersO_0 h2 ys k hlt2)), trivial⟩ (hb _ (List.getElem_mem hlt)) (hb2 _ (List.getElem_mem hlt2))) ?_
       rintro v L ⟨rfl, rfl⟩
       refine CaseB.mk (fun g3 => ?_) (fun g3 => ?_)
       · have hne := q2 z100
         refine ret0 ⟨?_, rfl⟩ (fun _ => rfl)
         simp [hne]
       · have heq := q1 z100
         have hw := e_succ k _ hlt (by omega)
         refine ⟨⟨k + 1, by omega, heq⟩, ?_, by simp; omega⟩
         exact weak_mk [0, 1] zw1 zw0 zw1 zw5 zw3 rfl rfl
     · have hge : xs.length ≤ k := by simpa using g2
       have heq : xs.map (·.m) = ys.map (·.m) := by rw [List.take_of_length_le z97, List.take_of_length_le z106] at he; exact he
       refine ret0 ⟨?_, rfl⟩ (fun _ => rfl)
       simp [heq]
theorem encLetter : Enc cLet 2 := encLet
def Letter0 : Letter := ⟨0, 0⟩
set_option maxRecDepth 100000 in
theorem szLetterS_c (i : Sl) (xs : List Letter) (left : Int) (w : World) (h : At w [slo i cLet 2 xs]) (h0 : -1 ≤ left) (h1 : left ≤ 1048576) :
   Calls Tryz.prog 180 #[i.val xs.length, .int .i64 left] w (Ret w fun v L => v = .int .i64 (szN xs.length left) ∧ L = []) := by
 obtain ⟨⟨⟨_, b1, b2, _⟩, _⟩, _⟩ := h
 unfold maxLen at b2
 have e : IntKind.i64.wrap (left - (xs.length : Int)) = left - xs.length := e_wrap (by omega) (by omega)
 refine calls2 Tryz.func180 rfl tabOk w _ rfl _ rfl [] trivial trivial _ _ (by decide) ?_
 refine CaseB.mk (fun h => ?_) (fun h => ?_)
 · rw [e] at h
   have h2 : left - (xs.length : Int) < 0 := by simpa using h
   exact ret0 ⟨by rw [szN, if_pos h2], rfl⟩ (fun _ => rfl)
 · rw [e] at h
   have h2 : ¬ left - (xs.length : Int) < 0 := by simpa using h
   refine ret0 ⟨by rw [szN, if_neg h2], rfl⟩ (fun _ => ?_)
   simp only [resV, SV.den, e]
set_option maxRecDepth 100000 in
theorem toLetter_c (x : Letter) (w : World) : Calls Tryz.prog 206 #[.agg (cLet x).toArray] w (Ret w fun v L => v = .agg (cLet x).toArray ∧ L = []) := by
 refine calls1 Tryz.func206 rfl tabOk w _ rfl _ rfl [] trivial trivial _ (by decide) ?_
 exact ret0 ⟨rfl, rfl⟩ (fun _ => rfl)
set_option maxRecDepth 100000 in
theorem toLetterS_c (i : Sl) (xs : List Letter) (w : World) (h : At w [slo i cLet 2 xs]) (hb : xs.length ≤ 1048576) :
   Calls Tryz.prog 191 #[i.val xs.length] w (Ret w fun v L => ∃ y : Sl, v = y.val xs.length ∧ L = [own y 196 cLet 2 xs]) := by
 refine calls1 Tryz.func191 rfl tabOk w _ rfl _ rfl _ h ⟨rfl, rfl, trivial⟩ _ (by decide) ?_
 refine stop_make encLetter Letter0 tabOk rfl rfl rfl rfl rfl (by decide) ⟨rfl, rfl⟩ xs.length rfl z47 z47 (fun y => ?_)
 refine LoopW.mk ⟨{ k : Nat // k ≤ xs.length },
   fun k => .mk [(0, .v (i.val xs.length)), (3, .v (y.val (xs.take k.1 ++ List.replicate (xs.length - k.1) Letter0).length)), (4, .v (.int .i64 (k.1 : Int)))] 0 0 [] [] [own y 196 cLet 2 (xs.take k.1 ++ List.replicate (xs.length - k.1) Letter0), slo i cLet 2 xs],
   fun k => xs.length - k.1, ⟨0, Nat.zero_le _⟩, ?_, ?_⟩
 · exact weak_mk [0, 1] zw8 zw0 zw8 zw5 zw17 rfl rfl
 · rintro ⟨k, hk⟩
   refine CaseB.mk (fun h => ?_) (fun h => ?_)
   · have hlt : k < xs.length := by simpa using h
     have hT : (xs.take k ++ List.replicate (xs.length - k) Letter0).set k xs[k] = xs.take (k + 1) ++ List.replicate (xs.length - (k + 1)) Letter0 := by
       rw [List.set_append_right _ _ z106, List.take_succ_eq_append_getElem hlt, show k - (List.take k xs).length = 0 by simp; omega, show xs.length - k = (xs.length - (k + 1)) + 1 by omega, List.replicate_succ, List.append_assoc]
       rfl
     refine stop_idx encLetter tabOk rfl rfl rfl rfl rfl ⟨rfl, rfl⟩ z40 k rfl z47 (fun ad => ?_)
     refine stop_call _ cl206 rfl rfl rfl rfl ⟨rfl, rfl⟩ (fun A w hW => toLetter_c _ w) ?_
     rintro v L ⟨rfl, rfl⟩
     refine stop_idxW encLetter 0 tabOk rfl rfl rfl rfl rfl ⟨rfl, rfl⟩ rfl z90 k rfl z47 (fun g hg => ?_)
     refine stop_storeW encLetter 0 tabOk rfl rfl rfl rfl rfl rfl rfl rfl hg k 0 (xs[k]) rfl z47 rfl (cLet xs[k]) (fun _ => rfl) rfl ?_
     have hw := e_succ k _ hlt (by omega)
     refine ⟨⟨k + 1, by omega⟩, ?_, by simp; omega⟩
     exact weak_mk [0, 1] zw6 zw0 zw6 zw5 zw13 rfl rfl
   · have hge : xs.length ≤ k := by simpa using h
     have hT : xs.take k ++ List.replicate (xs.length - k) Letter0 = xs := by rw [List.take_of_length_le hge, show xs.length - k = 0 by omega]; simp
     exact retw [0] ⟨y, rfl, rfl⟩ z147 rfl ⟨rfl, trivial⟩ (fun _ => z82)
set_option maxRecDepth 100000 in
theorem eqLetter_c (x y : Letter) (w : World) : Calls Tryz.prog 208 #[.agg (cLet x).toArray, .agg (cLet y).toArray] w (Ret w fun v L => v = .bool (decide (x = y)) ∧ L = []) := by
 have hx : ∀ {a b : Letter}, a = b ↔ a.t = b.t ∧ a.v = b.v := fun {a b} => ⟨fun h => by subst h; exact ⟨rfl, rfl⟩, fun h => by cases a; cases b; simp_all⟩
 refine calls2 Tryz.func208 rfl tabOk w _ rfl _ rfl [] trivial trivial _ _ (by decide) ?_
 refine CaseB.mk (fun h0 => ?_) (fun h0 => ?_)
 · have g : ¬ x = y := fun e => by subst e; simp at h0
   exact ret0 ⟨by simp [g], rfl⟩ (fun _ => rfl)
 refine CaseB.mk (fun h1 => ?_) (fun h1 => ?_)
 · have g : ¬ x = y := fun e => by subst e; simp at h1
   exact ret0 ⟨by simp [g], rfl⟩ (fun _ => rfl)
 · have g : x = y := hx.2 ⟨by simpa using h0, by simpa using h1⟩
   exact ret0 ⟨by simp [g], rfl⟩ (fun _ => rfl)
set_option maxRecDepth 100000 in
theorem eqLetterS_c (i j : Sl) (xs ys : List Letter) (w : World) (h : At w [slo i cLet 2 xs, slo j cLet 2 ys]) (hb : xs.length ≤ 4294967296) (hb2 : ys.length ≤ 4294967296) :
   Calls Tryz.prog 195 #[i.val xs.length, j.val ys.length] w (Ret w fun v L => v = .bool (decide (xs = ys)) ∧ L = []) := by
 refine calls2 Tryz.func195 rfl tabOk w _ rfl _ rfl _ h ⟨rfl, rfl, rfl, rfl, trivial⟩ _ _ (by decide) ?_
 refine CaseB.mk (fun h => ?_) (fun h => ?_)
 · have hne : xs ≠ ys := by rintro rfl; simp at h
   refine ret0 ⟨?_, rfl⟩ (fun _ => rfl)
   simp [hne]
 · have hl : xs.length = ys.length := by simp at h; omega
   refine LoopW.mk ⟨{ k : Nat // k ≤ xs.length ∧ xs.take k = ys.take k },
     fun p => .mk [(0, .v (i.val xs.length)), (1, .v (j.val ys.length)), (5, .v (.int .i64 p.1))] 0 0 [] [] [slo i cLet 2 xs, slo j cLet 2 ys],
     fun p => xs.length - p.1, ⟨0, Nat.zero_le _, rfl⟩, ?_, ?_⟩
   · exact weak_mk [0, 1] zw2 zw0 zw2 zw5 zw4 rfl rfl
   · rintro ⟨k, hk, he⟩
     refine CaseB.mk (fun h => ?_) (fun h => ?_)
     · have hlt : k < xs.length := by simpa using h
       have hlt2 : k < ys.length := by omega
       obtain ⟨q1, q2⟩ := e_take he hlt hlt2
       refine draw_start tabOk z107 z107 z107 200 [] [0, 1] [_, _] trivial trivial ⟨rfl, rfl, trivial⟩ rfl ?_
       refine d_idx (ti := tiOf tab) encLetter tabOk rfl rfl rfl rfl rfl ⟨rfl, rfl⟩ z40 k rfl z47 (fun ad => ?_)
       refine d_idx (ti := tiOf tab) encLetter tabOk rfl rfl rfl rfl rfl ⟨rfl, rfl⟩ z40 k rfl z47 (fun ad2 => ?_)
       refine d_call _ cl208 rfl rfl rfl rfl ⟨rfl, rfl⟩ (fun A w hW => eqLetter_c _ _ w) ?_
       rintro v L ⟨rfl, rfl⟩
       refine CaseB.mk (fun h => ?_) (fun h => ?_)
       · have hne := q2 z101
         refine ret0 ⟨?_, rfl⟩ (fun _ => rfl)
         simp [hne]
       · have heq := q1 z101
         have hw := e_succ k _ hlt (by omega)
         refine ⟨⟨k + 1, by omega, heq⟩, ?_, by simp; omega⟩
         exact weak_mk [0, 1] zw1 zw0 zw1 zw5 zw3 rfl rfl
     · have hge : xs.length ≤ k := by simpa using h
       have heq : xs = ys := by rw [List.take_of_length_le hge, List.take_of_length_le (by omega)] at he; exact he
       refine ret0 ⟨?_, rfl⟩ (fun _ => rfl)
       simp [heq]
def markLetter (k : Nat) : Letter := ⟨((k : Nat) : Int), ((k + 1 : Nat) : Int)⟩
def marksLetter (k : Nat) : Nat → List Letter
 | 0 => []
 | n + 1 => markLetter k :: marksLetter (k + 2) n
theorem marksLetter_len (k n : Nat) : (marksLetter k n).length = n := by
 induction n generalizing k with
 | zero => rfl
 | succ n ih => simp [marksLetter, ih]
theorem marksLetter_get (k n j : Nat) (hj : j < n) : (marksLetter k n)[j]? = some (markLetter (k + 2 * j)) := by
 induction n generalizing k j with
 | zero => omega
 | succ n ih =>
   cases j with
   | zero => simp [marksLetter]
   | succ j => simp only [marksLetter, List.getElem?_cons_succ]; rw [ih (k + 2) j (by omega)]; congr 2; omega
theorem marksLetter_set (xs : List Letter) (k j : Nat) (hj : j < xs.length) : (marksLetter k j ++ xs.drop j).set j (markLetter (k + 2 * j)) = marksLetter k (j + 1) ++ xs.drop (j + 1) := by
 have h1 : marksLetter k (j + 1) = marksLetter k j ++ [markLetter (k + 2 * j)] := by
   apply List.ext_getElem?
   intro q
   rcases Nat.lt_or_ge q j with hq | hq
   · rw [List.getElem?_append_left (by rw [marksLetter_len]; exact hq), marksLetter_get _ _ _ hq, marksLetter_get _ _ _ (by omega)]
   · rcases Nat.eq_or_lt_of_le hq with rfl | hq
     · rw [marksLetter_get _ _ _ (by omega), List.getElem?_append_right (by rw [marksLetter_len]; exact Nat.le_refl _), marksLetter_len]; simp
     · rw [List.getElem?_eq_none (by rw [marksLetter_len]; omega), List.getElem?_eq_none (by simp [marksLetter_len]; omega)]
 rw [List.set_append_right _ _ (by rw [marksLetter_len]; exact Nat.le_refl _), marksLetter_len, Nat.sub_self, List.drop_eq_getElem_cons hj, h1, List.append_assoc]
 rfl
set_option maxHeartbeats 4000000 in
set_option maxRecDepth 100000 in
theorem markLetterS_c (i : Sl) (xs : List Letter) (k : Nat) (w : World) (h : AtG w [own i 196 cLet 2 xs] []) (hb : xs.length ≤ 1048576) (hk : k ≤ 1152921504606846976) :
   Calls Tryz.prog 154 #[i.val xs.length, .int .i64 (k : Int)] w (RetG w [own i 196 cLet 2 xs] fun v L => v = .int .i64 ((k + 2 * xs.length : Nat) : Int) ∧ L = [own i 196 cLet 2 (marksLetter k xs.length)]) := by
 refine callsG_fn Tryz.func154 rfl tabOk w _ rfl _ rfl _ _ h trivial _ _ rfl rfl ?_
 refine LoopW.mk ⟨{ j : Nat // j ≤ xs.length },
   fun j => .mk [(0, .v (i.val (marksLetter k j.1 ++ xs.drop j.1).length)), (1, .v (.int .i64 ((k + 2 * j.1 : Nat) : Int))), (5, .v (.int .i64 (j.1 : Int)))] 0 0 [] [] [own i 196 cLet 2 (marksLetter k j.1 ++ xs.drop j.1)],
   fun j => xs.length - j.1, ⟨0, Nat.zero_le _⟩, ?_, ?_⟩
 · refine weak_mk [0] ?_ ?_ ?_ ?_ ?_ rfl rfl
   · exact zw32
   · exact zw0
   · exact zw32
   · exact zw5
   · repeat (first | exact trivial | refine ⟨.inl ⟨_, rfl, (by first | rfl | ((simp [marksLetter])))⟩, ?_⟩ | refine ⟨.inr z142, ?_⟩)
 · rintro ⟨j, hj⟩
   have hl : (marksLetter k j ++ xs.drop j).length = xs.length := by rw [List.length_append, marksLetter_len, List.length_drop]; omega
   refine CaseB.mk (fun h => ?_) (fun h => ?_)
   · have hlt : j < xs.length := by simp only [hl] at h; simpa using h
     have hT := marksLetter_set xs k j hlt
     have hw := e_succ j _ hlt (by omega)
     have hl2 := Nat.lt_of_lt_of_eq hlt hl.symm
     generalize hq : (marksLetter k j ++ xs.drop j) = Q at hl hT hl2
     have hw0 : IntKind.i64.wrap (((k + 2 * j : Nat) : Int) + 1) = ((k + 2 * j + 1 : Nat) : Int) := e_succ (k + 2 * j) (k + 2 * xs.length) (by omega) (by omega)
     have hw1 : IntKind.i64.wrap (((k + 2 * j + 1 : Nat) : Int) + 1) = ((k + 2 * j + 2 : Nat) : Int) := e_succ (k + 2 * j + 1) (k + 2 * xs.length) (by omega) (by omega)
     have hwf : IntKind.i64.wrap (IntKind.i64.wrap (((k + 2 * j : Nat) : Int) + 1) + 1) = ((k + 2 * (j + 1) : Nat) : Int) := by rw [hw0, hw1]; congr 1
     refine stop_idxW encLetter 0 tabOk rfl rfl rfl rfl rfl ⟨rfl, rfl⟩ rfl z90 j rfl hl2 (fun g0 hg0 => ?_)
     refine stop_fldW tabOk rfl rfl rfl rfl ⟨rfl, rfl⟩ ?_
     refine stop_storeW encLetter 0 tabOk rfl rfl rfl rfl rfl rfl rfl rfl hg0 j 0 (⟨((k + 2 * j : Nat) : Int), Q[j].v⟩ : Letter) rfl hl2 rfl [.int .i64 ((k + 2 * j : Nat) : Int)] (fun _ => rfl) (by simp [cLet]) ?_
     refine stop_idxW encLetter 0 tabOk rfl rfl rfl rfl rfl ⟨rfl, rfl⟩ rfl z90 j rfl z98 (fun g1 hg1 => ?_)
     refine stop_fldW tabOk rfl rfl rfl rfl ⟨rfl, rfl⟩ ?_
     refine stop_storeW encLetter 0 tabOk rfl rfl rfl rfl rfl rfl rfl rfl hg1 j 1 (⟨((k + 2 * j : Nat) : Int), ((k + 2 * j + 1 : Nat) : Int)⟩ : Letter) rfl z98 rfl [.int .i64 ((k + 2 * j + 1 : Nat) : Int)] (fun _ => by simp only [List.map_cons, List.map_nil, SV.den, hw0]) (by simp [cLet]) ?_
     have hT2 : ((Q.set j (⟨((k + 2 * j : Nat) : Int), Q[j].v⟩ : Letter)).set j (⟨((k + 2 * j : Nat) : Int), ((k + 2 * j + 1 : Nat) : Int)⟩ : Letter)) = marksLetter k (j + 1) ++ xs.drop (j + 1) := by simp only [List.set_set]; exact hT
     refine ⟨⟨j + 1, by omega⟩, ?_, by simp; omega⟩
     exact weak_mk [0] zw10 zw0 zw10 zw5 zw22 rfl rfl
   · have hge : xs.length ≤ j := by simp only [hl] at h; simpa using h
     have hje : j = xs.length := by omega
     have hT : marksLetter k j ++ xs.drop j = marksLetter k xs.length := by rw [hje]; simp
     exact retG [0] ⟨rfl, rfl⟩ z148 rfl ⟨rfl, trivial⟩ (fun _ => z60)
set_option maxHeartbeats 4000000 in
set_option maxRecDepth 100000 in
theorem heldLetterS_c (i : Sl) (k n : Nat) (w : World) (h : At w [slo i cLet 2 (marksLetter k n)]) (hb : n ≤ 1048576) (hk : k ≤ 1152921504606846976) :
   Calls Tryz.prog 156 #[i.val (marksLetter k n).length, .int .i64 (k : Int)] w (Ret w fun v L => v = .int .i64 ((k + 2 * n : Nat) : Int) ∧ L = []) := by
 refine calls2 Tryz.func156 rfl tabOk w _ rfl _ rfl _ h ⟨rfl, rfl, trivial⟩ _ _ (by decide) ?_
 refine LoopW.mk ⟨{ j : Nat // j ≤ n },
   fun j => .mk [(0, .v (i.val (marksLetter k n).length)), (1, .v (.int .i64 ((k + 2 * j.1 : Nat) : Int))), (5, .v (.int .i64 (j.1 : Int)))] 0 0 [] [] [slo i cLet 2 (marksLetter k n)],
   fun j => n - j.1, ⟨0, Nat.zero_le _⟩, ?_, ?_⟩
 · exact weak_mk [0] zw2 zw0 zw2 zw5 zw4 rfl rfl
 · rintro ⟨j, hj⟩
   refine CaseB.mk (fun h => ?_) (fun h => ?_)
   · have hlt : j < n := by rw [marksLetter_len] at h; simpa using h
     have hlt2 : j < (marksLetter k n).length := by rw [marksLetter_len]; exact hlt
     have hv : (marksLetter k n)[j] = markLetter (k + 2 * j) := by
       have := marksLetter_get k n j hlt
       rw [List.getElem?_eq_getElem hlt2] at this
       injection this
     have hw := e_succ j _ hlt (by omega)
     have hw0 : IntKind.i64.wrap (((k + 2 * j : Nat) : Int) + 1) = ((k + 2 * j + 1 : Nat) : Int) := e_succ (k + 2 * j) (k + 2 * n) (by omega) (by omega)
     have hw1 : IntKind.i64.wrap (((k + 2 * j + 1 : Nat) : Int) + 1) = ((k + 2 * j + 2 : Nat) : Int) := e_succ (k + 2 * j + 1) (k + 2 * n) (by omega) (by omega)
     have hwf : IntKind.i64.wrap (IntKind.i64.wrap (((k + 2 * j : Nat) : Int) + 1) + 1) = ((k + 2 * (j + 1) : Nat) : Int) := by rw [hw0, hw1]; congr 1
     refine stop_idx encLetter tabOk rfl rfl rfl rfl rfl ⟨rfl, rfl⟩ z40 j rfl hlt2 (fun ad0 => ?_)
     refine CaseB.mk (fun h => by simp only [hv] at h; simp [markLetter] at h) (fun h => ?_)
     refine stop_idx encLetter tabOk rfl rfl rfl rfl rfl ⟨rfl, rfl⟩ z40 j rfl hlt2 (fun ad1 => ?_)
     refine CaseB.mk (fun h => by simp only [hv, hw0] at h; simp [markLetter] at h) (fun h => ?_)
     refine ⟨⟨j + 1, by omega⟩, ?_, by simp; omega⟩
     exact weak_mk [0] zw14 zw0 zw14 zw5 zw34 rfl rfl
   · have hge : n ≤ j := by rw [marksLetter_len] at h; simpa using h
     have hje : j = n := by omega
     subst hje
     exact ret0 ⟨rfl, rfl⟩ (fun _ => rfl)
def Chan.small20 (m : Chan) : Prop := m.items.length ≤ 1048576 ∧ m.senders.length ≤ 1048576 ∧ m.getters.length ≤ 1048576
def szChanM (m : Chan) (left : Int) : Int := szStep m.items.length left fun a0 => szStep m.senders.length a0 fun a1 => szStep m.getters.length a1 fun a2 => a2
theorem szChanM_gen (m : Chan) (l : Int) (hl : l ≤ 1048576) (h : ¬ szChanM m l < 0) : m.small20 ∧ szChanM m l ≤ l := by
 simp only [szChanM, szStep, szN] at h ⊢
 simp only [Chan.small20]
 omega
set_option maxRecDepth 100000 in
theorem szChan_c (m : Chan) (s0 s1 s2 : Sl) (left : Int) (w : World) (h : At w [slo s0 cInt 1 m.items, slo s1 cLet 2 m.senders, slo s2 cInt 1 m.getters]) (h0 : -1 ≤ left) (h1 : left ≤ 1048576) :
   Calls Tryz.prog 119 #[chanV m s0 s1 s2, .int .i64 left] w (Ret w fun v L => v = .int .i64 (szChanM m left) ∧ L = []) := by
 refine calls2 Tryz.func119 rfl tabOk w _ rfl _ rfl _ h z143 _ _ (by decide) ?_
 refine stop_call _ cl44 rfl rfl rfl rfl ⟨rfl, rfl⟩ (fun A w hW => szIntS_c s0 m.items left w ⟨z39, trivial⟩ h0 h1) ?_
 rintro v L ⟨rfl, rfl⟩
 refine CaseB.mk (fun g0 => ?_) (fun g0 => ?_)
 · have q : szN m.items.length (left) < 0 := by simpa using g0
   refine ret0 ⟨?_, rfl⟩ (fun _ => rfl)
   simp [szChanM, szStep, q]
 have q0 : ¬ szN m.items.length (left) < 0 := by simpa using g0
 refine stop_call _ cl180 rfl rfl rfl rfl ⟨rfl, rfl⟩ (fun A w hW => szLetterS_c s1 m.senders (szN m.items.length (left)) w ⟨z39, trivial⟩ z83 z83) ?_
 rintro v L ⟨rfl, rfl⟩
 refine CaseB.mk (fun g1 => ?_) (fun g1 => ?_)
 · have q : szN m.senders.length (szN m.items.length (left)) < 0 := by simpa using g1
   refine ret0 ⟨?_, rfl⟩ (fun _ => rfl)
   simp [szChanM, szStep, q, q0]
 have q1 : ¬ szN m.senders.length (szN m.items.length (left)) < 0 := by simpa using g1
 refine stop_call _ cl44 rfl rfl rfl rfl ⟨rfl, rfl⟩ (fun A w hW => szIntS_c s2 m.getters (szN m.senders.length (szN m.items.length (left))) w ⟨z39, trivial⟩ z83 z83) ?_
 rintro v L ⟨rfl, rfl⟩
 refine CaseB.mk (fun g2 => ?_) (fun g2 => ?_)
 · have q : szN m.getters.length (szN m.senders.length (szN m.items.length (left))) < 0 := by simpa using g2
   refine ret0 ⟨?_, rfl⟩ (fun _ => rfl)
   simp [szChanM, szStep, q, q0, q1]
 have q2 : ¬ szN m.getters.length (szN m.senders.length (szN m.items.length (left))) < 0 := by simpa using g2
 refine ret0 ⟨?_, rfl⟩ (fun _ => rfl)
 simp [szChanM, szStep, q0, q1, q2]
set_option maxRecDepth 100000 in
theorem toChan_c (m : Chan) (s0 s1 s2 : Sl) (w : World) (h : At w [slo s0 cInt 1 m.items, slo s1 cLet 2 m.senders, slo s2 cInt 1 m.getters]) (hb : m.small20) :
   Calls Tryz.prog 137 #[chanV m s0 s1 s2] w (Ret w fun v L => ∃ y0 y1 y2 : Sl, v = chanV m y0 y1 y2 ∧ L = [own y0 3 cInt 1 m.items, own y1 196 cLet 2 m.senders, own y2 3 cInt 1 m.getters]) := by
 obtain ⟨b0, b1, b2⟩ := hb
 refine calls1 Tryz.func137 rfl tabOk w _ rfl _ rfl _ h z143 _ (by decide) ?_
 refine stop_call _ cl40 rfl rfl rfl rfl ⟨rfl, rfl⟩ (fun A w hW => toIntS_c s0 m.items w ⟨z39, trivial⟩ b0) ?_
 rintro v L ⟨y0, rfl, rfl⟩
 refine stop_call _ cl191 rfl rfl rfl rfl ⟨rfl, rfl⟩ (fun A w hW => toLetterS_c s1 m.senders w ⟨z39, trivial⟩ b1) ?_
 rintro v L ⟨y1, rfl, rfl⟩
 refine stop_call _ cl40 rfl rfl rfl rfl ⟨rfl, rfl⟩ (fun A w hW => toIntS_c s2 m.getters w ⟨z39, trivial⟩ b2) ?_
 rintro v L ⟨y2, rfl, rfl⟩
 exact retw [2, 1, 0] ⟨y0, y1, y2, rfl, rfl⟩ z131 rfl ⟨rfl, rfl, rfl, trivial⟩ (fun _ => rfl)
set_option maxRecDepth 100000 in
theorem eqChan_c (m m2 : Chan) (s0 s1 s2 u0 u1 u2 : Sl) (w : World) (h : At w [slo s0 cInt 1 m.items, slo s1 cLet 2 m.senders, slo s2 cInt 1 m.getters, slo u0 cInt 1 m2.items, slo u1 cLet 2 m2.senders, slo u2 cInt 1 m2.getters]) (hb : m.small20) (hb2 : m2.small20) :
   Calls Tryz.prog 150 #[chanV m s0 s1 s2, chanV m2 u0 u1 u2] w (Ret w fun v L => v = .bool (decide (m = m2)) ∧ L = []) := by
 have hx : ∀ {a b : Chan}, a = b ↔ a.room = b.room ∧ a.items = b.items ∧ a.senders = b.senders ∧ a.getters = b.getters ∧ a.closed = b.closed := fun {a b} => ⟨fun h => by subst h; exact ⟨rfl, rfl, rfl, rfl, rfl⟩, fun h => by cases a; cases b; simp_all⟩
 obtain ⟨b0, b1, b2⟩ := hb
 obtain ⟨c0, c1, c2⟩ := hb2
 refine calls2 Tryz.func150 rfl tabOk w _ rfl _ rfl _ h ⟨rfl, rfl, rfl, rfl, rfl, rfl, rfl, rfl, rfl, rfl, rfl, rfl, trivial⟩ _ _ (by decide) ?_
 refine CaseB.mk (fun h0 => ?_) (fun h0 => ?_)
 · have g : ¬ m = m2 := fun e => by subst e; simp at h0
   exact ret0 ⟨by simp [g], rfl⟩ (fun _ => rfl)
 refine stop_call _ cl36 rfl rfl rfl rfl ⟨rfl, rfl⟩ (fun A w hW => eqIntS_c s0 u0 m.items m2.items w ⟨z39, z39, trivial⟩ (by omega) (by omega)) ?_
 rintro v L ⟨rfl, rfl⟩
 refine CaseB.mk (fun h1 => ?_) (fun h1 => ?_)
 · have g : ¬ m = m2 := fun e => by subst e; simp at h1
   exact ret0 ⟨by simp [g], rfl⟩ (fun _ => rfl)
 refine stop_call _ cl195 rfl rfl rfl rfl ⟨rfl, rfl⟩ (fun A w hW => eqLetterS_c s1 u1 m.senders m2.senders w ⟨z39, z39, trivial⟩ (by omega) (by omega)) ?_
 rintro v L ⟨rfl, rfl⟩
 refine CaseB.mk (fun h2 => ?_) (fun h2 => ?_)
 · have g : ¬ m = m2 := fun e => by subst e; simp at h2
   exact ret0 ⟨by simp [g], rfl⟩ (fun _ => rfl)
 refine stop_call _ cl36 rfl rfl rfl rfl ⟨rfl, rfl⟩ (fun A w hW => eqIntS_c s2 u2 m.getters m2.getters w ⟨z39, z39, trivial⟩ (by omega) (by omega)) ?_
 rintro v L ⟨rfl, rfl⟩
 refine CaseB.mk (fun h3 => ?_) (fun h3 => ?_)
 · have g : ¬ m = m2 := fun e => by subst e; simp at h3
   exact ret0 ⟨by simp [g], rfl⟩ (fun _ => rfl)
 refine CaseB.mk (fun h4 => ?_) (fun h4 => ?_)
 · have g : ¬ m = m2 := fun e => by subst e; simp at h4
   exact ret0 ⟨by simp [g], rfl⟩ (fun _ => rfl)
 have g : m = m2 := hx.2 ⟨by simpa using h0, by simpa using h1, by simpa using h2, by simpa using h3, by simpa using h4⟩
 exact ret0 ⟨by simp [g], rfl⟩ (fun _ => rfl)
set_option maxRecDepth 100000 in
theorem szChanS_c (h : Sl) (xs : List ChanH) (left : Int) (w : World) (hh : At w [fR (chansO h xs)]) (h0 : -1 ≤ left) (h1 : left ≤ 1048576) :
   Calls Tryz.prog 50 #[h.val xs.length, .int .i64 left] w (Ret w fun v L => v = .int .i64 (szAll szChanM (xs.map (·.m)) left) ∧ L = []) := by
 have hrd := (Rd.ofR (nest_h (xs := xs))).p w hh.1.1
 obtain ⟨_, b1, b2, _⟩ := hrd
 unfold maxLen at b2
 have e : IntKind.i64.wrap (left - (xs.length : Int)) = left - xs.length := e_wrap (by omega) (by omega)
 refine calls2 Tryz.func50 rfl tabOk w _ rfl _ rfl _ hh ⟨rfl, rfl, trivial⟩ _ _ (by decide) ?_
 apply CaseB.mk <;> intro g
 · rw [e] at g
   have g2 : left - (xs.length : Int) < 0 := by simpa using g
   exact ret0 ⟨by simp [szAll, g2], rfl⟩ (fun _ => rfl)
 · rw [e] at g
   have g2 : ¬ left - (xs.length : Int) < 0 := by simpa using g
   refine LoopW.mk ⟨{ p : Nat × Int // p.1 ≤ xs.length ∧ szList szChanM ((xs.map (·.m)).drop p.1) p.2 = szAll szChanM (xs.map (·.m)) left ∧ -1 ≤ p.2 ∧ p.2 ≤ 1048576 },
     fun p => .mk [(0, .v (h.val xs.length)), (1, .v (.int .i64 p.1.2)), (5, .v (.int .i64 (p.1.1 : Int)))] 0 0 [] [] [fR (chansO h xs)],
     fun p => xs.length - p.1.1, ⟨(0, left - xs.length), Nat.zero_le _, by simp [szAll, g2], by omega, by omega⟩, ?_, ?_⟩
   · exact weak_mk [0] zw12 zw0 zw12 zw5 zw26 rfl rfl
   · rintro ⟨⟨k, l⟩, hk, hl, hl0, hl1⟩
     simp only at hk hl hl0 hl1
     refine CaseB.mk (fun g3 => ?_) (fun g3 => ?_)
     · have hlt : k < xs.length := by simpa using g3
       rw [List.drop_eq_getElem_cons z99] at hl
       simp only [szList, List.getElem_map] at hl
       refine stop_idx encChanH tabOk rfl rfl rfl rfl rfl ⟨rfl, rfl⟩ (rdVia 0 rfl (.ofR nest_h)) k rfl z47 (fun ad => ?_)
       refine stop_call _ cl119 rfl rfl rfl rfl ⟨rfl, rfl⟩ (fun A w hW => szChan_c _ _ _ _ _ w ⟨hW.get 0 rfl (.ofR (chansO_0 h xs k hlt)), hW.get 0 rfl (.ofR (chansO_1 h xs k hlt)), hW.get 0 rfl (.ofR (chansO_2 h xs k hlt)), trivial⟩ hl0 hl1) ?_
       rintro v L ⟨rfl, rfl⟩
       refine CaseB.mk (fun g4 => ?_) (fun g4 => ?_)
       · have q : szChanM xs[k].m l < 0 := by simpa using g4
         rw [if_pos q] at hl
         exact ret0 ⟨by rw [← hl], rfl⟩ (fun _ => rfl)
       · have q : ¬ szChanM xs[k].m l < 0 := by simpa using g4
         rw [if_neg q] at hl
         have q2 := (szChanM_gen xs[k].m l hl1 q).2
         have hw := e_succ k _ hlt (by omega)
         refine ⟨⟨(k + 1, szChanM xs[k].m l), hlt, hl, by omega, by omega⟩, ?_, by simp only; omega⟩
         exact weak_mk [0] zw1 zw0 zw1 zw5 zw3 rfl rfl
     · have hge : xs.length ≤ k := by simpa using g3
       rw [List.drop_eq_nil_of_le z97] at hl
       exact ret0 ⟨congrArg (Value.int .i64) hl, rfl⟩ (fun _ => rfl)
def ChanH0 : ChanH := ⟨⟨0, [], [], [], false⟩, ⟨none, 0⟩, ⟨none, 0⟩, ⟨none, 0⟩⟩
set_option maxRecDepth 100000 in
theorem toChanS_c (h : Sl) (xs : List ChanH) (w : World) (hh : At w [fR (chansO h xs)]) (hl : xs.length ≤ 1048576) (hb : ∀ x ∈ xs, Chan.small20 x.m) :
   Calls Tryz.prog 59 #[h.val xs.length] w (Ret w fun v L => ∃ (y : Sl) (ys : List ChanH), v = y.val ys.length ∧ ys.map (·.m) = xs.map (·.m) ∧ L = [fO (chansO y ys)]) := by
 refine calls1 Tryz.func59 rfl tabOk w _ rfl _ rfl _ hh ⟨rfl, rfl, trivial⟩ _ (by decide) ?_
 refine stop_make encChanH ChanH0 tabOk rfl rfl rfl rfl rfl (by decide) ⟨rfl, rfl⟩ xs.length rfl z47 z47 (fun y => ?_)
 refine LoopW.mk ⟨{ p : Nat × List ChanH // p.1 ≤ xs.length ∧ p.2.map (·.m) = (xs.map (·.m)).take p.1 },
   fun p => .mk [(0, .v (h.val xs.length)), (3, .v (y.val (p.1.2 ++ List.replicate (xs.length - p.1.1) ChanH0).length)), (4, .v (.int .i64 (p.1.1 : Int)))] 0 0 [] [] [own y 119 cChanH 5 (p.1.2 ++ List.replicate (xs.length - p.1.1) ChanH0), fO (p.1.2.flatMap chanO), fR (chansO h xs)],
   fun p => xs.length - p.1.1, ⟨(0, []), Nat.zero_le _, by simp⟩, ?_, ?_⟩
 · refine weak_shift (.joinO [] (Gs := []) trivial rfl (.refl _)) ?_
   exact weak_mk [1, 0, 2] zw8 zw0 zw8 zw5 zw17 rfl rfl
 · rintro ⟨⟨k, ys⟩, hk, hy⟩
   simp only at hk hy
   have hyl : ys.length = k := by have := congrArg List.length hy; simp at this; omega
   apply CaseB.mk <;> intro g
   · have hlt : k < xs.length := by simpa using g
     have hlt2 : k < (ys ++ List.replicate (xs.length - k) ChanH0).length := by simp; omega
     refine stop_idx encChanH tabOk rfl rfl rfl rfl rfl ⟨rfl, rfl⟩ (rdVia 2 rfl (.ofR nest_h)) k rfl z47 (fun ad => ?_)
     refine stop_call _ cl137 rfl rfl rfl rfl ⟨rfl, rfl⟩ (fun A w hW => toChan_c _ _ _ _ w ⟨hW.get 2 rfl (.ofR (chansO_0 h xs k hlt)), hW.get 2 rfl (.ofR (chansO_1 h xs k hlt)), hW.get 2 rfl (.ofR (chansO_2 h xs k hlt)), trivial⟩ (hb _ (List.getElem_mem hlt))) ?_
     rintro v L ⟨y0, y1, y2, rfl, rfl⟩
     generalize hx : (⟨xs[k].m, y0, y1, y2⟩ : ChanH) = x
     have hxm : x.m = xs[k].m := by rw [← hx]
     have hT : (ys ++ List.replicate (xs.length - k) ChanH0).set k x = (ys ++ [x]) ++ List.replicate (xs.length - (k + 1)) ChanH0 := by
       rw [List.set_append_right _ _ (by omega), show k - ys.length = 0 by omega, show xs.length - k = (xs.length - (k + 1)) + 1 by omega, List.replicate_succ, List.append_assoc]
       rfl
     generalize hq : (ys ++ List.replicate (xs.length - k) ChanH0) = Q at hT hlt2
     refine stop_idxW encChanH 3 tabOk rfl rfl rfl rfl rfl ⟨rfl, rfl⟩ rfl z90 k rfl hlt2 (fun g1 hg1 => ?_)
     refine stop_storeW encChanH 3 tabOk rfl rfl rfl rfl rfl rfl rfl rfl hg1 k 0 x rfl hlt2 rfl (cChanH x) (fun _ => by rw [← hx]; rfl) z76 ?_
     have hw := e_succ k _ hlt (by omega)
     refine ⟨⟨(k + 1, ys ++ [x]), hlt, by rw [List.map_append]; exact map_take_succ hlt hy hxm⟩, ?_, by simp only; omega⟩
     refine weak_shift (.joinO [1, 2, 3, 4] (Gs := [[_], [_], [_], _]) z124 rfl (G := (ys ++ [x]).flatMap chanO) (by subst hx; rw [List.flatMap_append]; exact (List.Perm.of_eq (by simp [chanO])).trans List.perm_append_comm)) ?_
     exact weak_mk [1, 0, 2] zw6 zw0 zw6 zw5 zw13 rfl rfl
   · have hge : xs.length ≤ k := by simpa using g
     have hT : ys ++ List.replicate (xs.length - k) ChanH0 = ys := by rw [show xs.length - k = 0 by omega]; simp
     simp only [hT]
     refine ret_shift (.joinO [0, 1] (Gs := [[_], _]) z138 rfl (G := chansO y ys) (.of_eq (by simp [chansO, nestO]))) ?_
     exact retw [0] ⟨y, ys, rfl, by rw [hy, List.take_of_length_le z97], rfl⟩ z146 rfl ⟨rfl, trivial⟩ (fun _ => rfl)
set_option maxRecDepth 100000 in
theorem eqChanS_c (h h2 : Sl) (xs ys : List ChanH) (w : World) (hh : At w [fR (chansO h xs), fR (chansO h2 ys)]) (hl : xs.length ≤ 1048576) (hb : ∀ x ∈ xs, Chan.small20 x.m) (hb2 : ∀ x ∈ ys, Chan.small20 x.m) :
   Calls Tryz.prog 81 #[h.val xs.length, h2.val ys.length] w (Ret w fun v L => v = .bool (decide (xs.map (·.m) = ys.map (·.m))) ∧ L = []) := by
 refine calls2 Tryz.func81 rfl tabOk w _ rfl _ rfl _ hh ⟨rfl, rfl, rfl, rfl, trivial⟩ _ _ (by decide) ?_
 apply CaseB.mk <;> intro g
 · have hne : xs.map (·.m) ≠ ys.map (·.m) := fun e => by
     have := congrArg List.length e
     simp at this g
     omega
   refine ret0 ⟨?_, rfl⟩ (fun _ => rfl)
   simp [hne]
 · have hll : xs.length = ys.length := by simp at g; omega
   refine LoopW.mk ⟨{ k : Nat // k ≤ xs.length ∧ (xs.map (·.m)).take k = (ys.map (·.m)).take k },
     fun p => .mk [(0, .v (h.val xs.length)), (1, .v (h2.val ys.length)), (5, .v (.int .i64 p.1))] 0 0 [] [] [fR (chansO h xs), fR (chansO h2 ys)],
     fun p => xs.length - p.1, ⟨0, Nat.zero_le _, rfl⟩, ?_, ?_⟩
   · exact weak_mk [0, 1] zw2 zw0 zw2 zw5 zw4 rfl rfl
   · rintro ⟨k, hk, he⟩
     refine CaseB.mk (fun g2 => ?_) (fun g2 => ?_)
     · have hlt : k < xs.length := by simpa using g2
       have hlt2 : k < ys.length := by omega
       obtain ⟨q1, q2⟩ := take_eq_succ he z99 z95
       simp only [List.getElem_map] at q1 q2
       refine draw_start tabOk z107 z107 z107 200 [] [0, 1] [_, _] trivial trivial ⟨rfl, rfl, trivial⟩ rfl ?_
       refine d_idx (ti := tiOf tab) encChanH tabOk rfl rfl rfl rfl rfl ⟨rfl, rfl⟩ (rdVia 0 rfl (.ofR nest_h)) k rfl z47 (fun ad => ?_)
       refine d_idx (ti := tiOf tab) encChanH tabOk rfl rfl rfl rfl rfl ⟨rfl, rfl⟩ (rdVia 1 rfl (.ofR nest_h)) k rfl z47 (fun ad2 => ?_)
       refine d_call _ cl150 rfl rfl rfl rfl ⟨rfl, rfl⟩ (fun A w hW => eqChan_c _ _ _ _ _ _ _ _ w ⟨hW.get 0 rfl (.ofR (chansO_0 h xs k hlt)), hW.get 0 rfl (.ofR (chansO_1 h xs k hlt)), hW.get 0 rfl (.ofR (chansO_2 h xs k hlt)), hW.get 1 rfl (.ofR (chansO_0 h2 ys k hlt2)), hW.get 1 rfl (.ofR (chansO_1 h2 ys k hlt2)), hW.get 1 rfl (.ofR (chansO_2 h2 ys k hlt2)), trivial⟩ (hb _ (List.getElem_mem hlt)) (hb2 _ (List.getElem_mem hlt2))) ?_
       rintro v L ⟨rfl, rfl⟩
       refine CaseB.mk (fun g3 => ?_) (fun g3 => ?_)
       · have hne := q2 z100
         refine ret0 ⟨?_, rfl⟩ (fun _ => rfl)
         simp [hne]
       · have heq := q1 z100
         have hw := e_succ k _ hlt (by omega)
         refine ⟨⟨k + 1, by omega, heq⟩, ?_, by simp; omega⟩
         exact weak_mk [0, 1] zw1 zw0 zw1 zw5 zw3 rfl rfl
     · have hge : xs.length ≤ k := by simpa using g2
       have heq : xs.map (·.m) = ys.map (·.m) := by rw [List.take_of_length_le z97, List.take_of_length_le z106] at he; exact he
       refine ret0 ⟨?_, rfl⟩ (fun _ => rfl)
       simp [heq]
def State.small20 (s : State) : Prop := s.places.length ≤ 1048576 ∧ s.status.length ≤ 1048576 ∧ allS Sem.small20 s.sems ∧ allS Once.small20 s.onces ∧ allS Group.small20 s.groups ∧ allS Barrier.small20 s.barriers ∧ allS Chan.small20 s.chans ∧ s.said.length ≤ 1048576
def szStateM (s : State) (left : Int) : Int := szSeq [szN s.places.length, szN s.status.length, szAll szSemM s.sems, szAll szOnceM s.onces, szAll szGroupM s.groups, szAll szBarrierM s.barriers, szAll szChanM s.chans, szN s.said.length] left
theorem szStateM_gen (s : State) (l : Int) (hl : l ≤ 1048576) (h : ¬ szStateM s l < 0) : s.small20 ∧ szStateM s l ≤ l := by
 simp only [szStateM, szSeq, szList] at h ⊢
 by_cases q0 : szN s.places.length l < 0
 · simp [q0] at h
 obtain ⟨p0, r0⟩ := szN_gen hl q0
 have t0 : szN s.places.length l ≤ 1048576 := Int.le_trans r0 hl
 by_cases q1 : szN s.status.length (szN s.places.length l) < 0
 · simp [q0, q1] at h
 obtain ⟨p1, r1⟩ := szN_gen t0 q1
 have t1 : szN s.status.length (szN s.places.length l) ≤ 1048576 := Int.le_trans r1 t0
 by_cases q2 : szAll szSemM s.sems (szN s.status.length (szN s.places.length l)) < 0
 · simp [q0, q1, q2] at h
 obtain ⟨p2, r2⟩ := szAll_gen szSemM_gen t1 q2
 have t2 : szAll szSemM s.sems (szN s.status.length (szN s.places.length l)) ≤ 1048576 := Int.le_trans r2 t1
 by_cases q3 : szAll szOnceM s.onces (szAll szSemM s.sems (szN s.status.length (szN s.places.length l))) < 0
 · simp [q0, q1, q2, q3] at h
 obtain ⟨p3, r3⟩ := szAll_gen szOnceM_gen t2 q3
 have t3 : szAll szOnceM s.onces (szAll szSemM s.sems (szN s.status.length (szN s.places.length l))) ≤ 1048576 := Int.le_trans r3 t2
 by_cases q4 : szAll szGroupM s.groups (szAll szOnceM s.onces (szAll szSemM s.sems (szN s.status.length (szN s.places.length l)))) < 0
 · simp [q0, q1, q2, q3, q4] at h
 obtain ⟨p4, r4⟩ := szAll_gen szGroupM_gen t3 q4
 have t4 : szAll szGroupM s.groups (szAll szOnceM s.onces (szAll szSemM s.sems (szN s.status.length (szN s.places.length l)))) ≤ 1048576 := Int.le_trans r4 t3
 by_cases q5 : szAll szBarrierM s.barriers (szAll szGroupM s.groups (szAll szOnceM s.onces (szAll szSemM s.sems (szN s.status.length (szN s.places.length l))))) < 0
 · simp [q0, q1, q2, q3, q4, q5] at h
 obtain ⟨p5, r5⟩ := szAll_gen szBarrierM_gen t4 q5
 have t5 : szAll szBarrierM s.barriers (szAll szGroupM s.groups (szAll szOnceM s.onces (szAll szSemM s.sems (szN s.status.length (szN s.places.length l))))) ≤ 1048576 := Int.le_trans r5 t4
 by_cases q6 : szAll szChanM s.chans (szAll szBarrierM s.barriers (szAll szGroupM s.groups (szAll szOnceM s.onces (szAll szSemM s.sems (szN s.status.length (szN s.places.length l)))))) < 0
 · simp [q0, q1, q2, q3, q4, q5, q6] at h
 obtain ⟨p6, r6⟩ := szAll_gen szChanM_gen t5 q6
 have t6 : szAll szChanM s.chans (szAll szBarrierM s.barriers (szAll szGroupM s.groups (szAll szOnceM s.onces (szAll szSemM s.sems (szN s.status.length (szN s.places.length l)))))) ≤ 1048576 := Int.le_trans r6 t5
 by_cases q7 : szN s.said.length (szAll szChanM s.chans (szAll szBarrierM s.barriers (szAll szGroupM s.groups (szAll szOnceM s.onces (szAll szSemM s.sems (szN s.status.length (szN s.places.length l))))))) < 0
 · simp [q0, q1, q2, q3, q4, q5, q6, q7] at h
 obtain ⟨p7, r7⟩ := szN_gen t6 q7
 have t7 : szN s.said.length (szAll szChanM s.chans (szAll szBarrierM s.barriers (szAll szGroupM s.groups (szAll szOnceM s.onces (szAll szSemM s.sems (szN s.status.length (szN s.places.length l))))))) ≤ 1048576 := Int.le_trans r7 t6
 simp only [q0, q1, q2, q3, q4, q5, q6, q7, if_false]
 exact ⟨⟨p0, p1, p2, p3, p4, p5, p6, p7⟩, by omega⟩
set_option maxHeartbeats 16000000 in
set_option maxRecDepth 100000 in
theorem szState_c (s : StateH) (left : Int) (w : World) (h : At w [fR (stateO s)]) (h0 : -1 ≤ left) (h1 : left ≤ 1048576) :
   Calls Tryz.prog 13 #[stateV s, .int .i64 left] w (Ret w fun v L => v = .int .i64 (szStateM s.pure left) ∧ L = []) := by
 have hz : szStateM s.pure left = szSeq [szN s.places.length, szN s.status.length, szAll szSemM (s.sems.map (·.m)), szAll szOnceM (s.onces.map (·.m)), szAll szGroupM (s.groups.map (·.m)), szAll szBarrierM (s.barriers.map (·.m)), szAll szChanM (s.chans.map (·.m)), szN s.said.length] left := rfl
 simp only [szSeq, szList] at hz
 refine calls2 Tryz.func13 rfl tabOk w _ rfl _ rfl _ h ⟨rfl, rfl, trivial⟩ _ _ (by decide) ?_
 refine stop_call _ cl44 rfl rfl rfl rfl ⟨rfl, rfl⟩ (fun A w hW => ret_abs (szIntS_c s.h0 s.places left w ⟨hW.get 0 rfl (.ofR (stateO_places s)), trivial⟩ h0 h1)) ?_
 rintro v L ⟨a0, e0, rfl, rfl⟩
 have r0 : ¬ szN s.places.length left < 0 → szN s.places.length left ≤ left := fun q => (szN_gen h1 q).2
 simp only [← e0] at hz
 rw [← e0] at r0
 apply CaseB.mk <;> intro g
 · have q : a0 < 0 := by simpa using g
   exact ret0 ⟨by rw [hz]; simp [q], rfl⟩ (fun _ => rfl)
 have q0 : ¬ a0 < 0 := by simpa using g
 have u0 : -1 ≤ a0 := by omega
 have v0 : a0 ≤ 1048576 := Int.le_trans (r0 q0) h1
 refine stop_call _ cl44 rfl rfl rfl rfl ⟨rfl, rfl⟩ (fun A w hW => ret_abs (szIntS_c s.h1 s.status a0 w ⟨hW.get 0 rfl (.ofR (stateO_status s)), trivial⟩ u0 v0)) ?_
 rintro v L ⟨a1, e1, rfl, rfl⟩
 have r1 : ¬ szN s.status.length a0 < 0 → szN s.status.length a0 ≤ a0 := fun q => (szN_gen v0 q).2
 simp only [← e1] at hz
 rw [← e1] at r1
 apply CaseB.mk <;> intro g
 · have q : a1 < 0 := by simpa using g
   exact ret0 ⟨by rw [hz]; simp [q0, q], rfl⟩ (fun _ => rfl)
 have q1 : ¬ a1 < 0 := by simpa using g
 have u1 : -1 ≤ a1 := by omega
 have v1 : a1 ≤ 1048576 := Int.le_trans (r1 q1) v0
 refine stop_call _ cl46 rfl rfl rfl rfl ⟨rfl, rfl⟩ (fun A w hW => ret_abs (szSemS_c s.h2 s.sems a1 w ⟨hW.get 0 rfl (.R_R (stateO_sems s)), trivial⟩ u1 v1)) ?_
 rintro v L ⟨a2, e2, rfl, rfl⟩
 have r2 : ¬ szAll szSemM (s.sems.map (·.m)) a1 < 0 → szAll szSemM (s.sems.map (·.m)) a1 ≤ a1 := fun q => (szAll_gen szSemM_gen v1 q).2
 simp only [← e2] at hz
 rw [← e2] at r2
 apply CaseB.mk <;> intro g
 · have q : a2 < 0 := by simpa using g
   exact ret0 ⟨by rw [hz]; simp [q0, q1, q], rfl⟩ (fun _ => rfl)
 have q2 : ¬ a2 < 0 := by simpa using g
 have u2 : -1 ≤ a2 := by omega
 have v2 : a2 ≤ 1048576 := Int.le_trans (r2 q2) v1
 refine stop_call _ cl47 rfl rfl rfl rfl ⟨rfl, rfl⟩ (fun A w hW => ret_abs (szOnceS_c s.h3 s.onces a2 w ⟨hW.get 0 rfl (.R_R (stateO_onces s)), trivial⟩ u2 v2)) ?_
 rintro v L ⟨a3, e3, rfl, rfl⟩
 have r3 : ¬ szAll szOnceM (s.onces.map (·.m)) a2 < 0 → szAll szOnceM (s.onces.map (·.m)) a2 ≤ a2 := fun q => (szAll_gen szOnceM_gen v2 q).2
 simp only [← e3] at hz
 rw [← e3] at r3
 apply CaseB.mk <;> intro g
 · have q : a3 < 0 := by simpa using g
   exact ret0 ⟨by rw [hz]; simp [q0, q1, q2, q], rfl⟩ (fun _ => rfl)
 have q3 : ¬ a3 < 0 := by simpa using g
 have u3 : -1 ≤ a3 := by omega
 have v3 : a3 ≤ 1048576 := Int.le_trans (r3 q3) v2
 refine stop_call _ cl48 rfl rfl rfl rfl ⟨rfl, rfl⟩ (fun A w hW => ret_abs (szGroupS_c s.h4 s.groups a3 w ⟨hW.get 0 rfl (.R_R (stateO_groups s)), trivial⟩ u3 v3)) ?_
 rintro v L ⟨a4, e4, rfl, rfl⟩
 have r4 : ¬ szAll szGroupM (s.groups.map (·.m)) a3 < 0 → szAll szGroupM (s.groups.map (·.m)) a3 ≤ a3 := fun q => (szAll_gen szGroupM_gen v3 q).2
 simp only [← e4] at hz
 rw [← e4] at r4
 apply CaseB.mk <;> intro g
 · have q : a4 < 0 := by simpa using g
   exact ret0 ⟨by rw [hz]; simp [q0, q1, q2, q3, q], rfl⟩ (fun _ => rfl)
 have q4 : ¬ a4 < 0 := by simpa using g
 have u4 : -1 ≤ a4 := by omega
 have v4 : a4 ≤ 1048576 := Int.le_trans (r4 q4) v3
 refine stop_call _ cl49 rfl rfl rfl rfl ⟨rfl, rfl⟩ (fun A w hW => ret_abs (szBarrierS_c s.h5 s.barriers a4 w ⟨hW.get 0 rfl (.R_R (stateO_barriers s)), trivial⟩ u4 v4)) ?_
 rintro v L ⟨a5, e5, rfl, rfl⟩
 have r5 : ¬ szAll szBarrierM (s.barriers.map (·.m)) a4 < 0 → szAll szBarrierM (s.barriers.map (·.m)) a4 ≤ a4 := fun q => (szAll_gen szBarrierM_gen v4 q).2
 simp only [← e5] at hz
 rw [← e5] at r5
 apply CaseB.mk <;> intro g
 · have q : a5 < 0 := by simpa using g
   exact ret0 ⟨by rw [hz]; simp [q0, q1, q2, q3, q4, q], rfl⟩ (fun _ => rfl)
 have q5 : ¬ a5 < 0 := by simpa using g
 have u5 : -1 ≤ a5 := by omega
 have v5 : a5 ≤ 1048576 := Int.le_trans (r5 q5) v4
 refine stop_call _ cl50 rfl rfl rfl rfl ⟨rfl, rfl⟩ (fun A w hW => ret_abs (szChanS_c s.h6 s.chans a5 w ⟨hW.get 0 rfl (.R_R (stateO_chans s)), trivial⟩ u5 v5)) ?_
 rintro v L ⟨a6, e6, rfl, rfl⟩
 have r6 : ¬ szAll szChanM (s.chans.map (·.m)) a5 < 0 → szAll szChanM (s.chans.map (·.m)) a5 ≤ a5 := fun q => (szAll_gen szChanM_gen v5 q).2
 simp only [← e6] at hz
 rw [← e6] at r6
 apply CaseB.mk <;> intro g
 · have q : a6 < 0 := by simpa using g
   exact ret0 ⟨by rw [hz]; simp [q0, q1, q2, q3, q4, q5, q], rfl⟩ (fun _ => rfl)
 have q6 : ¬ a6 < 0 := by simpa using g
 have u6 : -1 ≤ a6 := by omega
 have v6 : a6 ≤ 1048576 := Int.le_trans (r6 q6) v5
 refine stop_call _ cl44 rfl rfl rfl rfl ⟨rfl, rfl⟩ (fun A w hW => ret_abs (szIntS_c s.h7 s.said a6 w ⟨hW.get 0 rfl (.ofR (stateO_said s)), trivial⟩ u6 v6)) ?_
 rintro v L ⟨a7, e7, rfl, rfl⟩
 have r7 : ¬ szN s.said.length a6 < 0 → szN s.said.length a6 ≤ a6 := fun q => (szN_gen v6 q).2
 simp only [← e7] at hz
 rw [← e7] at r7
 apply CaseB.mk <;> intro g
 · have q : a7 < 0 := by simpa using g
   exact ret0 ⟨by rw [hz]; simp [q0, q1, q2, q3, q4, q5, q6, q], rfl⟩ (fun _ => rfl)
 have q7 : ¬ a7 < 0 := by simpa using g
 have u7 : -1 ≤ a7 := by omega
 have v7 : a7 ≤ 1048576 := Int.le_trans (r7 q7) v6
 refine ret0 ⟨?_, rfl⟩ (fun _ => rfl)
 rw [hz]; simp [q0, q1, q2, q3, q4, q5, q6, q7]
set_option maxHeartbeats 16000000 in
set_option maxRecDepth 100000 in
theorem toState_c (s : StateH) (w : World) (h : At w [fR (stateO s)]) (hb : s.pure.small20) :
   Calls Tryz.prog 16 #[stateV s] w (Ret w fun v L => ∃ y : StateH, v = stateV y ∧ y.pure = s.pure ∧ L = [fO (stateO y)]) := by
 obtain ⟨b0, b1, b2, b3, b4, b5, b6, b7⟩ := hb
 refine calls1 Tryz.func16 rfl tabOk w _ rfl _ rfl _ h ⟨rfl, rfl, trivial⟩ _ (by decide) ?_
 refine stop_call _ cl40 rfl rfl rfl rfl ⟨rfl, rfl⟩ (fun A w hW => toIntS_c s.h0 s.places w ⟨hW.get 0 rfl (.ofR (stateO_places s)), trivial⟩ b0) ?_
 rintro v L ⟨y0, rfl, rfl⟩
 refine stop_call _ cl40 rfl rfl rfl rfl ⟨rfl, rfl⟩ (fun A w hW => toIntS_c s.h1 s.status w ⟨hW.get 1 rfl (.ofR (stateO_status s)), trivial⟩ b1) ?_
 rintro v L ⟨y1, rfl, rfl⟩
 refine stop_call _ cl55 rfl rfl rfl rfl ⟨rfl, rfl⟩ (fun A w hW => toSemS_c s.h2 s.sems w ⟨hW.get 2 rfl (.R_R (stateO_sems s)), trivial⟩ (allS_map b2).1 (allS_map b2).2) ?_
 rintro v L ⟨y2, ys2, rfl, e2, rfl⟩
 refine stop_call _ cl56 rfl rfl rfl rfl ⟨rfl, rfl⟩ (fun A w hW => toOnceS_c s.h3 s.onces w ⟨hW.get 3 rfl (.R_R (stateO_onces s)), trivial⟩ (allS_map b3).1 (allS_map b3).2) ?_
 rintro v L ⟨y3, ys3, rfl, e3, rfl⟩
 refine stop_call _ cl57 rfl rfl rfl rfl ⟨rfl, rfl⟩ (fun A w hW => toGroupS_c s.h4 s.groups w ⟨hW.get 4 rfl (.R_R (stateO_groups s)), trivial⟩ (allS_map b4).1 (allS_map b4).2) ?_
 rintro v L ⟨y4, ys4, rfl, e4, rfl⟩
 refine stop_call _ cl58 rfl rfl rfl rfl ⟨rfl, rfl⟩ (fun A w hW => toBarrierS_c s.h5 s.barriers w ⟨hW.get 5 rfl (.R_R (stateO_barriers s)), trivial⟩ (allS_map b5).1 (allS_map b5).2) ?_
 rintro v L ⟨y5, ys5, rfl, e5, rfl⟩
 refine stop_call _ cl59 rfl rfl rfl rfl ⟨rfl, rfl⟩ (fun A w hW => toChanS_c s.h6 s.chans w ⟨hW.get 6 rfl (.R_R (stateO_chans s)), trivial⟩ (allS_map b6).1 (allS_map b6).2) ?_
 rintro v L ⟨y6, ys6, rfl, e6, rfl⟩
 refine stop_call _ cl40 rfl rfl rfl rfl ⟨rfl, rfl⟩ (fun A w hW => toIntS_c s.h7 s.said w ⟨hW.get 7 rfl (.ofR (stateO_said s)), trivial⟩ b7) ?_
 rintro v L ⟨y7, rfl, rfl⟩
 generalize hy : (⟨s.places, s.status, ys2, ys3, ys4, ys5, ys6, s.said, s.fault, y0, y1, y2, y3, y4, y5, y6, y7⟩ : StateH) = y
 refine ret_shift (.joinO [7, 6, 5, 4, 3, 2, 1, 0] (Gs := [[_], [_], _, _, _, _, _, [_]]) z115 rfl (G := stateO y) ?_) ?_
 · subst hy; exact .of_eq z102
 exact retw [0] ⟨y, by rw [← hy]; rfl, by rw [← hy]; simp [StateH.pure, e2, e3, e4, e5, e6], rfl⟩ z146 rfl ⟨rfl, trivial⟩ (fun _ => rfl)
set_option maxHeartbeats 16000000 in
set_option maxRecDepth 100000 in
theorem eqState_c (s t : StateH) (w : World) (h : At w [fR (stateO s), fR (stateO t)]) (hb : s.pure.small20) (hb2 : t.pure.small20) :
   Calls Tryz.prog 18 #[stateV s, stateV t] w (Ret w fun v L => v = .bool (decide (s.pure = t.pure)) ∧ L = []) := by
 have hx : s.pure = t.pure ↔ s.places = t.places ∧ s.status = t.status ∧ s.sems.map (·.m) = t.sems.map (·.m) ∧ s.onces.map (·.m) = t.onces.map (·.m) ∧ s.groups.map (·.m) = t.groups.map (·.m) ∧ s.barriers.map (·.m) = t.barriers.map (·.m) ∧ s.chans.map (·.m) = t.chans.map (·.m) ∧ s.said = t.said ∧ s.fault = t.fault := by
   simp only [StateH.pure, State.mk.injEq]
 obtain ⟨b0, b1, b2, b3, b4, b5, b6, b7⟩ := hb
 obtain ⟨c0, c1, c2, c3, c4, c5, c6, c7⟩ := hb2
 refine calls2 Tryz.func18 rfl tabOk w _ rfl _ rfl _ h ⟨rfl, rfl, rfl, rfl, trivial⟩ _ _ (by decide) ?_
 refine stop_call _ cl36 rfl rfl rfl rfl ⟨rfl, rfl⟩ (fun A w hW => eqIntS_c s.h0 t.h0 s.places t.places w ⟨hW.get 0 rfl (.ofR (stateO_places s)), hW.get 1 rfl (.ofR (stateO_places t)), trivial⟩ (Nat.le_trans b0 (by decide)) (Nat.le_trans c0 (by decide))) ?_
 rintro v L ⟨rfl, rfl⟩
 refine CaseB.mk (fun g0 => ?_) (fun g0 => ?_)
 · have g : ¬ s.pure = t.pure := fun e => by rw [hx] at e; simp [e] at g0
   exact ret0 ⟨by simp [g], rfl⟩ (fun _ => rfl)
 refine stop_call _ cl36 rfl rfl rfl rfl ⟨rfl, rfl⟩ (fun A w hW => eqIntS_c s.h1 t.h1 s.status t.status w ⟨hW.get 0 rfl (.ofR (stateO_status s)), hW.get 1 rfl (.ofR (stateO_status t)), trivial⟩ (Nat.le_trans b1 (by decide)) (Nat.le_trans c1 (by decide))) ?_
 rintro v L ⟨rfl, rfl⟩
 refine CaseB.mk (fun g1 => ?_) (fun g1 => ?_)
 · have g : ¬ s.pure = t.pure := fun e => by rw [hx] at e; simp [e] at g1
   exact ret0 ⟨by simp [g], rfl⟩ (fun _ => rfl)
 refine stop_call _ cl77 rfl rfl rfl rfl ⟨rfl, rfl⟩ (fun A w hW => eqSemS_c s.h2 t.h2 s.sems t.sems w ⟨hW.get 0 rfl (.R_R (stateO_sems s)), hW.get 1 rfl (.R_R (stateO_sems t)), trivial⟩ (allS_map b2).1 (allS_map b2).2 (allS_map c2).2) ?_
 rintro v L ⟨rfl, rfl⟩
 refine CaseB.mk (fun g2 => ?_) (fun g2 => ?_)
 · have g : ¬ s.pure = t.pure := fun e => by rw [hx] at e; simp [e] at g2
   exact ret0 ⟨by simp [g], rfl⟩ (fun _ => rfl)
 refine stop_call _ cl78 rfl rfl rfl rfl ⟨rfl, rfl⟩ (fun A w hW => eqOnceS_c s.h3 t.h3 s.onces t.onces w ⟨hW.get 0 rfl (.R_R (stateO_onces s)), hW.get 1 rfl (.R_R (stateO_onces t)), trivial⟩ (allS_map b3).1 (allS_map b3).2 (allS_map c3).2) ?_
 rintro v L ⟨rfl, rfl⟩
 refine CaseB.mk (fun g3 => ?_) (fun g3 => ?_)
 · have g : ¬ s.pure = t.pure := fun e => by rw [hx] at e; simp [e] at g3
   exact ret0 ⟨by simp [g], rfl⟩ (fun _ => rfl)
 refine stop_call _ cl79 rfl rfl rfl rfl ⟨rfl, rfl⟩ (fun A w hW => eqGroupS_c s.h4 t.h4 s.groups t.groups w ⟨hW.get 0 rfl (.R_R (stateO_groups s)), hW.get 1 rfl (.R_R (stateO_groups t)), trivial⟩ (allS_map b4).1 (allS_map b4).2 (allS_map c4).2) ?_
 rintro v L ⟨rfl, rfl⟩
 refine CaseB.mk (fun g4 => ?_) (fun g4 => ?_)
 · have g : ¬ s.pure = t.pure := fun e => by rw [hx] at e; simp [e] at g4
   exact ret0 ⟨by simp [g], rfl⟩ (fun _ => rfl)
 refine stop_call _ cl80 rfl rfl rfl rfl ⟨rfl, rfl⟩ (fun A w hW => eqBarrierS_c s.h5 t.h5 s.barriers t.barriers w ⟨hW.get 0 rfl (.R_R (stateO_barriers s)), hW.get 1 rfl (.R_R (stateO_barriers t)), trivial⟩ (allS_map b5).1 (allS_map b5).2 (allS_map c5).2) ?_
 rintro v L ⟨rfl, rfl⟩
 refine CaseB.mk (fun g5 => ?_) (fun g5 => ?_)
 · have g : ¬ s.pure = t.pure := fun e => by rw [hx] at e; simp [e] at g5
   exact ret0 ⟨by simp [g], rfl⟩ (fun _ => rfl)
 refine stop_call _ cl81 rfl rfl rfl rfl ⟨rfl, rfl⟩ (fun A w hW => eqChanS_c s.h6 t.h6 s.chans t.chans w ⟨hW.get 0 rfl (.R_R (stateO_chans s)), hW.get 1 rfl (.R_R (stateO_chans t)), trivial⟩ (allS_map b6).1 (allS_map b6).2 (allS_map c6).2) ?_
 rintro v L ⟨rfl, rfl⟩
 refine CaseB.mk (fun g6 => ?_) (fun g6 => ?_)
 · have g : ¬ s.pure = t.pure := fun e => by rw [hx] at e; simp [e] at g6
   exact ret0 ⟨by simp [g], rfl⟩ (fun _ => rfl)
 refine stop_call _ cl36 rfl rfl rfl rfl ⟨rfl, rfl⟩ (fun A w hW => eqIntS_c s.h7 t.h7 s.said t.said w ⟨hW.get 0 rfl (.ofR (stateO_said s)), hW.get 1 rfl (.ofR (stateO_said t)), trivial⟩ (Nat.le_trans b7 (by decide)) (Nat.le_trans c7 (by decide))) ?_
 rintro v L ⟨rfl, rfl⟩
 refine CaseB.mk (fun g7 => ?_) (fun g7 => ?_)
 · have g : ¬ s.pure = t.pure := fun e => by rw [hx] at e; simp [e] at g7
   exact ret0 ⟨by simp [g], rfl⟩ (fun _ => rfl)
 refine CaseB.mk (fun g8 => ?_) (fun g8 => ?_)
 · have g : ¬ s.pure = t.pure := fun e => by rw [hx] at e; simp [e] at g8
   exact ret0 ⟨by simp [g], rfl⟩ (fun _ => rfl)
 have g : s.pure = t.pure := hx.2 ⟨by simpa using g0, by simpa using g1, by simpa using g2, by simpa using g3, by simpa using g4, by simpa using g5, by simpa using g6, by simpa using g7, by simpa using g8⟩
 exact ret0 ⟨by simp [g], rfl⟩ (fun _ => rfl)
end Go.Proofs.YtklclbcckjhdpaaGreat
