/- FnFormatState: texts that its proof stands on, part 8. -/
import Derived.Test.YtchkcjeeknfchaaGreatDoorQFormatStateg
namespace Go.Proofs.YtchkcjeeknfchaaGreatDoor
set_option maxRecDepth 100000
set_option maxHeartbeats 100000000
open Go Go.Sx Go.RowKit
theorem kD0 (m : Chan) (i s g : Sl) (t u : Int) (w : World) (h : At w [slo i aL 1 m.items, slo s jY 2 m.senders, slo g aL 1 m.getters]) (hb : m.small) :
   Calls Tryz.prog 181 #[kZ m i s g, .int .i64 t, .int .i64 u] w (Ret w (SendR (m.send t u))) := by
 obtain ⟨b1, b2, b3⟩ := hb
 generalize hp : m.send t u = p
 have hno : ¬ (m.Valid ∧ m.closed = false ∧ aW t = true ∧ aR u = true ∧ ¬ t ∈ m.threads) → p = (.zero, [], false, false) := fun h => by rw [← hp, Chan.send, if_neg h]
 refine mF Tryz.func181 rfl aA w _ rfl _ rfl _ h z112 _ _ _ (by decide) ?_
 refine aB _ jL0 rfl rfl rfl rfl ⟨rfl, rfl⟩ (fun A w hW => sA m i s g w ⟨z30, z30, z30, trivial⟩ ⟨b1, b2, b3⟩) ?_
 rintro v L ⟨rfl, rfl⟩
 refine CaseB.mk (fun h1 => ?_) (fun h1 => ?_)
 · obtain rfl := hno (fun h => zE h1 h.1)
   refine AllSl.mk fun r => ?_
   exact bY [97, 98, 99, 0] ⟨gI, gI, gI, r, rfl, rfl⟩ z91 rfl ⟨rfl, rfl, rfl, rfl, trivial⟩ (fun _ => rfl)
 have h7 := cJ (nU h1).di
 refine CaseB.mk (fun h4 => ?_) (fun h4 => ?_)
 · obtain rfl := hno (fun h => by rw [h.2.1] at h4; cases h4)
   refine AllSl.mk fun r => ?_
   exact bY [97, 98, 99, 0] ⟨gI, gI, gI, r, rfl, rfl⟩ z91 rfl ⟨rfl, rfl, rfl, rfl, trivial⟩ (fun _ => rfl)
 refine aB _ oS rfl rfl rfl rfl ⟨rfl, rfl⟩ (fun A w hW => eC _ w) ?_
 rintro v L ⟨rfl, rfl⟩
 refine CaseB.mk (fun h2 => ?_) (fun h2 => ?_)
 · obtain rfl := hno (fun h => by rw [h.2.2.1] at h2; cases h2)
   refine AllSl.mk fun r => ?_
   exact bY [97, 98, 99, 0] ⟨gI, gI, gI, r, rfl, rfl⟩ z91 rfl ⟨rfl, rfl, rfl, rfl, trivial⟩ (fun _ => rfl)
 refine aB _ uE rfl rfl rfl rfl ⟨rfl, rfl⟩ (fun A w hW => eM _ w) ?_
 rintro v L ⟨rfl, rfl⟩
 refine CaseB.mk (fun h5 => ?_) (fun h5 => ?_)
 · obtain rfl := hno (fun h => by rw [h.2.2.2.1] at h5; cases h5)
   refine AllSl.mk fun r => ?_
   exact bY [97, 98, 99, 0] ⟨gI, gI, gI, r, rfl, rfl⟩ z91 rfl ⟨rfl, rfl, rfl, rfl, trivial⟩ (fun _ => rfl)
 refine aB _ lA0 rfl rfl rfl rfl ⟨rfl, rfl⟩ (fun A w hW => xJ m i s g t w ⟨z30, z30, z30, trivial⟩ ⟨b1, b2, b3⟩ (by simp [Chan.threads] at h7; omega)) ?_
 rintro v L ⟨rfl, rfl⟩
 refine CaseB.mk (fun h3 => ?_) (fun h3 => ?_)
 · obtain rfl := hno (fun h => h.2.2.2.2 (by simpa using h3))
   refine AllSl.mk fun r => ?_
   exact bY [97, 98, 99, 0] ⟨gI, gI, gI, r, rfl, rfl⟩ z91 rfl ⟨rfl, rfl, rfl, rfl, trivial⟩ (fun _ => rfl)
 have hok : m.Valid ∧ m.closed = false ∧ aW t = true ∧ aR u = true ∧ ¬ t ∈ m.threads := ⟨nU h1, h4, by simpa using h2, by simpa using h5, by simpa using h3⟩
 rw [Chan.send, if_pos hok] at hp
 refine aB _ dG0 rfl rfl rfl rfl ⟨rfl, rfl⟩ (fun A w hW => yM m i s g w ⟨z30, z30, z30, trivial⟩ ⟨b1, b2, b3⟩) ?_
 rintro v L ⟨i1, s1, g1, rfl, rfl⟩
 refine CaseB.mk (fun h6 => ?_) (fun h6 => ?_)
 · have hg : 0 < m.getters.length := by simpa using h6
   rw [dif_pos hg] at hp
   subst hp
   refine AllSl.mk fun y0 => ?_
   refine mX aA rfl rfl rfl rfl ⟨rfl, rfl⟩ rfl rfl z31 (1) (m.getters.length) ((m.getters.drop 1)).length rfl rfl z37 z37 z37 ?_
   refine cB aI aA (xs := []) rfl rfl rfl rfl rfl rfl rfl rfl rfl (by decide) ⟨rfl, rfl⟩ z35 (vH aI 1 (by omega) (gN 6 rfl)) z37 z37 (fun g2 => ?_)
   refine aH aA z88 z88 z88 200 [((2, 0), .v (.int .i64 m.room)), ((2, 1), .v (i1.val m.items.length)), ((2, 2), .v (s1.val m.senders.length)), ((2, 3), .v (g2.val (m.getters.drop 1).length)), ((2, 4), .v (.bool m.closed)), ((0, 3), .v (g.val m.getters.length))] [0, 1, 2, 3, 4, 5, 6] [_, _, _, _, _, _, _] z93 z103 ⟨rfl, rfl, rfl, rfl, rfl, rfl, rfl, trivial⟩ rfl ?_
   refine bM (ti := aZ tab) aI aA rfl rfl rfl rfl rfl ⟨rfl, rfl⟩ z31 0 rfl z37 (fun ad => ?_)
   repeat' ((conv => whnf); (first
     | refine BothW.mk ?_ ?_
     | refine AllSl.mk fun y => ?_
     | fail))
   all_goals
     exact bY [2, 3, 1, 0] ⟨i1, s1, g2, _, rfl, rfl⟩ z97 rfl ⟨rfl, rfl, rfl, rfl, trivial⟩ (fun _ => rfl)
 have hg : ¬ 0 < m.getters.length := by simpa using h6
 rw [dif_neg hg] at hp
 refine CaseB.mk (fun h7 => ?_) (fun h7 => ?_)
 · have hi : (m.items.length : Int) < m.room := by simpa using h7
   rw [if_pos hi] at hp
   subst hp
   refine AllSl.mk fun r => ?_
   refine cB aI aA (ys := [u]) rfl rfl rfl rfl rfl rfl rfl rfl rfl (by decide) ⟨rfl, rfl⟩ z35 z31 z37 z37 (fun i2 => ?_)
   refine AllSl.mk fun r => ?_
   exact bY [1, 3, 4, 0] ⟨i2, s1, g1, r, rfl, rfl⟩ z97 rfl ⟨rfl, rfl, rfl, rfl, trivial⟩ (fun _ => rfl)
 · have hi : ¬ (m.items.length : Int) < m.room := by simpa using h7
   rw [if_neg hi] at hp
   subst hp
   refine AllSl.mk fun r => ?_
   refine cB jZ aA (ys := [⟨t, u⟩]) rfl rfl rfl rfl rfl rfl rfl rfl rfl (by decide) ⟨rfl, rfl⟩ z35 z31 z37 z37 (fun s2 => ?_)
   refine AllSl.mk fun r => ?_
   exact bY [3, 1, 4, 0] ⟨i1, s2, g1, r, rfl, rfl⟩ z97 rfl ⟨rfl, rfl, rfl, rfl, trivial⟩ (fun _ => rfl)
def Chan.gItems (m : Chan) : List Int := m.items ++ (m.senders.take 1).map Letter.v
def Chan.gWho (m : Chan) : List Int := (m.senders.take 1).map Letter.t
def Chan.get (m : Chan) (t : Int) : Chan × Int × Int × List Int × Bool :=
 if m.Valid ∧ aW t = true ∧ ¬ t ∈ m.threads then
   if 0 < m.gItems.length then ({ m with items := m.gItems.drop 1, senders := m.senders.drop 1 }, m.gItems.headD 0, 1, m.gWho, true)
   else if m.closed = true then ({ m with items := [], senders := [] }, 0, 2, [], true)
   else ({ m with items := [], senders := [], getters := m.getters ++ [t] }, 0, 0, [], true)
 else (.zero, 0, 0, [], false)
def GetR (p : Chan × Int × Int × List Int × Bool) (v : Value) (L : List Fct) : Prop :=
 ∃ i s g r : Sl, v = .tuple #[kZ p.1 i s g, .int .i64 p.2.1, .int .i64 p.2.2.1, r.val p.2.2.2.1.length, .bool p.2.2.2.2] ∧ L = [own i 3 aL 1 p.1.items, own s 164 jY 2 p.1.senders, own g 3 aL 1 p.1.getters, own r 3 aL 1 p.2.2.2.1]
theorem hY0 {xs : List Int} (h : 0 < xs.length) : xs.headD 0 = xs[0] := by
 cases xs with
 | nil => simp at h
 | cons x r => rfl
theorem hZ0 {α : Type} {xs : List α} (h : 0 < xs.length) : xs.take 1 = [xs[0]] := by
 cases xs with
 | nil => simp at h
 | cons x r => rfl
theorem kE0 {m : Chan} (h : 0 < m.senders.length) : m.gItems = m.items ++ [m.senders[0].v] := by rw [Chan.gItems, hZ0 h]; rfl
theorem gWho1 {m : Chan} (h : 0 < m.senders.length) : m.gWho = [m.senders[0].t] := by rw [Chan.gWho, hZ0 h]; rfl
theorem kF0 {m : Chan} (h : m.senders = []) : m.gItems = m.items := by rw [Chan.gItems, h]; simp
theorem gWho0 {m : Chan} (h : m.senders = []) : m.gWho = [] := by rw [Chan.gWho, h]; rfl
theorem mN0 (m : Chan) (i s g : Sl) (t : Int) (w : World) (h : At w [slo i aL 1 m.items, slo s jY 2 m.senders, slo g aL 1 m.getters]) (hb : m.small) :
   Calls Tryz.prog 182 #[kZ m i s g, .int .i64 t] w (Ret w (GetR (m.get t))) := by
 obtain ⟨b1, b2, b3⟩ := hb
 generalize hp : m.get t = p
 have hno : ¬ (m.Valid ∧ aW t = true ∧ ¬ t ∈ m.threads) → p = (.zero, 0, 0, [], false) := fun h => by rw [← hp, Chan.get, if_neg h]
 refine cN Tryz.func182 rfl aA w _ rfl _ rfl _ h z112 _ _ (by decide) ?_
 refine AllSl.mk fun n0 => ?_
 refine aB _ jL0 rfl rfl rfl rfl ⟨rfl, rfl⟩ (fun A w hW => sA m i s g w ⟨z30, z30, z30, trivial⟩ ⟨b1, b2, b3⟩) ?_
 rintro v L ⟨rfl, rfl⟩
 refine CaseB.mk (fun h1 => ?_) (fun h1 => ?_)
 · obtain rfl := hno (fun h => zE h1 h.1)
   exact bY [97, 98, 99, 0] ⟨gI, gI, gI, n0, rfl, rfl⟩ z91 rfl ⟨rfl, rfl, rfl, rfl, trivial⟩ (fun _ => rfl)
 have h6 := cJ (nU h1).di
 have hi4 : m.items.length ≤ 4 := by have := (nU h1).it; have := (nU h1).r1; omega
 simp only [Chan.threads, List.length_append, List.length_map] at h6
 refine aB _ oS rfl rfl rfl rfl ⟨rfl, rfl⟩ (fun A w hW => eC _ w) ?_
 rintro v L ⟨rfl, rfl⟩
 refine CaseB.mk (fun h2 => ?_) (fun h2 => ?_)
 · obtain rfl := hno (fun h => by rw [h.2.1] at h2; cases h2)
   exact bY [97, 98, 99, 0] ⟨gI, gI, gI, n0, rfl, rfl⟩ z91 rfl ⟨rfl, rfl, rfl, rfl, trivial⟩ (fun _ => rfl)
 refine aB _ lA0 rfl rfl rfl rfl ⟨rfl, rfl⟩ (fun A w hW => xJ m i s g t w ⟨z30, z30, z30, trivial⟩ ⟨b1, b2, b3⟩ (by omega)) ?_
 rintro v L ⟨rfl, rfl⟩
 refine CaseB.mk (fun h3 => ?_) (fun h3 => ?_)
 · obtain rfl := hno (fun h => h.2.2 (by simpa using h3))
   exact bY [97, 98, 99, 0] ⟨gI, gI, gI, n0, rfl, rfl⟩ z91 rfl ⟨rfl, rfl, rfl, rfl, trivial⟩ (fun _ => rfl)
 have hok : m.Valid ∧ aW t = true ∧ ¬ t ∈ m.threads := ⟨nU h1, by simpa using h2, by simpa using h3⟩
 rw [Chan.get, if_pos hok] at hp
 refine aB _ dG0 rfl rfl rfl rfl ⟨rfl, rfl⟩ (fun A w hW => yM m i s g w ⟨z30, z30, z30, trivial⟩ ⟨b1, b2, b3⟩) ?_
 rintro v L ⟨i1, s1, g1, rfl, rfl⟩
 refine CaseB.mk (fun h4 => ?_) (fun h4 => ?_)
 · have hs : 0 < m.senders.length := by simpa using h4
   have hI : 0 < (m.items ++ [(m.senders[0]'hs).v]).length := by simp
   rw [kE0 hs, gWho1 hs, if_pos hI, hY0 hI] at hp
   subst hp
   refine aF jZ aA rfl rfl rfl rfl rfl ⟨rfl, rfl⟩ z31 0 rfl z37 (fun ad => ?_)
   refine AllSl.mk fun y => ?_
   refine cB aI aA (xs := m.items) (ys := [(m.senders[0]'hs).v]) rfl rfl rfl rfl rfl rfl rfl rfl rfl (by decide) ⟨rfl, rfl⟩ z35 z31 z37 z37 (fun i2 => ?_)
   refine AllSl.mk fun y => ?_
   refine mX aA rfl rfl rfl rfl ⟨rfl, rfl⟩ rfl rfl z31 (1) (m.senders.length) ((m.senders.drop 1)).length rfl rfl z37 z37 z37 ?_
   refine cB jZ aA (xs := []) rfl rfl rfl rfl rfl rfl rfl rfl rfl (by decide) ⟨rfl, rfl⟩ z35 (vH jZ 1 (by omega) (by first | exact gN 6 rfl | exact gN 7 rfl | exact gN 8 rfl | exact gN 5 rfl)) z37 z37 (fun s2 => ?_)
   refine aF jZ aA rfl rfl rfl rfl rfl ⟨rfl, rfl⟩ z31 0 rfl z37 (fun ad => ?_)
   refine AllSl.mk fun y => ?_
   refine cB aI aA (xs := []) (ys := [(m.senders[0]'hs).t]) rfl rfl rfl rfl rfl rfl rfl rfl rfl (by decide) ⟨rfl, rfl⟩ z35 z31 z37 z37 (fun r => ?_)
   refine CaseB.mk (fun h5 => ?_) (fun h5 => by simp at h5)
   refine AllSl.mk fun y => ?_
   refine mX aA rfl rfl rfl rfl ⟨rfl, rfl⟩ rfl rfl z31 (1) ((m.items ++ [(m.senders[0]'hs).v]).length) (((m.items ++ [(m.senders[0]'hs).v]).drop 1)).length rfl rfl z37 z37 z37 ?_
   refine cB aI aA (xs := []) rfl rfl rfl rfl rfl rfl rfl rfl rfl (by decide) ⟨rfl, rfl⟩ z35 (vH aI 1 (by simp) (by first | exact bF 1 rfl | exact bF 2 rfl | exact bF 3 rfl | exact bF 4 rfl | exact bF 5 rfl)) z37 z37 (fun i3 => ?_)
   refine aH aA z88 z88 z88 200 [((2, 0), .v (.int .i64 m.room)), ((2, 1), .v (i3.val ((m.items ++ [(m.senders[0]'hs).v]).drop 1).length)), ((2, 2), .v (s2.val (m.senders.drop 1).length)), ((2, 3), .v (g1.val m.getters.length)), ((2, 4), .v (.bool m.closed))] [0, 1, 2, 3, 4, 5, 6, 7, 8, 9, 10] [_, _, _, _, _, _, _, _, _, _, _] z94 z105 ⟨rfl, rfl, rfl, rfl, rfl, rfl, rfl, rfl, rfl, rfl, rfl, trivial⟩ rfl ?_
   refine bM (ti := aZ tab) aI aA rfl rfl rfl rfl rfl ⟨rfl, rfl⟩ z31 0 rfl z37 (fun ad => ?_)
   exact bY [0, 3, 7, 1] ⟨i3, s2, g1, r, rfl, rfl⟩ z97 rfl ⟨rfl, rfl, rfl, rfl, trivial⟩ (fun _ => rfl)
 · have hs : m.senders = [] := by simpa using h4
   rw [kF0 hs, gWho0 hs] at hp
   refine CaseB.mk (fun h5 => ?_) (fun h5 => ?_)
   · have hI : 0 < m.items.length := by simpa using h5
     rw [if_pos hI, hY0 hI] at hp
     subst hp
     refine AllSl.mk fun y => ?_
     refine mX aA rfl rfl rfl rfl ⟨rfl, rfl⟩ rfl rfl z31 (1) (m.items.length) ((m.items.drop 1)).length rfl rfl z37 z37 z37 ?_
     refine cB aI aA (xs := []) rfl rfl rfl rfl rfl rfl rfl rfl rfl (by decide) ⟨rfl, rfl⟩ z35 (vH aI 1 (by omega) (by first | exact bF 1 rfl | exact bF 2 rfl)) z37 z37 (fun i3 => ?_)
     refine aH aA z88 z88 z88 200 [((2, 0), .v (.int .i64 m.room)), ((2, 1), .v (i3.val (m.items.drop 1).length)), ((2, 2), .v (s1.val m.senders.length)), ((2, 3), .v (g1.val m.getters.length)), ((2, 4), .v (.bool m.closed))] [0, 1, 2, 3, 4, 5, 6, 7] [_, _, _, _, _, _, _, _] z94 z105 ⟨rfl, rfl, rfl, rfl, rfl, rfl, rfl, rfl, trivial⟩ rfl ?_
     refine bM (ti := aZ tab) aI aA rfl rfl rfl rfl rfl ⟨rfl, rfl⟩ z31 0 rfl z37 (fun ad => ?_)
     exact bY [0, 2, 3, 4] ⟨i3, s1, g1, n0, rfl, rfl⟩ z99 rfl ⟨rfl, rfl, rfl, rfl, trivial⟩ (fun _ => z59)
   · have hI : ¬ 0 < m.items.length := by simpa using h5
     have hI' : m.items = [] := by simpa using h5
     rw [if_neg hI] at hp
     refine CaseB.mk (fun h6 => ?_) (fun h6 => ?_)
     · rw [if_pos h6] at hp
       subst hp
       exact bY [0, 1, 2, 3] ⟨i1, s1, g1, n0, rfl, rfl⟩ z100 rfl ⟨rfl, rfl, rfl, rfl, trivial⟩ (fun _ => z58)
     · rw [if_neg (by simp [h6])] at hp
       subst hp
       refine AllSl.mk fun r => ?_
       refine cB aI aA (ys := [t]) rfl rfl rfl rfl rfl rfl rfl rfl rfl (by decide) ⟨rfl, rfl⟩ z35 z31 z37 z37 (fun g2 => ?_)
       exact bY [2, 3, 0, 4] ⟨i1, s1, g2, n0, rfl, rfl⟩ z100 rfl ⟨rfl, rfl, rfl, rfl, trivial⟩ (fun _ => z58)
def Chan.close (m : Chan) : Chan × List Int × Bool :=
 if m.Valid ∧ m.closed = false ∧ m.senders = [] then ({ m with senders := [], getters := [], closed := true }, m.getters, true) else (.zero, [], false)
def mO0 (p : Chan × List Int × Bool) (v : Value) (L : List Fct) : Prop :=
 ∃ i s g r : Sl, v = .tuple #[kZ p.1 i s g, r.val p.2.1.length, .bool p.2.2] ∧ L = [own i 3 aL 1 p.1.items, own s 164 jY 2 p.1.senders, own g 3 aL 1 p.1.getters, own r 3 aL 1 p.2.1]
theorem iA0 (m : Chan) (i s g : Sl) (w : World) (h : At w [slo i aL 1 m.items, slo s jY 2 m.senders, slo g aL 1 m.getters]) (hb : m.small) :
   Calls Tryz.prog 183 #[kZ m i s g] w (Ret w (mO0 m.close)) := by
 obtain ⟨b1, b2, b3⟩ := hb
 generalize hp : m.close = p
 have hno : ¬ (m.Valid ∧ m.closed = false ∧ m.senders = []) → p = (.zero, [], false) := fun h => by rw [← hp, Chan.close, if_neg h]
 refine bU Tryz.func183 rfl aA w _ rfl _ rfl _ h z112 _ (by decide) ?_
 refine aB _ jL0 rfl rfl rfl rfl ⟨rfl, rfl⟩ (fun A w hW => sA m i s g w ⟨z30, z30, z30, trivial⟩ ⟨b1, b2, b3⟩) ?_
 rintro v L ⟨rfl, rfl⟩
 refine CaseB.mk (fun h1 => ?_) (fun h1 => ?_)
 · obtain rfl := hno (fun h => zE h1 h.1)
   refine AllSl.mk fun r => ?_
   exact bY [96, 97, 98, 0] ⟨gI, gI, gI, r, rfl, rfl⟩ z91 rfl ⟨rfl, rfl, rfl, rfl, trivial⟩ (fun _ => rfl)
 refine CaseB.mk (fun h2 => ?_) (fun h2 => ?_)
 · obtain rfl := hno (fun h => by rw [h.2.1] at h2; cases h2)
   refine AllSl.mk fun r => ?_
   exact bY [96, 97, 98, 0] ⟨gI, gI, gI, r, rfl, rfl⟩ z91 rfl ⟨rfl, rfl, rfl, rfl, trivial⟩ (fun _ => rfl)
 refine CaseB.mk (fun h3 => ?_) (fun h3 => ?_)
 · obtain rfl := hno (fun h => by rw [h.2.2] at h3; simp at h3)
   refine AllSl.mk fun r => ?_
   exact bY [96, 97, 98, 0] ⟨gI, gI, gI, r, rfl, rfl⟩ z91 rfl ⟨rfl, rfl, rfl, rfl, trivial⟩ (fun _ => rfl)
 have hs : m.senders = [] := by simpa using h3
 rw [Chan.close, if_pos ⟨nU h1, h2, hs⟩] at hp
 subst hp
 refine aB _ dG0 rfl rfl rfl rfl ⟨rfl, rfl⟩ (fun A w hW => yM m i s g w ⟨z30, z30, z30, trivial⟩ ⟨b1, b2, b3⟩) ?_
 rintro v L ⟨i1, s1, g1, rfl, rfl⟩
 refine AllSl.mk fun g2 => ?_
 refine aH aA z88 z88 z88 200 [((2, 0), .v (.int .i64 m.room)), ((2, 1), .v (i1.val m.items.length)), ((2, 2), .v (s1.val m.senders.length)), ((2, 3), .v (g2.val 0)), ((2, 4), .lit true), ((0, 3), .v (g.val m.getters.length))] [0, 1, 2, 3, 4, 5, 6] [_, _, _, _, _, _, _] z93 z103 ⟨rfl, rfl, rfl, rfl, rfl, rfl, rfl, trivial⟩ rfl ?_
 refine AllSl.mk fun y => ?_
 refine oV (ti := aZ tab) aI aA (xs := []) rfl rfl rfl rfl rfl rfl rfl rfl rfl (by decide) ⟨rfl, rfl⟩ z35 z31 z37 z37 z86 (fun r => ?_)
 exact bY [2, 3, 1, 0] ⟨i1, s1, g2, r, rfl, rfl⟩ z99 rfl ⟨rfl, rfl, rfl, rfl, trivial⟩ (fun _ => z59)
def Chan.small8 (m : Chan) : Prop := m.items.length ≤ 8 ∧ m.senders.length ≤ 8 ∧ m.getters.length ≤ 8
theorem Chan.small8.small {m : Chan} (h : m.small8) : m.small := ⟨by have := h.1; omega, by have := h.2.1; omega, by have := h.2.2; omega⟩
theorem Chan.Valid.len {m : Chan} (h : m.Valid) : m.items.length ≤ 4 ∧ m.senders.length + m.getters.length ≤ 6 := by
 have h1 := cJ h.di
 have := h.it
 have := h.r1
 simp only [Chan.threads, List.length_append, List.length_map] at h1
 omega
theorem nV {xs ys : List Int} (h : ys.Sublist xs) (hd : aS xs = true) : aS ys = true := by
 simp only [aS, decide_eq_true_eq] at hd ⊢
 exact ⟨hd.1.sublist h, fun x hx => hd.2 x (h.subset hx)⟩
theorem fD {xs : List Int} {t : Int} (hd : aS xs = true) (h1 : aW t = true) (h2 : ¬ t ∈ xs) : aS (xs ++ [t]) = true := by
 simp only [aS, decide_eq_true_eq] at hd ⊢
 refine ⟨?_, fun x hx => ?_⟩
 · rw [List.nodup_append]
   refine ⟨hd.1, by simp, fun a ha b hb => ?_⟩
   simp at hb; subst hb
   rintro rfl; exact h2 ha
 · rcases List.mem_append.1 hx with hx | hx
   · exact hd.2 x hx
   · simp at hx; subst hx; exact h1
theorem zF {m : Chan} {t u : Int} (h : (m.send t u).2.2.2 = true) : m.Valid ∧ m.closed = false ∧ aW t = true ∧ aR u = true ∧ ¬ t ∈ m.threads := by
 rw [Chan.send] at h
 split at h
 · assumption
 · cases h
theorem mP0 {m : Chan} {t : Int} (h : (m.get t).2.2.2.2 = true) : m.Valid ∧ aW t = true ∧ ¬ t ∈ m.threads := by
 rw [Chan.get] at h
 split at h
 · assumption
 · cases h
theorem wC {m : Chan} (h : m.close.2.2 = true) : m.Valid ∧ m.closed = false ∧ m.senders = [] := by
 rw [Chan.close] at h
 split at h
 · assumption
 · cases h
theorem cR0 {m : Chan} {t u : Int} (h : (m.send t u).2.2.2 = true) : (m.send t u).1.Valid := by
 have hc := zF h
 obtain ⟨hv, h2, h3, h4, h5⟩ := hc
 rw [Chan.send, if_pos ⟨hv, h2, h3, h4, h5⟩]
 split
 · rename_i hg
   have hg' : m.getters ≠ [] := fun e => by rw [e] at hg; simp at hg
   have hs : m.senders = [] := Classical.byContradiction fun hn => hg' (hv.se hn).2.1
   refine ⟨hv.r0, hv.r1, hv.it, hv.iv, hv.sv, nV ?_ hv.di, fun hn => absurd hs hn, fun _ => hv.ge hg'⟩
   exact List.Sublist.append (List.Sublist.refl _) (List.drop_sublist _ _)
 · rename_i hg
   have hg' : m.getters = [] := by simpa using hg
   split
   · rename_i hi
     have hs : m.senders = [] := Classical.byContradiction fun hn => by have := (hv.se hn).1; omega
     refine ⟨hv.r0, hv.r1, by simp; omega, fun x hx => ?_, hv.sv, hv.di, fun hn => absurd hs hn, fun hn => absurd hg' hn⟩
     rcases List.mem_append.1 hx with hx | hx
     · exact hv.iv x hx
     · simp at hx; subst hx; exact h4
   · rename_i hi
     have := hv.it
     refine ⟨hv.r0, hv.r1, hv.it, hv.iv, fun x hx => ?_, ?_, fun _ => ⟨by simp; omega, hg', h2⟩, fun hn => absurd hg' hn⟩
     · rcases List.mem_append.1 hx with hx | hx
       · exact hv.sv x hx
       · simp at hx; subst hx; exact h4
     · have e : (Chan.threads { m with senders := m.senders ++ [⟨t, u⟩] }) = m.threads ++ [t] := by simp [Chan.threads, hg']
       rw [e]
       exact fD hv.di h3 h5
theorem fG0 {m : Chan} {t : Int} (h : (m.get t).2.2.2.2 = true) : (m.get t).1.Valid := by
 obtain ⟨hv, h3, h5⟩ := mP0 h
 rw [Chan.get, if_pos ⟨hv, h3, h5⟩]
 split
 · rename_i hI
   have hg : m.getters = [] := Classical.byContradiction fun hn => by
     have h1 := (hv.ge hn).1
     have hs : m.senders = [] := Classical.byContradiction fun hs => hn (hv.se hs).2.1
     rw [Chan.gItems, h1, hs] at hI
     simp at hI
   have hall : ∀ x ∈ m.gItems, aR x = true := fun x hx => by
     rcases List.mem_append.1 hx with hx | hx
     · exact hv.iv x hx
     · obtain ⟨l, hl, rfl⟩ := List.mem_map.1 hx
       exact hv.sv l (List.mem_of_mem_take hl)
   have hlen : ((m.gItems.drop 1).length : Int) ≤ m.room ∧ (m.senders ≠ [] → ((m.gItems.drop 1).length : Int) = m.room) := by
     have := hv.it
     cases hs : m.senders with
     | nil => simp [Chan.gItems, hs]; omega
     | cons a r => have := (hv.se (by simp [hs])).1; simp [Chan.gItems, hs]; omega
   refine ⟨hv.r0, hv.r1, hlen.1, fun x hx => hall x (List.mem_of_mem_drop hx), fun l hl => hv.sv l (List.mem_of_mem_drop hl), nV ?_ hv.di, fun hn => ?_, fun hn => absurd hg hn⟩
   · exact List.Sublist.append (List.Sublist.map _ (List.drop_sublist _ _)) (List.Sublist.refl _)
   · have hs : m.senders ≠ [] := fun e => by rw [e] at hn; simp at hn
     exact ⟨hlen.2 hs, hg, (hv.se hs).2.2⟩
 · rename_i hI
   have hI2 : m.items = [] ∧ m.senders = [] := by
     simp [Chan.gItems] at hI
     refine ⟨hI.1, ?_⟩
     cases hs : m.senders with
     | nil => rfl
     | cons a r => simp [hs] at hI
   have e : ({ m with items := [], senders := [] } : Chan) = m := by rw [← hI2.1]; cases m; simp at hI2; simp [hI2]
   split
   · rw [e]; exact hv
   · rename_i hcl
     have hcl' : m.closed = false := by simpa using hcl
     refine ⟨hv.r0, hv.r1, by have := hv.r0; simpa using this, by simp, by simp, ?_, fun hn => absurd rfl hn, fun _ => ⟨rfl, hcl'⟩⟩
     have e2 : (Chan.threads { m with items := [], senders := [], getters := m.getters ++ [t] }) = m.threads ++ [t] := by simp [Chan.threads, hI2.2]
     rw [e2]
     exact fD hv.di h3 h5
theorem aY0 {m : Chan} (h : m.close.2.2 = true) : m.close.1.Valid := by
 obtain ⟨hv, h1, h2⟩ := wC h
 rw [Chan.close, if_pos ⟨hv, h1, h2⟩]
 refine ⟨hv.r0, hv.r1, hv.it, hv.iv, by simp, ?_, fun hn => absurd rfl hn, fun hn => absurd rfl hn⟩
 simp [Chan.threads, aS]
def sD (p : Prog) (t : Nat) (a : Int) : Int := if a = ((p.threads.getD t []).length : Int) then 3 else 0
def goM (p : Prog) (s : State) (t : Int) : State :=
 { s with places := s.places.set t.toNat (s.places.getD t.toNat 0 + 1), status := s.status.set t.toNat (sD p t.toNat (s.places.getD t.toNat 0 + 1)) }
def onM (p : Prog) (who : List Int) (s : State) : State := who.foldl (goM p) s
def bI (s : State) (t st : Int) : State := { s with status := s.status.set t.toNat st }
theorem wD (p : Prog) (s : State) (t : Int) (u : Nat) (h0 : 0 ≤ t) : (goM p s t).places[u]? = if (u : Int) = t then s.places[u]?.map (· + 1) else s.places[u]? := by
 obtain ⟨k, rfl⟩ : ∃ k : Nat, t = k := ⟨_, (Int.toNat_of_nonneg h0).symm⟩
 simp only [goM, Int.toNat_natCast, List.getElem?_set]
 by_cases e : k = u
 · subst e
   simp only [if_true]
   by_cases hl : k < s.places.length
   · simp [hl]
   · simp [hl]
 · have e' : ¬ (u : Int) = k := by omega
   simp only [e, e', if_false]
theorem cS0 (p : Prog) (s : State) (t : Int) (u : Nat) (h0 : 0 ≤ t) : (goM p s t).status[u]? = if (u : Int) = t then s.status[u]?.map (fun _ => sD p u (s.places.getD u 0 + 1)) else s.status[u]? := by
 obtain ⟨k, rfl⟩ : ∃ k : Nat, t = k := ⟨_, (Int.toNat_of_nonneg h0).symm⟩
 simp only [goM, Int.toNat_natCast, List.getElem?_set]
 by_cases e : k = u
 · subst e
   simp only [if_true]
   by_cases hl : k < s.status.length
   · simp [hl]
   · simp [hl]
 · have e' : ¬ (u : Int) = k := by omega
   simp only [e, e', if_false]
theorem wE (p : Prog) : ∀ (who : List Int) (s : State), who.Nodup → (∀ x ∈ who, 0 ≤ x) → ∀ u : Nat, (onM p who s).places[u]? = if (u : Int) ∈ who then s.places[u]?.map (· + 1) else s.places[u]?
 | [], s, _, _, u => by simp [onM]
 | x :: r, s, hd, h0, u => by
   have hd' := List.nodup_cons.1 hd
   have ih := wE p r (goM p s x) hd'.2 (fun y hy => h0 y (List.mem_cons_of_mem _ hy)) u
   have e : onM p (x :: r) s = onM p r (goM p s x) := rfl
   rw [e, ih, wD p s x u (h0 x (by simp))]
   by_cases h1 : (u : Int) = x
   · have h2 : ¬ (u : Int) ∈ r := fun h => hd'.1 (h1 ▸ h)
     rw [if_neg h2, if_pos h1, if_pos (by simp [h1])]
   · rw [if_neg h1]
     by_cases h2 : (u : Int) ∈ r
     · rw [if_pos h2, if_pos (List.mem_cons_of_mem _ h2)]
     · rw [if_neg h2, if_neg (by simp [h1, h2])]
theorem wF (p : Prog) : ∀ (who : List Int) (s : State), who.Nodup → (∀ x ∈ who, 0 ≤ x) → ∀ u : Nat, (onM p who s).status[u]? = if (u : Int) ∈ who then s.status[u]?.map (fun _ => sD p u (s.places.getD u 0 + 1)) else s.status[u]?
 | [], s, _, _, u => by simp [onM]
 | x :: r, s, hd, h0, u => by
   have hd' := List.nodup_cons.1 hd
   have ih := wF p r (goM p s x) hd'.2 (fun y hy => h0 y (List.mem_cons_of_mem _ hy)) u
   have e : onM p (x :: r) s = onM p r (goM p s x) := rfl
   rw [e, ih, cS0 p s x u (h0 x (by simp))]
   by_cases h1 : (u : Int) = x
   · have h2 : ¬ (u : Int) ∈ r := fun h => hd'.1 (h1 ▸ h)
     rw [if_neg h2, if_pos h1, if_pos (by simp [h1])]
   · rw [if_neg h1]
     by_cases h2 : (u : Int) ∈ r
     · rw [if_pos h2, if_pos (List.mem_cons_of_mem _ h2)]
       have h3 : (goM p s x).places.getD u 0 = s.places.getD u 0 := by
         rw [List.getD_eq_getElem?_getD, List.getD_eq_getElem?_getD, wD p s x u (h0 x (by simp)), if_neg h1]
       rw [h3]
     · rw [if_neg h2, if_neg (by simp [h1, h2])]
theorem nF (p : Prog) : ∀ (who : List Int) (s : State), ∃ pl st, onM p who s = { s with places := pl, status := st } ∧ pl.length = s.places.length ∧ st.length = s.status.length
 | [], s => ⟨s.places, s.status, rfl, rfl, rfl⟩
 | x :: r, s => by
   obtain ⟨pl, st, h, h1, h2⟩ := nF p r (goM p s x)
   refine ⟨pl, st, ?_, ?_, ?_⟩
   · have e : onM p (x :: r) s = onM p r (goM p s x) := rfl
     rw [e, h]; rfl
   · rw [h1]; simp [goM]
   · rw [h2]; simp [goM]
def Swap {β : Type} (es es' fx fx' : List β) : Prop := ∃ A B, es = A ++ fx ++ B ∧ es' = A ++ fx' ++ B
theorem Swap.l {β : Type} {es es' fx fx' : List β} (h : Swap es es' fx fx') (Q : List β) : Swap (es ++ Q) (es' ++ Q) fx fx' := by
 obtain ⟨A, B, rfl, rfl⟩ := h
 exact ⟨A, B ++ Q, by simp, by simp⟩
theorem Swap.r {β : Type} {es es' fx fx' : List β} (h : Swap es es' fx fx') (Q : List β) : Swap (Q ++ es) (Q ++ es') fx fx' := by
 obtain ⟨A, B, rfl, rfl⟩ := h
 exact ⟨Q ++ A, B, by simp, by simp⟩
theorem nG {α β : Type} (f : Nat → α → List β) {xs : List α} {i : Nat} {x : α} (h : xs[i]? = some x) (x' : α) : Swap (evL f 0 xs) (evL f 0 (xs.set i x')) (f i x) (f i x') := by
 have : ∀ (xs : List α) (j i : Nat), xs[i]? = some x → Swap (evL f j xs) (evL f j (xs.set i x')) (f (j + i) x) (f (j + i) x') := by
   intro xs
   induction xs with
   | nil => intro j i h; simp at h
   | cons y r ih =>
     intro j i h
     cases i with
     | zero =>
       simp at h; subst h
       exact ⟨[], evL f (j + 1) r, by simp [evL], by simp [evL]⟩
     | succ i =>
       have := (ih (j + 1) i z83).r (f j y)
       rw [show j + 1 + i = j + (i + 1) by omega] at this
       exact this
 have h2 := this xs 0 i h
 rwa [Nat.zero_add] at h2
theorem cU {β : Type} (a b : List (Int × β)) (t : Int) : aK (a ++ b) t = aK a t ++ aK b t := by simp [aK]
theorem Swap.same {β : Type} {es es' fx fx' : List (Int × β)} (h : Swap es es' fx fx') {u : Int} (e : aK fx' u = aK fx u) : aK es' u = aK es u := by
 obtain ⟨A, B, rfl, rfl⟩ := h
 simp only [cU, e]
theorem Swap.gone {β : Type} {es es' fx fx' : List (Int × β)} (h : Swap es es' fx fx') {u : Int} (h1 : aK fx u ≠ []) (h2 : aK fx' u = []) (h3 : (aK es u).length ≤ 1) : aK es' u = [] := by
 obtain ⟨A, B, rfl, rfl⟩ := h
 simp only [cU, List.length_append] at h3 ⊢
 have h4 : 0 < (aK fx u).length := List.length_pos_iff.2 h1
 have a0 : aK A u = [] := List.eq_nil_of_length_eq_zero (by omega)
 have b0 : aK B u = [] := List.eq_nil_of_length_eq_zero (by omega)
 rw [a0, b0, h2]; rfl
theorem Swap.none {β : Type} {es es' fx fx' : List (Int × β)} (h : Swap es es' fx fx') {u : Int} (h1 : aK es u = []) : aK fx u = [] := by
 obtain ⟨A, B, rfl, rfl⟩ := h
 simp only [cU, List.append_eq_nil_iff] at h1
 exact h1.1.2
theorem Swap.come {β : Type} {es es' fx fx' : List (Int × β)} (h : Swap es es' fx fx') {u : Int} (h1 : aK es u = []) : aK es' u = aK fx' u := by
 obtain ⟨A, B, rfl, rfl⟩ := h
 simp only [cU, List.append_eq_nil_iff] at h1 ⊢
 rw [h1.1.1, h1.2]; simp
theorem Swap.from {β : Type} {es es' fx fx' : List (Int × β)} (h : Swap es es' fx fx') {t : Int} (hk : ∀ u, u ≠ t → aK fx u = [] → aK fx' u = []) : ∀ e ∈ es', e.1 = t ∨ ∃ e2 ∈ es, e2.1 = e.1 := by
 intro e he
 by_cases ht : e.1 = t
 · exact .inl ht
 refine .inr (Classical.byContradiction fun hn => ?_)
 have h0 : aK es e.1 = [] := nE.2 fun e2 h2 h3 => hn ⟨e2, h2, h3⟩
 have h1 := h.come h0
 rw [hk e.1 ht (h.none h0)] at h1
 exact nE.1 h1 e he rfl
theorem Swap.refl {β : Type} (es : List β) : Swap es es [] [] := ⟨es, [], by simp, by simp⟩
theorem nH {s : State} {i : Nat} {x : Sem} (h : s.sems[i]? = some x) (x' : Sem) : Swap (bB s) (bB { s with sems := s.sems.set i x' }) (cO i x) (cO i x') := ((((nG cO h x').l _).l _).l _).l _
theorem qW {s : State} {i : Nat} {x : Once} (h : s.onces[i]? = some x) (x' : Once) : Swap (bB s) (bB { s with onces := s.onces.set i x' }) (bX i x) (bX i x') := ((((nG bX h x').r _).l _).l _).l _
theorem jU {s : State} {i : Nat} {x : Group} (h : s.groups[i]? = some x) (x' : Group) : Swap (bB s) (bB { s with groups := s.groups.set i x' }) (cA i x) (cA i x') := (((nG cA h x').r _).l _).l _
theorem mM {s : State} {i : Nat} {x : Barrier} (h : s.barriers[i]? = some x) (x' : Barrier) : Swap (bB s) (bB { s with barriers := s.barriers.set i x' }) (bQ i x) (bQ i x') := ((nG bQ h x').r _).l _
theorem gJ {s : State} {i : Nat} {x : Chan} (h : s.chans[i]? = some x) (x' : Chan) : Swap (bB s) (bB { s with chans := s.chans.set i x' }) (cK i x) (cK i x') := (nG cK h x').r _
theorem iB0 {s : State} {i : Nat} {x : Once} (h : s.onces[i]? = some x) (x' : Once) : Swap (bO s) (bO { s with onces := s.onces.set i x' }) (gB i x) (gB i x') := nG gB h x'
theorem SharedOk.of {p : Prog} {s s' : State} (h : SharedOk p s) (e1 : s'.sems = s.sems) (e2 : s'.onces = s.onces) (e3 : s'.groups = s.groups) (e4 : s'.barriers = s.barriers) (e5 : s'.chans = s.chans) : SharedOk p s' := by
 obtain ⟨a, b, c, d, e, f, g, i, j, k⟩ := h
 exact ⟨by rw [e1]; exact a, by rw [e3]; exact b, by rw [e4]; exact c, by rw [e5]; exact d, by rw [e2]; exact e, by rw [e1]; exact f, by rw [e3]; exact g, by rw [e4]; exact i, by rw [e5]; exact j, by rw [e2]; exact k⟩
theorem zG {α : Type} {P : Nat → α → Prop} {xs : List α} (h : ∀ (i : Nat) x, xs[i]? = some x → P i x) {i : Nat} {x' : α} (h1 : P i x') : ∀ (j : Nat) x, (xs.set i x')[j]? = some x → P j x := by
 intro j x hx
 rw [List.getElem?_set] at hx
 split at hx
 · rename_i e
   subst e
   split at hx
   · injection hx with hx; subst hx; exact h1
   · cases hx
 · exact h j x hx
theorem zH {α : Type} {P : α → Prop} {xs : List α} (h : ∀ x ∈ xs, P x) {i : Nat} {x' : α} (h1 : P x') : ∀ x ∈ xs.set i x', P x := fun x hx => by
 rcases List.mem_or_eq_of_mem_set hx with hx | rfl
 · exact h x hx
 · exact h1
theorem SharedOk.setSem {p : Prog} {s : State} (h : SharedOk p s) {i : Nat} {x x' : Sem} (hx : s.sems[i]? = some x) (ok : SemOk x') (e : x'.limit = x.limit) : SharedOk p { s with sems := s.sems.set i x' } :=
 { h with lsems := by simpa using h.lsems, sems := zG h.sems ⟨ok, by rw [e]; exact (h.sems i x hx).2⟩ }
theorem SharedOk.setOnce {p : Prog} {s : State} (h : SharedOk p s) {i : Nat} {x' : Once} (ok : cS x') : SharedOk p { s with onces := s.onces.set i x' } :=
 { h with lonces := by simpa using h.lonces, onces := zH h.onces ok }
theorem SharedOk.setGroup {p : Prog} {s : State} (h : SharedOk p s) {i : Nat} {x' : Group} (ok : fE x') : SharedOk p { s with groups := s.groups.set i x' } :=
 { h with lgroups := by simpa using h.lgroups, groups := zH h.groups ok }
theorem SharedOk.setBarrier {p : Prog} {s : State} (h : SharedOk p s) {i : Nat} {x x' : Barrier} (hx : s.barriers[i]? = some x) (ok : dE x') (e : x'.parties = x.parties) : SharedOk p { s with barriers := s.barriers.set i x' } :=
 { h with lbarriers := by simpa using h.lbarriers, barriers := zG h.barriers ⟨ok, by rw [e]; exact (h.barriers i x hx).2⟩ }
theorem SharedOk.setChan {p : Prog} {s : State} (h : SharedOk p s) {i : Nat} {x x' : Chan} (hx : s.chans[i]? = some x) (ok : x'.valid = true) (e : x'.room = x.room) : SharedOk p { s with chans := s.chans.set i x' } :=
 { h with lchans := by simpa using h.lchans, chans := zG h.chans ⟨ok, by rw [e]; exact (h.chans i x hx).2⟩ }
def Th (p : Prog) (s s' : State) (ops : List Op) (u : Nat) (a st a' st' : Int) : Prop :=
 (a' = a ∧ st' = st ∧ aK (bB s') u = aK (bB s) u ∧ aK (bO s') u = aK (bO s) u) ∨
 (a' = a + 1 ∧ st' = sD p u (a + 1) ∧ a < ops.length ∧ aK (bB s') u = [] ∧ aK (bO s') u = []) ∨
 ∃ op, ops[a.toNat]? = some op ∧ a' = a ∧ ((st' = 1 ∧ aK (bB s') u = [iV op] ∧ aK (bO s') u = []) ∨ (st' = 2 ∧ aK (bB s') u = [] ∧ op.kind = 4 ∧ aK (bO s') u = [op.on]))
theorem Th.ok {p : Prog} {s s' : State} {ops : List Op} {u : Nat} {a st a' st' : Int} (h : Th p s s' ops u a st a' st') (hp : p.threads[u]? = some ops) (h0 : jS ops a st (aK (bB s) u) (aK (bO s) u)) : jS ops a' st' (aK (bB s') u) (aK (bO s') u) := by
 rcases h with ⟨rfl, rfl, e1, e2⟩ | ⟨rfl, rfl, hl, e1, e2⟩ | ⟨op, ho, rfl, h⟩
 · rw [e1, e2]; exact h0
 · obtain ⟨a0, a1, _⟩ := h0
   have hg : p.threads.getD u [] = ops := by rw [List.getD_eq_getElem?_getD, hp]; rfl
   rw [e1, e2]
   refine ⟨by omega, by omega, ?_⟩
   by_cases e : a + 1 = (ops.length : Int)
   · exact .inl ⟨e, by rw [sD, hg, if_pos e], rfl, rfl⟩
   · refine .inr ⟨ops[(a + 1).toNat]'(by omega), List.getElem?_eq_getElem _, .inl ⟨by rw [sD, hg, if_neg e], rfl, rfl⟩⟩
 · obtain ⟨a0, a1, _⟩ := h0
   refine ⟨a0, a1, .inr ⟨op, ho, ?_⟩⟩
   rcases h with ⟨rfl, e1, e2⟩ | ⟨rfl, e1, e2, e3⟩
   · exact .inr (.inl ⟨rfl, e2, e1⟩)
   · exact .inr (.inr ⟨rfl, e1, e2, e3⟩)
theorem Fits.len1 {p : Prog} {s : State} (ft : Fits p s) (u : Nat) (hu : u < p.threads.length) : (aK (bB s) u).length ≤ 1 := by
 obtain ⟨a0, a1, h⟩ := ft.threads u _ _ _ (List.getElem?_eq_getElem hu) (List.getElem?_eq_getElem (by rw [ft.np]; exact hu)) (List.getElem?_eq_getElem (by rw [ft.ns]; exact hu))
 rcases h with ⟨_, _, e, _⟩ | ⟨op, _, ⟨_, e, _⟩ | ⟨_, _, e⟩ | ⟨_, e, _⟩⟩ <;> rw [e] <;> simp
theorem Fits.isIn {p : Prog} {s : State} (ft : Fits p s) {u : Int} (h : aK (bB s) u ≠ []) : 0 ≤ u ∧ u < p.threads.length := by
 match hc : aK (bB s) u with
 | [] => exact (h hc).elim
 | x :: r =>
   have hm : x ∈ aK (bB s) u := by rw [hc]; simp
   exact ft.ev _ (iH.1 hm)
theorem Fits.waiting {p : Prog} {s : State} (ft : Fits p s) {u : Nat} {ops : List Op} {a st : Int} (h1 : p.threads[u]? = some ops) (h2 : s.places[u]? = some a) (h3 : s.status[u]? = some st) (h : aK (bB s) u ≠ []) : a < ops.length ∧ aK (bO s) u = [] ∧ st = 1 := by
 obtain ⟨a0, a1, h4⟩ := ft.threads u ops a st h1 h2 h3
 rcases h4 with ⟨_, _, e, _⟩ | ⟨op, h5, ⟨_, e, _⟩ | ⟨e1, e2, _⟩ | ⟨_, e, _⟩⟩
 · exact (h e).elim
 · exact (h e).elim
 · have := (List.getElem?_eq_some_iff.1 h5).1
   exact ⟨by omega, e2, e1⟩
 · exact (h e).elim
theorem Fits.move {p : Prog} {s s' : State} (ft : Fits p s) {t : Nat} {who : List Int} {fx fx' : List (Int × Waiting)} (sh : SharedOk p s')
   (lp : s'.places.length = s.places.length) (ls : s'.status.length = s.status.length)
   (lsaid : s'.said.length ≤ 64) (said : ∀ v ∈ s'.said, aR v = true) (f0 : 0 ≤ s'.fault) (f4 : s'.fault ≤ 4)
   (sw : Swap (bB s) (bB s') fx fx') (ow : ∀ u : Int, u ≠ t → aK (bO s') u = aK (bO s) u)
   (hw : ∀ u ∈ who, u ≠ t → aK fx u ≠ [] ∧ aK fx' u = []) (ho : ∀ u, u ∉ who → u ≠ t → aK fx' u = aK fx u)
   (pl : ∀ u : Nat, u ≠ t → s'.places[u]? = if (u : Int) ∈ who then s.places[u]?.map (· + 1) else s.places[u]?)
   (st : ∀ u : Nat, u ≠ t → s'.status[u]? = if (u : Int) ∈ who then s.status[u]?.map (fun _ => sD p u (s.places.getD u 0 + 1)) else s.status[u]?)
   (ht : ∀ ops a st, p.threads[t]? = some ops → s.places[t]? = some a → s.status[t]? = some st → ∃ a' st', s'.places[t]? = some a' ∧ s'.status[t]? = some st' ∧ Th p s s' ops t a st a' st') (tn : t < p.threads.length) : Fits p s' := by
 have key : ∀ u : Int, u ≠ t → aK fx u = [] → aK fx' u = [] := fun u hu h0 => by
   by_cases hm : u ∈ who
   · exact (hw u hm hu).2
   · rw [ho u hm hu, h0]
 have hev : ∀ e ∈ bB s', 0 ≤ e.1 ∧ e.1 < (p.threads.length : Int) := fun e he => by
   rcases sw.from key e he with h | ⟨e2, h2, h3⟩
   · rw [h]; omega
   · rw [← h3]; exact ft.ev _ h2
 have how : ∀ e ∈ bO s', 0 ≤ e.1 ∧ e.1 < (p.threads.length : Int) := fun e he => by
   by_cases hu : e.1 = t
   · rw [hu]; omega
   · have hm : e.2 ∈ aK (bO s') e.1 := iH.2 he
     rw [ow e.1 hu] at hm
     exact ft.ow _ (iH.1 hm)
 refine ⟨ft.prog, by rw [lp, ft.np], by rw [ls, ft.ns], sh.lsems, sh.lgroups, sh.lbarriers, sh.lchans, sh.lonces, lsaid, f0, f4, sh.sems, sh.groups, sh.barriers, sh.chans, sh.onces, said, fun u ops a' st' h1 h2 h3 => ?_, hev, how⟩
 have hu : u < p.threads.length := (List.getElem?_eq_some_iff.1 h1).1
 have hup : u < s.places.length := by rw [ft.np]; exact hu
 have hus : u < s.status.length := by rw [ft.ns]; exact hu
 have g2 : s.places[u]? = some s.places[u] := List.getElem?_eq_getElem hup
 have g3 : s.status[u]? = some s.status[u] := List.getElem?_eq_getElem hus
 have h0 := ft.threads u ops _ _ h1 g2 g3
 by_cases e : u = t
 · subst e
   obtain ⟨a2, st2, k1, k2, k3⟩ := ht ops _ _ h1 g2 g3
   rw [h2] at k1; rw [h3] at k2
   injection k1 with k1; injection k2 with k2
   subst k1; subst k2
   exact k3.ok h1 h0
 · have e' : (u : Int) ≠ t := by omega
   have p1 := pl u e
   have p2 := st u e
   rw [h2, g2] at p1
   rw [h3, g3] at p2
   by_cases hm : (u : Int) ∈ who
   · rw [if_pos hm] at p1 p2
     simp only [Option.map_some, Option.some.injEq] at p1 p2
     obtain ⟨w1, w2⟩ := hw u hm e'
     have hne : aK (bB s) u ≠ [] := fun h => w1 (sw.none h)
     obtain ⟨q1, q2, q3⟩ := ft.waiting h1 g2 g3 hne
     refine Th.ok (s := s) (a := s.places[u]) (st := s.status[u]) (.inr (.inl ⟨p1, ?_, q1, sw.gone w1 w2 (ft.len1 u hu), by rw [ow u e', q2]⟩)) h1 h0
     rw [p2, List.getD_eq_getElem?_getD, g2]; rfl
   · rw [if_neg hm] at p1 p2
     injection p1 with p1; injection p2 with p2
     exact Th.ok (s := s) (a := s.places[u]) (st := s.status[u]) (.inl ⟨p1, p2, sw.same (ho u hm e'), ow u e'⟩) h1 h0
def Sem.acquire (m : Sem) (t n : Int) : Sem × Bool :=
 if m.queue = [] ∧ n ≤ m.free then ({ m with free := m.free - n }, true) else ({ m with queue := m.queue ++ [⟨t, n⟩] }, false)
def dZ : Int → List Waiter → Int × List Int × List Waiter
 | f, [] => (f, [], [])
 | f, w :: r => if w.n ≤ f then ((dZ (f - w.n) r).1, w.t :: (dZ (f - w.n) r).2.1, (dZ (f - w.n) r).2.2) else (f, [], w :: r)
def Sem.release (m : Sem) (n : Int) : Option (Sem × List Int) :=
 if n ≤ m.limit - m.free then some (⟨(dZ (m.free + n) m.queue).1, m.limit, (dZ (m.free + n) m.queue).2.2⟩, (dZ (m.free + n) m.queue).2.1) else none
def Once.enter (m : Once) (t : Int) : Once × Int :=
 if m.state = 0 then (⟨1, t, 0, []⟩, 0) else if m.state = 1 then ({ m with waits := m.waits ++ [t] }, 1) else (m, 2)
def Once.finish (m : Once) (t v : Int) : Once × List Int := (⟨2, t, v, []⟩, m.waits)
def Group.add (m : Group) (n : Int) : Option (Group × List Int) :=
 if aR (m.count + n) = true then (if m.count + n = 0 then some (⟨0, []⟩, m.waits) else some (⟨m.count + n, m.waits⟩, [])) else none
def Group.wait (m : Group) (t : Int) : Group × Bool := if m.count = 0 then (⟨0, []⟩, true) else (⟨m.count, m.waits ++ [t]⟩, false)
def Barrier.arrive (m : Barrier) (t : Int) : Option (Barrier × List Int) :=
 if (m.waits.length : Int) + 1 < m.parties then some (⟨m.parties, m.round, m.waits ++ [t]⟩, [])
 else if m.round = 9999 then none else some (⟨m.parties, m.round + 1, []⟩, m.waits ++ [t])
def fH0 (p : Prog) (s : State) (t : Int) : Op := (p.threads.getD t.toNat []).getD (s.places.getD t.toNat 0).toNat Op0
def xU (s : State) (o : Op) : Sem := s.sems.getD o.on.toNat ⟨0, 0, []⟩
def nW (s : State) (o : Op) : Once := s.onces.getD o.on.toNat ⟨0, 0, 0, []⟩
def pV (s : State) (o : Op) : Group := s.groups.getD o.on.toNat ⟨0, []⟩
def gT (s : State) (o : Op) : Barrier := s.barriers.getD o.on.toNat ⟨0, 0, []⟩
def fS (s : State) (o : Op) : Chan := s.chans.getD o.on.toNat .zero
def setSem (s : State) (o : Op) (x : Sem) : State := { s with sems := s.sems.set o.on.toNat x }
def setOnce (s : State) (o : Op) (x : Once) : State := { s with onces := s.onces.set o.on.toNat x }
def setGroup (s : State) (o : Op) (x : Group) : State := { s with groups := s.groups.set o.on.toNat x }
def setBarrier (s : State) (o : Op) (x : Barrier) : State := { s with barriers := s.barriers.set o.on.toNat x }
def setChan (s : State) (o : Op) (x : Chan) : State := { s with chans := s.chans.set o.on.toNat x }
def kR (s : State) (v : Int) : State := { s with said := s.said ++ [v] }
def kD (s : State) (f : Int) : State := { s with fault := f }
def kU (p : Prog) (s : State) (t : Int) (o : Op) : State :=
 if ((xU s o).acquire t o.arg).2 = true then onM p [t] (setSem s o ((xU s o).acquire t o.arg).1) else bI (setSem s o ((xU s o).acquire t o.arg).1) t 1
def kV (p : Prog) (s : State) (t : Int) (o : Op) : State :=
 match (xU s o).release o.arg with
 | none => kD s 1
 | some r => onM p (r.2 ++ [t]) (setSem s o r.1)
def pE (p : Prog) (s : State) (t : Int) (o : Op) : State :=
 if s.status.getD t.toNat 0 = 2 then onM p (((nW s o).finish t o.arg).2 ++ [t]) (setOnce s o ((nW s o).finish t o.arg).1)
 else if ((nW s o).enter t).2 = 0 then bI (setOnce s o ((nW s o).enter t).1) t 2
 else if ((nW s o).enter t).2 = 1 then bI (setOnce s o ((nW s o).enter t).1) t 1
 else onM p [t] (setOnce s o ((nW s o).enter t).1)
def xV (p : Prog) (s : State) (t : Int) (o : Op) : State :=
 match (pV s o).add o.arg with
 | none => kD s 2
 | some r => onM p (r.2 ++ [t]) (setGroup s o r.1)
def tC (p : Prog) (s : State) (t : Int) (o : Op) : State :=
 if ((pV s o).wait t).2 = true then onM p [t] (setGroup s o ((pV s o).wait t).1) else bI (setGroup s o ((pV s o).wait t).1) t 1
def iW (p : Prog) (s : State) (t : Int) (o : Op) : State :=
 match (gT s o).arrive t with
 | none => bI (setBarrier s o ⟨0, 0, []⟩) t 1
 | some r => if r.2 = [] then bI (setBarrier s o r.1) t 1 else onM p r.2 (setBarrier s o r.1)
def nX (p : Prog) (s : State) (t : Int) (o : Op) : State :=
 if ((fS s o).send t o.arg).2.2.2 = true then
   if ((fS s o).send t o.arg).2.2.1 = true then
     onM p (((fS s o).send t o.arg).2.1 ++ [t]) (if ((fS s o).send t o.arg).2.1 = [] then setChan s o ((fS s o).send t o.arg).1 else kR (setChan s o ((fS s o).send t o.arg).1) o.arg)
   else bI (setChan s o ((fS s o).send t o.arg).1) t 1
 else kD s 3
def uC (p : Prog) (s : State) (t : Int) (o : Op) : State :=
 if ((fS s o).get t).2.2.1 = 0 then bI (setChan s o ((fS s o).get t).1) t 1
 else onM p (((fS s o).get t).2.2.2.1 ++ [t]) (if ((fS s o).get t).2.2.1 = 1 then kR (setChan s o ((fS s o).get t).1) ((fS s o).get t).2.1 else setChan s o ((fS s o).get t).1)
def pW (p : Prog) (s : State) (t : Int) (o : Op) : State :=
 if (fS s o).close.2.2 = true then onM p ((fS s o).close.2.1 ++ [t]) (setChan s o (fS s o).close.1) else kD s 4
def dG (p : Prog) (s : State) (t : Int) (o : Op) : State :=
 if o.kind = 1 then onM p [t] (kR s o.arg)
 else if o.kind = 2 then kU p s t o
 else if o.kind = 3 then kV p s t o
 else if o.kind = 4 then pE p s t o
 else if o.kind = 5 then xV p s t o
 else if o.kind = 6 then tC p s t o
 else if o.kind = 7 then iW p s t o
 else if o.kind = 8 then nX p s t o
 else if o.kind = 9 then uC p s t o
 else pW p s t o
def doM (p : Prog) (s : State) (t : Int) : State := dG p s t (fH0 p s t)
def zI (p : Prog) (s : State) (t : Int) : Prop := (fH0 p s t).kind = 7 ∧ (gT s (fH0 p s t)).arrive t = none
structure Rdy (p : Prog) (s : State) (k : Nat) (ops : List Op) (a st : Int) (op : Op) : Prop where
 ft : Fits p s
 f : s.fault = 0
 kn : k < p.threads.length
 h1 : p.threads[k]? = some ops
 h2 : s.places[k]? = some a
 h3 : s.status[k]? = some st
 a0 : 0 ≤ a
 ho : ops[a.toNat]? = some op
 ev : aK (bB s) k = []
 ow : (st = 0 ∧ aK (bO s) k = []) ∨ (st = 2 ∧ op.kind = 4 ∧ aK (bO s) k = [op.on])
 ok : OpOk p op
 at_ : fH0 p s k = op
theorem wG {s : State} {t : Int} (h : t ∈ dK s) : s.fault = 0 ∧ ∃ (k : Nat) (st : Int), t = k ∧ s.status[k]? = some st ∧ (st = 0 ∨ st = 2) := by
 rw [dK] at h
 split at h
 · rename_i hf
   obtain ⟨k, st, h1, h2⟩ := vY.1 h
   rw [jJ] at h2
   split at h2
   · rename_i h3
     exact ⟨hf, k, st, by simpa using h2, h1, h3⟩
   · cases h2
 · cases h
theorem rdy {p : Prog} {s : State} (ft : Fits p s) {t : Int} (h : t ∈ dK s) : ∃ (k : Nat) (ops : List Op) (a st : Int) (op : Op), t = k ∧ Rdy p s k ops a st op := by
 obtain ⟨hf, k, st, rfl, h3, h4⟩ := wG h
 have hs : k < s.status.length := (List.getElem?_eq_some_iff.1 h3).1
 have hk : k < p.threads.length := by rw [← ft.ns]; exact hs
 have hp : k < s.places.length := by rw [ft.np]; exact hk
 have h1 : p.threads[k]? = some p.threads[k] := List.getElem?_eq_getElem hk
 have h2 : s.places[k]? = some s.places[k] := List.getElem?_eq_getElem hp
 obtain ⟨a0, a1, h5⟩ := ft.threads k _ _ _ h1 h2 h3
 rcases h5 with ⟨_, e, _⟩ | ⟨op, ho, h5⟩
 · omega
 · have hok : OpOk p op := (ft.prog.ops _ (List.mem_of_getElem? h1)).2 _ (List.mem_of_getElem? ho)
   have hat : fH0 p s (k : Int) = op := by
     simp only [fH0, Int.toNat_natCast, List.getD_eq_getElem?_getD, h1, h2, Option.getD_some, ho]
   refine ⟨k, p.threads[k], s.places[k], st, op, rfl, ft, hf, hk, h1, h2, h3, a0, ho, ?_, ?_, hok, hat⟩
   · rcases h5 with ⟨_, e, _⟩ | ⟨e, _, _⟩ | ⟨_, e, _⟩
     · exact e
     · omega
     · exact e
   · rcases h5 with ⟨e1, _, e⟩ | ⟨e, _, _⟩ | ⟨e1, _, e2, e3⟩
     · exact .inl ⟨e1, e⟩
     · omega
     · exact .inr ⟨e1, e2, e3⟩
theorem Rdy.own0 {p : Prog} {s : State} {k : Nat} {ops : List Op} {a st : Int} {op : Op} (r : Rdy p s k ops a st op) (h : op.kind ≠ 4) : aK (bO s) k = [] := by
 rcases r.ow with ⟨_, e⟩ | ⟨_, e, _⟩
 · exact e
 · exact (h e).elim
theorem Rdy.thr {p : Prog} {s : State} {k : Nat} {ops : List Op} {a st : Int} {op : Op} (r : Rdy p s k ops a st op) : aW (k : Int) = true := by
 have := r.ft.prog.n4
 have := r.kn
 simp [aW]; omega
theorem Rdy.alt {p : Prog} {s : State} {k : Nat} {ops : List Op} {a st : Int} {op : Op} (r : Rdy p s k ops a st op) : a < ops.length := by
 have h := (List.getElem?_eq_some_iff.1 r.ho).1
 have := r.a0
 omega
theorem Rdy.onFits {p : Prog} {s : State} {k : Nat} {ops : List Op} {a st : Int} {op : Op} (r : Rdy p s k ops a st op) {s1 : State} {who : List Int} {fx fx' : List (Int × Waiting)} (sh : SharedOk p s1)
   (e1 : s1.places = s.places) (e2 : s1.status = s.status) (e3 : s1.fault = s.fault) (lsaid : s1.said.length ≤ 64) (said : ∀ v ∈ s1.said, aR v = true)
   (sw : Swap (bB s) (bB s1) fx fx') (ow : ∀ u : Int, u ≠ k → aK (bO s1) u = aK (bO s) u) (owk : aK (bO s1) k = [])
   (hd : who.Nodup) (hw : ∀ u ∈ who, aK fx u ≠ [] ∧ aK fx' u = []) (ho : ∀ u, u ∉ who → u ≠ k → aK fx' u = aK fx u) (hk : aK fx' k = []) : Fits p (onM p (who ++ [(k : Int)]) s1) := by
 have hkw : (k : Int) ∉ who := fun hm => (hw _ hm).1 (sw.none r.ev)
 have hd2 : (who ++ [(k : Int)]).Nodup := by
   rw [List.nodup_append]
   exact ⟨hd, by simp, fun x hx y hy => by simp at hy; subst hy; rintro rfl; exact hkw hx⟩
 have hpos : ∀ x ∈ who ++ [(k : Int)], 0 ≤ x := fun x hx => by
   rcases List.mem_append.1 hx with hx | hx
   · exact (r.ft.isIn fun h0 => (hw x hx).1 (sw.none h0)).1
   · simp at hx; omega
 have P := wE p (who ++ [(k : Int)]) s1 hd2 hpos
 have S := wF p (who ++ [(k : Int)]) s1 hd2 hpos
 obtain ⟨pl, st', hE, l1, l2⟩ := nF p (who ++ [(k : Int)]) s1
 rw [hE] at P S ⊢
 have hmem : ∀ u : Nat, u ≠ k → (((u : Int) ∈ who ++ [(k : Int)]) ↔ (u : Int) ∈ who) := fun u hu => by
   have : ¬ (u : Int) = k := by omega
   simp [this]
 refine r.ft.move (t := k) (who := who) (fx := fx) (fx' := fx') (sh.of rfl rfl rfl rfl rfl) (by rw [← e1]; exact l1) (by rw [← e2]; exact l2) lsaid said (by show 0 ≤ s1.fault; rw [e3]; exact r.ft.f0) (by show s1.fault ≤ 4; rw [e3]; exact r.ft.f4) sw ow (fun u hu _ => hw u hu) ho ?_ ?_ ?_ r.kn
 · intro u hu
   have := P u
   simp only [hmem u hu, e1] at this
   exact this
 · intro u hu
   have := S u
   simp only [hmem u hu, e1, e2] at this
   exact this
 · intro ops' a' st2 h1 h2 h3
   rw [r.h1] at h1; rw [r.h2] at h2; rw [r.h3] at h3
   injection h1 with h1; injection h2 with h2; injection h3 with h3
   subst h1; subst h2; subst h3
   have P' := P k
   have S' := S k
   rw [if_pos (by simp), e1, r.h2] at P'
   rw [if_pos (by simp), e2, e1, r.h3, List.getD_eq_getElem?_getD, r.h2] at S'
   exact ⟨_, _, P', S', .inr (.inl ⟨rfl, rfl, r.alt, (sw.come r.ev).trans hk, owk⟩)⟩
theorem Rdy.waitFits {p : Prog} {s : State} {k : Nat} {ops : List Op} {a st : Int} {op : Op} (r : Rdy p s k ops a st op) {s1 : State} {fx fx' : List (Int × Waiting)} {b : Int} (sh : SharedOk p s1)
   (e1 : s1.places = s.places) (e2 : s1.status = s.status) (e3 : s1.fault = s.fault) (e4 : s1.said = s.said)
   (sw : Swap (bB s) (bB s1) fx fx') (ow : ∀ u : Int, u ≠ k → aK (bO s1) u = aK (bO s) u)
   (ho : ∀ u : Int, u ≠ k → aK fx' u = aK fx u) (hk : (b = 1 ∧ aK fx' k = [iV op] ∧ aK (bO s1) k = []) ∨ (b = 2 ∧ aK fx' k = [] ∧ op.kind = 4 ∧ aK (bO s1) k = [op.on])) : Fits p (bI s1 k b) := by
 have hlen : k < s1.status.length := by rw [e2]; exact (List.getElem?_eq_some_iff.1 r.h3).1
 refine r.ft.move (t := k) (who := []) (fx := fx) (fx' := fx') (sh.of rfl rfl rfl rfl rfl) (by show s1.places.length = _; rw [e1]) (by simp [bI, e2]) (by show s1.said.length ≤ 64; rw [e4]; exact r.ft.lsaid) (by show ∀ v ∈ s1.said, _; rw [e4]; exact r.ft.said) (by show 0 ≤ s1.fault; rw [e3]; exact r.ft.f0) (by show s1.fault ≤ 4; rw [e3]; exact r.ft.f4) sw ow (fun u hu _ => by simp at hu) (fun u _ hu => ho u hu) ?_ ?_ ?_ r.kn
 · intro u hu
   simp [bI, e1]
 · intro u hu
   have : ¬ k = u := fun h => hu h.symm
   simp [bI, e2, this]
 · intro ops' a' st2 h1 h2 h3
   rw [r.h1] at h1; rw [r.h2] at h2
   injection h1 with h1; injection h2 with h2
   subst h1; subst h2
   refine ⟨a, b, by show s1.places[k]? = _; rw [e1, r.h2], by simp [bI, hlen], .inr (.inr ⟨op, r.ho, rfl, ?_⟩)⟩
   have hc := sw.come r.ev
   rcases hk with ⟨rfl, k1, k2⟩ | ⟨rfl, k1, k2, k3⟩
   · exact .inl ⟨rfl, hc.trans k1, k2⟩
   · exact .inr ⟨rfl, hc.trans k1, k2, k3⟩
theorem Fits.fault {p : Prog} {s : State} (ft : Fits p s) {f : Int} (h0 : 0 ≤ f) (h4 : f ≤ 4) : Fits p (kD s f) :=
 ⟨ft.prog, ft.np, ft.ns, ft.lsems, ft.lgroups, ft.lbarriers, ft.lchans, ft.lonces, ft.lsaid, h0, h4, ft.sems, ft.groups, ft.barriers, ft.chans, ft.onces, ft.said, ft.threads, ft.ev, ft.ow⟩
def AcqR (p : Sem × Bool) (v : Value) (L : List Fct) : Prop := ∃ y : Sl, v = .tuple #[rK p.1 y, .bool p.2, .bool true] ∧ L = [own y 161 dL 2 p.1.queue]
theorem wH {a b : Int} (h0 : 0 ≤ a - b) (h1 : a - b ≤ 1000) : IntKind.i64.wrap (a - b) = a - b := by rw [cE] <;> omega
theorem iC0 {a b : Int} (h0 : 0 ≤ a + b) (h1 : a + b ≤ 1000) : IntKind.i64.wrap (a + b) = a + b := by rw [cE] <;> omega
theorem iD0 {f : Int} {R : List Waiter} (h : ∀ h0 : 0 < R.length, ¬ R[0].n ≤ f) : dZ f R = (f, [], R) := by
 cases R with
 | nil => rfl
 | cons x r => exact if_neg (h (by simp))
theorem fI0 {f : Int} {R : List Waiter} (h0 : 0 < R.length) (h : R[0].n ≤ f) : dZ f R = ((dZ (f - R[0].n) (R.drop 1)).1, R[0].t :: (dZ (f - R[0].n) (R.drop 1)).2.1, (dZ (f - R[0].n) (R.drop 1)).2.2) := by
 cases R with
 | nil => simp at h0
 | cons x r => exact if_pos h
def nI : Sl := ⟨none, 0⟩
def RelR (p : Option (Sem × List Int)) (v : Value) (L : List Fct) : Prop :=
 match p with
 | none => ∃ y z : Sl, v = .tuple #[rK ⟨0, 0, []⟩ y, z.val 0, .bool false] ∧ L = []
 | some p => ∃ y z : Sl, v = .tuple #[rK p.1 y, z.val p.2.length, .bool true] ∧ L = [own y 161 dL 2 p.1.queue, own z 3 aL 1 p.2]
def EntR (p : Once × Int) (v : Value) (L : List Fct) : Prop := ∃ y : Sl, v = .tuple #[lV p.1 y, .int .i64 p.2, .bool true] ∧ L = [own y 3 aL 1 p.1.waits]
def FinR (p : Once × List Int) (v : Value) (L : List Fct) : Prop := ∃ y z : Sl, v = .tuple #[lV p.1 y, z.val p.2.length, .bool true] ∧ L = [own y 3 aL 1 p.1.waits, own z 3 aL 1 p.2]
def AddR (p : Option (Group × List Int)) (v : Value) (L : List Fct) : Prop :=
 match p with
 | none => ∃ y z : Sl, v = .tuple #[mJ ⟨0, []⟩ y, z.val 0, .bool false] ∧ L = []
 | some p => ∃ y z : Sl, v = .tuple #[mJ p.1 y, z.val p.2.length, .bool true] ∧ L = [own y 3 aL 1 p.1.waits, own z 3 aL 1 p.2]
def WaiR (p : Group × Bool) (v : Value) (L : List Fct) : Prop := ∃ y : Sl, v = .tuple #[mJ p.1 y, .bool p.2, .bool true] ∧ L = [own y 3 aL 1 p.1.waits]
def ArrR (p : Option (Barrier × List Int)) (v : Value) (L : List Fct) : Prop :=
 match p with
 | none => ∃ z : Sl, v = .tuple #[lD ⟨0, 0, []⟩ nI, z.val 0, .bool false] ∧ L = []
 | some p => ∃ y z : Sl, v = .tuple #[lD p.1 y, z.val p.2.length, .bool true] ∧ L = [own y 3 aL 1 p.1.waits, own z 3 aL 1 p.2]
theorem iE0 (p : Prog) (who : List Int) (s : State) {k : Nat} (hk : k < who.length) : onM p (who.take (k + 1)) s = goM p (onM p (who.take k) s) who[k] := by
 rw [List.take_succ_eq_append_getElem hk, onM, List.foldl_append]; rfl
theorem cG (p : Prog) (who : List Int) (s : State) : (onM p who s).places.length = s.places.length ∧ (onM p who s).status.length = s.status.length := by
 obtain ⟨pl, st, h, h1, h2⟩ := nF p who s
 rw [h]; exact ⟨h1, h2⟩
theorem xW (p : Prog) : ∀ (who : List Int) (s : State) (B : Int), 0 ≤ B → (∀ a ∈ s.places, 0 ≤ a ∧ a ≤ B) → ∀ a ∈ (onM p who s).places, 0 ≤ a ∧ a ≤ B + who.length
 | [], s, B, _, h => fun a ha => by have := h a ha; simp; omega
 | x :: r, s, B, hB, h => fun a ha => by
   have hg : ∀ a ∈ (goM p s x).places, 0 ≤ a ∧ a ≤ B + 1 := by
     intro a ha
     simp only [goM] at ha
     rcases List.mem_or_eq_of_mem_set ha with ha | rfl
     · have := h a ha; omega
     · rw [List.getD_eq_getElem?_getD]
       cases hx : s.places[x.toNat]? with
       | none => simp; omega
       | some u => have := h u (List.mem_of_getElem? hx); simp; omega
   have := xW p r (goM p s x) (B + 1) (by omega) hg a ha
   simp only [List.length_cons]
   omega
theorem sE (p : Prog) (who : List Int) (s : State) : (onM p who s).said = s.said := by
 obtain ⟨pl, st, h, _⟩ := nF p who s
 rw [h]
theorem jH {β : Type} (k u : Int) (x : β) : aK [(k, x)] u = if k = u then [x] else [] := by
 by_cases h : k = u <;> simp [aK, h]
theorem bG {α β : Type} {g : α → Int} {h : α → β} {xs : List α} {u : Int} : aK (xs.map fun x => (g x, h x)) u = [] ↔ u ∉ xs.map g := by
 rw [nE]
 constructor
 · intro h1 h2
   obtain ⟨x, hx, rfl⟩ := List.mem_map.1 h2
   exact h1 _ (List.mem_map.2 ⟨x, hx, rfl⟩) rfl
 · intro h1 e he h2
   obtain ⟨x, hx, rfl⟩ := List.mem_map.1 he
   exact h1 (List.mem_map.2 ⟨x, hx, h2⟩)
theorem wI {α β : Type} (g : α → Int) (h : α → β) (xs : List α) (n : Nat) (nd : (xs.map g).Nodup) :
   (∀ u ∈ (xs.take n).map g, aK (xs.map fun x => (g x, h x)) u ≠ [] ∧ aK ((xs.drop n).map fun x => (g x, h x)) u = []) ∧
   (∀ u, u ∉ (xs.take n).map g → aK ((xs.drop n).map fun x => (g x, h x)) u = aK (xs.map fun x => (g x, h x)) u) := by
 have e : xs.map g = (xs.take n).map g ++ (xs.drop n).map g := by rw [← List.map_append, List.take_append_drop]
 have e2 : (xs.map fun x => (g x, h x)) = ((xs.take n).map fun x => (g x, h x)) ++ (xs.drop n).map fun x => (g x, h x) := by rw [← List.map_append, List.take_append_drop]
 rw [e, List.nodup_append] at nd
 refine ⟨fun u hu => ⟨fun h0 => ?_, bG.2 fun h2 => nd.2.2 u hu u h2 rfl⟩, fun u hu => ?_⟩
 · rw [bG, e] at h0
   exact h0 (List.mem_append_left _ hu)
 · rw [e2, cU, bG.2 hu]; rfl
theorem eX {xs : List Int} (h : aS xs = true) : xs.Nodup := by
 simp only [aS, decide_eq_true_eq] at h
 exact h.1
theorem iF0 {p : Prog} {s : State} {k : Nat} {ops : List Op} {a st : Int} {op : Op} (r : Rdy p s k ops a st op) (hk : op.kind = 1) (hs : s.said.length + 1 ≤ 64) : Fits p (onM p [(k : Int)] (kR s op.arg)) := by
 have hv : aR op.arg = true := by
   have h := r.ok.2.2.2.2
   rw [Prog.argOk, if_neg (by omega), if_neg (by omega), if_pos (by omega)] at h
   exact h
 exact r.onFits (s1 := kR s op.arg) (who := []) (fx := []) (fx' := []) (r.ft.shared.of rfl rfl rfl rfl rfl) rfl rfl rfl (by simpa [kR] using hs)
   (fun v h => by
     rcases List.mem_append.1 h with h | h
     · exact r.ft.said v h
     · simp at h; rw [h]; exact hv)
   (Swap.refl _) (fun _ _ => rfl) (r.own0 (by omega)) (by simp) (fun u hu => by simp at hu) (fun _ _ _ => rfl) rfl
theorem Rdy.sem {p : Prog} {s : State} {k : Nat} {ops : List Op} {a st : Int} {op : Op} (r : Rdy p s k ops a st op) (hk : op.kind = 2 ∨ op.kind = 3) :
   ∃ x, s.sems[op.on.toNat]? = some x ∧ xU s op = x ∧ SemOk x ∧ 1 ≤ op.arg ∧ op.arg ≤ x.limit ∧ ((op.on.toNat : Nat) : Int) = op.on := by
 obtain ⟨_, _, o0, o1, h5⟩ := r.ok
 rw [Prog.argOk, if_pos hk] at h5
 rw [Prog.shared, if_neg (by omega), if_pos hk, ← r.ft.lsems] at o1
 have hi : op.on.toNat < s.sems.length := by omega
 have hx : s.sems[op.on.toNat]? = some s.sems[op.on.toNat] := List.getElem?_eq_getElem hi
 obtain ⟨g1, g2⟩ := r.ft.sems _ _ hx
 rw [List.getD_eq_getElem?_getD, g2] at h5
 exact ⟨_, hx, by rw [xU, List.getD_eq_getElem?_getD, hx]; rfl, g1, h5.1, h5.2, by omega⟩
theorem Rdy.once {p : Prog} {s : State} {k : Nat} {ops : List Op} {a st : Int} {op : Op} (r : Rdy p s k ops a st op) (hk : op.kind = 4) :
   ∃ x, s.onces[op.on.toNat]? = some x ∧ nW s op = x ∧ cS x ∧ aR op.arg = true ∧ ((op.on.toNat : Nat) : Int) = op.on := by
 obtain ⟨_, _, o0, o1, h5⟩ := r.ok
 rw [Prog.argOk, if_neg (by omega), if_neg (by omega), if_pos (by omega)] at h5
 rw [Prog.shared, if_neg (by omega), if_neg (by omega), if_pos hk] at o1
 have hl := r.ft.lonces
 have hi : op.on.toNat < s.onces.length := by omega
 have hx : s.onces[op.on.toNat]? = some s.onces[op.on.toNat] := List.getElem?_eq_getElem hi
 exact ⟨_, hx, by rw [nW, List.getD_eq_getElem?_getD, hx]; rfl, r.ft.onces _ (List.getElem_mem hi), h5, by omega⟩
theorem Rdy.group {p : Prog} {s : State} {k : Nat} {ops : List Op} {a st : Int} {op : Op} (r : Rdy p s k ops a st op) (hk : op.kind = 5 ∨ op.kind = 6) :
   ∃ x, s.groups[op.on.toNat]? = some x ∧ pV s op = x ∧ fE x ∧ (op.kind = 5 → -9 ≤ op.arg ∧ op.arg ≤ 9) ∧ ((op.on.toNat : Nat) : Int) = op.on := by
 obtain ⟨_, _, o0, o1, h5⟩ := r.ok
 rw [Prog.shared, if_neg (by omega), if_neg (by omega), if_neg (by omega), if_pos hk, ← r.ft.lgroups] at o1
 have hi : op.on.toNat < s.groups.length := by omega
 have hx : s.groups[op.on.toNat]? = some s.groups[op.on.toNat] := List.getElem?_eq_getElem hi
 refine ⟨_, hx, by rw [pV, List.getD_eq_getElem?_getD, hx]; rfl, r.ft.groups _ (List.getElem_mem hi), fun e => ?_, by omega⟩
 rw [Prog.argOk, if_neg (by omega), if_pos e] at h5
 exact h5
theorem Rdy.barrier {p : Prog} {s : State} {k : Nat} {ops : List Op} {a st : Int} {op : Op} (r : Rdy p s k ops a st op) (hk : op.kind = 7) :
   ∃ x, s.barriers[op.on.toNat]? = some x ∧ gT s op = x ∧ dE x ∧ ((op.on.toNat : Nat) : Int) = op.on := by
 obtain ⟨_, _, o0, o1, _⟩ := r.ok
 rw [Prog.shared, if_neg (by omega), if_neg (by omega), if_neg (by omega), if_neg (by omega), if_pos hk, ← r.ft.lbarriers] at o1
 have hi : op.on.toNat < s.barriers.length := by omega
 have hx : s.barriers[op.on.toNat]? = some s.barriers[op.on.toNat] := List.getElem?_eq_getElem hi
 exact ⟨_, hx, by rw [gT, List.getD_eq_getElem?_getD, hx]; rfl, (r.ft.barriers _ _ hx).1, by omega⟩
theorem Rdy.chan {p : Prog} {s : State} {k : Nat} {ops : List Op} {a st : Int} {op : Op} (r : Rdy p s k ops a st op) (hk : 8 ≤ op.kind) :
   ∃ x, s.chans[op.on.toNat]? = some x ∧ fS s op = x ∧ x.Valid ∧ (op.kind = 8 → aR op.arg = true) ∧ ((op.on.toNat : Nat) : Int) = op.on := by
 obtain ⟨_, _, o0, o1, h5⟩ := r.ok
 rw [Prog.shared, if_neg (by omega), if_neg (by omega), if_neg (by omega), if_neg (by omega), if_neg (by omega), ← r.ft.lchans] at o1
 have hi : op.on.toNat < s.chans.length := by omega
 have hx : s.chans[op.on.toNat]? = some s.chans[op.on.toNat] := List.getElem?_eq_getElem hi
 refine ⟨_, hx, by rw [fS, List.getD_eq_getElem?_getD, hx]; rfl, by have := (r.ft.chans _ _ hx).1; simpa [Chan.valid] using this, fun e => ?_, by omega⟩
 rw [Prog.argOk, if_neg (by omega), if_neg (by omega), if_pos (by omega)] at h5
 exact h5
theorem zJ {p : Prog} {s : State} {k : Nat} {ops : List Op} {a st : Int} {op : Op} (r : Rdy p s k ops a st op) (hk : op.kind = 2) : Fits p (kU p s k op) := by
 obtain ⟨x, hx, hxa, ok, a1, a2, hi⟩ := r.sem (.inl hk)
 have sw := fun x' => nH hx x'
 have hn : (k : Int) ∉ x.queue.map (·.t) := bG.1 ((sw x).none r.ev)
 rw [kU, hxa, Sem.acquire]
 by_cases hc : x.queue = [] ∧ op.arg ≤ x.free
 · rw [if_pos hc]
   simp only [if_true]
   have := ok.fl
   exact r.onFits (s1 := setSem s op _) (who := []) (r.ft.shared.setSem (s := s) hx (x' := { x with free := x.free - op.arg }) ⟨ok.l1, ok.l9, by show 0 ≤ x.free - op.arg; omega, by show x.free - op.arg ≤ x.limit; omega, ok.q6, ok.cnt, ok.dis, fun w hw => by rw [show ({ x with free := x.free - op.arg } : Sem).queue = [] from hc.1] at hw; simp at hw⟩ rfl) rfl rfl rfl r.ft.lsaid r.ft.said
     (sw _) (fun _ _ => rfl) (r.own0 (by omega)) (by simp) (fun u hu => by simp at hu) (fun _ _ _ => rfl) ((sw x).none r.ev)
 · rw [if_neg hc]
   simp only [Bool.false_eq_true, if_false]
   have hok : SemOk { x with queue := x.queue ++ [⟨(k : Int), op.arg⟩] } := by
     have hdis : aS ((x.queue ++ [(⟨(k : Int), op.arg⟩ : Waiter)]).map (·.t)) = true := by
       rw [List.map_append]; exact fD ok.dis r.thr hn
     refine ⟨ok.l1, ok.l9, ok.f0, ok.fl, by have := cJ hdis; simpa using this, fun w hw => ?_, hdis, fun w hw => ?_⟩
     · rcases List.mem_append.1 hw with hw | hw
       · exact ok.cnt w hw
       · simp at hw; subst hw; exact ⟨a1, a2⟩
     · by_cases h0 : x.queue = []
       · have h1 : ¬ op.arg ≤ x.free := fun h => hc ⟨h0, h⟩
         simp [h0] at hw
         subst hw
         show x.free < op.arg
         omega
       · obtain ⟨y, q, hq⟩ := List.exists_cons_of_ne_nil h0
         refine ok.hd w ?_
         rw [hq] at hw ⊢
         simpa using hw
   have hadd : ∀ u, aK (cO op.on.toNat { x with queue := x.queue ++ [⟨(k : Int), op.arg⟩] }) u = aK (cO op.on.toNat x) u ++ (if (k : Int) = u then [⟨2, op.on, op.arg⟩] else []) := fun u => by
     simp only [cO, List.map_append, cU, List.map_cons, List.map_nil, jH, hi]
   refine r.waitFits (s1 := setSem s op _) (b := 1) (r.ft.shared.setSem (s := s) hx hok rfl) rfl rfl rfl rfl (sw _) (fun _ _ => rfl) (fun u hu => ?_) (.inl ⟨rfl, ?_, r.own0 (by omega)⟩)
   · rw [hadd, if_neg (fun h => hu h.symm), List.append_nil]
   · rw [hadd, if_pos rfl, (sw x).none r.ev, iV, if_pos (by omega), hk]; rfl
theorem sF : ∀ (q : List Waiter) (f : Int), 0 ≤ f → (∀ w ∈ q, 1 ≤ w.n) → ∃ n, (dZ f q).2.2 = q.drop n ∧ (dZ f q).2.1 = (q.take n).map (·.t) ∧ 0 ≤ (dZ f q).1 ∧ (dZ f q).1 ≤ f ∧ ∀ w, (q.drop n)[0]? = some w → (dZ f q).1 < w.n
 | [], f, h0, _ => ⟨0, rfl, rfl, h0, by simp [dZ], by simp⟩
 | w :: q, f, h0, hc => by
   have h1 := hc w (by simp)
   rw [dZ]
   by_cases e : w.n ≤ f
   · rw [if_pos e]
     obtain ⟨n, i1, i2, i3, i4, i5⟩ := sF q (f - w.n) (by omega) (fun y hy => hc y (List.mem_cons_of_mem _ hy))
     exact ⟨n + 1, by simpa using i1, by simp [i2], i3, by show (dZ (f - w.n) q).1 ≤ f; omega, by simpa using i5⟩
   · rw [if_neg e]
     exact ⟨0, rfl, rfl, h0, Int.le_refl _, fun y hy => by simp at hy; subst hy; show f < w.n; omega⟩
theorem zK {p : Prog} {s : State} {k : Nat} {ops : List Op} {a st : Int} {op : Op} (r : Rdy p s k ops a st op) (hk : op.kind = 3) : Fits p (kV p s k op) := by
 obtain ⟨x, hx, hxa, ok, a1, a2, hi⟩ := r.sem (.inr hk)
 have sw := fun x' => nH hx x'
 rw [kV, hxa, Sem.release]
 by_cases hc : op.arg ≤ x.limit - x.free
 · rw [if_pos hc]
   have f0 := ok.f0
   obtain ⟨n, i1, i2, i3, i4, i5⟩ := sF x.queue (x.free + op.arg) (by omega) (fun w hw => (ok.cnt w hw).1)
   simp only [i1, i2]
   have nd := eX ok.dis
   obtain ⟨t1, t2⟩ := wI (·.t) (fun w : Waiter => (⟨2, (op.on.toNat : Int), w.n⟩ : Waiting)) x.queue n nd
   have hsub : ((x.queue.drop n).map (·.t)).Sublist (x.queue.map (·.t)) := (List.drop_sublist _ _).map _
   refine r.onFits (s1 := setSem s op _) (who := (x.queue.take n).map (·.t)) (r.ft.shared.setSem (s := s) hx (x' := ⟨(dZ (x.free + op.arg) x.queue).1, x.limit, x.queue.drop n⟩) ⟨ok.l1, ok.l9, i3, by show (dZ (x.free + op.arg) x.queue).1 ≤ x.limit; omega, by have := ok.q6; show (x.queue.drop n).length ≤ 6; rw [List.length_drop]; omega, fun w hw => ok.cnt w (List.mem_of_mem_drop hw), nV hsub ok.dis, i5⟩ rfl) rfl rfl rfl r.ft.lsaid r.ft.said
     (sw _) (fun _ _ => rfl) (r.own0 (by omega)) (nd.sublist ((List.take_sublist _ _).map _)) t1 (fun u hu _ => t2 u hu) ?_
   have h0 := (sw x).none r.ev
   by_cases hm : (k : Int) ∈ (x.queue.take n).map (·.t)
   · exact (t1 _ hm).2
   · exact (t2 _ hm).trans h0
 · rw [if_neg hc]
   exact r.ft.fault (by omega) (by omega)
theorem iG0 {p : Prog} {s : State} {k : Nat} {ops : List Op} {a st : Int} {op : Op} (r : Rdy p s k ops a st op) (hk : op.kind = 5) : Fits p (xV p s k op) := by
 obtain ⟨x, hx, hxa, ⟨ok1, ok2, ok3⟩, ha, hi⟩ := r.group (.inl hk)
 have sw := fun x' => jU hx x'
 have nd := eX ok2
 rw [xV, hxa, Group.add]
 by_cases hc : aR (x.count + op.arg) = true
 · rw [if_pos hc]
   by_cases h0 : x.count + op.arg = 0
   · rw [if_pos h0]
     obtain ⟨t1, t2⟩ := wI (fun t : Int => t) (fun t : Int => (⟨6, (op.on.toNat : Int), 0⟩ : Waiting)) x.waits x.waits.length (by simpa using nd)
     simp only [List.take_length, List.drop_length, List.map_id'] at t1 t2
     refine r.onFits (s1 := setGroup s op ⟨0, []⟩) (who := x.waits) (r.ft.shared.setGroup (s := s) ⟨by decide, by decide, .inr rfl⟩) rfl rfl rfl r.ft.lsaid r.ft.said
       (sw _) (fun _ _ => rfl) (r.own0 (by omega)) nd t1 (fun u hu _ => t2 u hu) rfl
   · rw [if_neg h0]
     have hv : 0 < x.count + op.arg := by simp [aR] at hc; omega
     exact r.onFits (s1 := setGroup s op ⟨x.count + op.arg, x.waits⟩) (who := []) (r.ft.shared.setGroup (s := s) ⟨hc, ok2, .inl hv⟩) rfl rfl rfl r.ft.lsaid r.ft.said
       (sw _) (fun _ _ => rfl) (r.own0 (by omega)) (by simp) (fun u hu => by simp at hu) (fun _ _ _ => rfl) ((sw x).none r.ev)
 · rw [if_neg hc]
   exact r.ft.fault (by omega) (by omega)
theorem fJ0 {p : Prog} {s : State} {k : Nat} {ops : List Op} {a st : Int} {op : Op} (r : Rdy p s k ops a st op) (hk : op.kind = 6) : Fits p (tC p s k op) := by
 obtain ⟨x, hx, hxa, ⟨ok1, ok2, ok3⟩, ha, hi⟩ := r.group (.inr hk)
 have sw := fun x' => jU hx x'
 have hn : (k : Int) ∉ x.waits := by
   have h := (bG (g := fun t : Int => t)).1 ((sw x).none r.ev)
   simpa using h
 rw [tC, hxa, Group.wait]
 by_cases hc : x.count = 0
 · rw [if_pos hc]
   simp only [if_true]
   have hw : x.waits = [] := by
     rcases ok3 with h | h
     · omega
     · exact h
   have he : cA op.on.toNat x = [] := by simp [cA, hw]
   exact r.onFits (s1 := setGroup s op ⟨0, []⟩) (who := []) (r.ft.shared.setGroup (s := s) ⟨by decide, by decide, .inr rfl⟩) rfl rfl rfl r.ft.lsaid r.ft.said
     (sw _) (fun _ _ => rfl) (r.own0 (by omega)) (by simp) (fun u hu => by simp at hu) (fun _ _ _ => by rw [he]; rfl) rfl
 · rw [if_neg hc]
   simp only [Bool.false_eq_true, if_false]
   have hadd : ∀ u, aK (cA op.on.toNat ⟨x.count, x.waits ++ [(k : Int)]⟩) u = aK (cA op.on.toNat x) u ++ (if (k : Int) = u then [⟨6, op.on, 0⟩] else []) := fun u => by
     simp only [cA, List.map_append, cU, List.map_cons, List.map_nil, jH, hi]
   have hv : 0 < x.count := by simp [aR] at ok1; omega
   refine r.waitFits (s1 := setGroup s op _) (b := 1) (r.ft.shared.setGroup (s := s) ⟨ok1, fD ok2 r.thr hn, .inl hv⟩) rfl rfl rfl rfl (sw _) (fun _ _ => rfl) (fun u hu => ?_) (.inl ⟨rfl, ?_, r.own0 (by omega)⟩)
   · rw [hadd, if_neg (fun h => hu h.symm), List.append_nil]
   · rw [hadd, if_pos rfl, (sw x).none r.ev, iV, if_neg (by omega), hk]; rfl
theorem aZ0 {p : Prog} {s : State} {k : Nat} {ops : List Op} {a st : Int} {op : Op} (r : Rdy p s k ops a st op) (hk : op.kind = 7) (hw : (gT s op).arrive k ≠ none) : Fits p (iW p s k op) := by
 obtain ⟨x, hx, hxa, ⟨p1, p6, r0, r9, wl, dis⟩, hi⟩ := r.barrier hk
 have sw := fun x' => mM hx x'
 have nd := eX dis
 have hn : (k : Int) ∉ x.waits := by
   have h := (bG (g := fun t : Int => t)).1 ((sw x).none r.ev)
   simpa using h
 rw [hxa, Barrier.arrive] at hw
 rw [iW, hxa, Barrier.arrive]
 by_cases hc : (x.waits.length : Int) + 1 < x.parties
 · rw [if_pos hc]
   simp only [if_true]
   have hadd : ∀ u, aK (bQ op.on.toNat ⟨x.parties, x.round, x.waits ++ [(k : Int)]⟩) u = aK (bQ op.on.toNat x) u ++ (if (k : Int) = u then [⟨7, op.on, 0⟩] else []) := fun u => by
     simp only [bQ, List.map_append, cU, List.map_cons, List.map_nil, jH, hi]
   refine r.waitFits (s1 := setBarrier s op _) (b := 1) (r.ft.shared.setBarrier (s := s) hx (x' := ⟨x.parties, x.round, x.waits ++ [(k : Int)]⟩) ⟨p1, p6, r0, r9, by simpa using hc, fD dis r.thr hn⟩ rfl) rfl rfl rfl rfl (sw _) (fun _ _ => rfl) (fun u hu => ?_) (.inl ⟨rfl, ?_, r.own0 (by omega)⟩)
   · rw [hadd, if_neg (fun h => hu h.symm), List.append_nil]
   · rw [hadd, if_pos rfl, (sw x).none r.ev, iV, if_neg (by omega), hk]; rfl
 · rw [if_neg hc] at hw ⊢
   by_cases h9 : x.round = 9999
   · rw [if_pos h9] at hw; exact (hw rfl).elim
   · rw [if_neg h9]
     have hne : x.waits ++ [(k : Int)] ≠ [] := by simp
     simp only [if_neg hne]
     obtain ⟨t1, t2⟩ := wI (fun t : Int => t) (fun t : Int => (⟨7, (op.on.toNat : Int), 0⟩ : Waiting)) x.waits x.waits.length (by simpa using nd)
     simp only [List.take_length, List.drop_length, List.map_id'] at t1 t2
     exact r.onFits (s1 := setBarrier s op ⟨x.parties, x.round + 1, []⟩) (who := x.waits) (r.ft.shared.setBarrier (s := s) hx ⟨p1, p6, by show 0 ≤ x.round + 1; omega, by show x.round + 1 ≤ 9999; omega, by show ((0 : Nat) : Int) < x.parties; omega, show aS [] = true by decide⟩ rfl) rfl rfl rfl r.ft.lsaid r.ft.said
       (sw _) (fun _ _ => rfl) (r.own0 (by omega)) nd t1 (fun u hu _ => t2 u hu) rfl
theorem fK0 {p : Prog} {s : State} {k : Nat} {ops : List Op} {a st : Int} {op : Op} (r : Rdy p s k ops a st op) (hk : op.kind = 4) : Fits p (pE p s k op) := by
 obtain ⟨x, hx, hxa, ok, hv, hi⟩ := r.once hk
 have sw := fun x' => qW hx x'
 have so := fun x' => iB0 hx x'
 have hn : (k : Int) ∉ x.waits := by
   have h := (bG (g := fun t : Int => t)).1 ((sw x).none r.ev)
   simpa using h
 have hst : s.status.getD (k : Int).toNat 0 = st := by rw [Int.toNat_natCast, List.getD_eq_getElem?_getD, r.h3]; rfl
 have own1 : ∀ (y : Once) (u : Int), y.state = 1 → aK (gB op.on.toNat y) u = if y.owner = u then [op.on] else [] := fun y u h => by
   rw [gB, if_pos h, jH, hi]
 have own0 : ∀ (y : Once) (u : Int), y.state ≠ 1 → aK (gB op.on.toNat y) u = [] := fun y u h => by
   rw [gB, if_neg h]; rfl
 rw [pE, hxa, hst]
 by_cases h2 : st = 2
 · rw [if_pos h2]
   have hown : aK (bO s) k = [op.on] := by
     rcases r.ow with ⟨e, _⟩ | ⟨_, _, e⟩
     · omega
     · exact e
   have hx1 : x.state = 1 ∧ x.owner = k := by
     have hm : op.on ∈ aK (bO s) k := by rw [hown]; simp
     obtain ⟨j, y, hy, h1, h2, h3⟩ := gH.1 hm
     have e : op.on.toNat = j := by omega
     rw [← e, hx] at hy
     injection hy with hy
     subst hy
     exact ⟨h1, h2⟩
   have o1 := (jI hx1.1).1 ok
   have nd := eX o1.2.2.1
   obtain ⟨t1, t2⟩ := wI (fun t : Int => t) (fun t : Int => (⟨4, (op.on.toNat : Int), 0⟩ : Waiting)) x.waits x.waits.length (by simpa using nd)
   simp only [List.take_length, List.drop_length, List.map_id'] at t1 t2
   refine r.onFits (s1 := setOnce s op ⟨2, (k : Int), op.arg, []⟩) (who := x.waits) (r.ft.shared.setOnce (s := s) ((uL rfl).2 ⟨r.thr, hv, rfl⟩)) rfl rfl rfl r.ft.lsaid r.ft.said
     (sw _) (fun u hu => (so _).same ?_) ((so _).gone (u := (k : Int)) ?_ ?_ ?_) nd t1 (fun u hu _ => t2 u hu) rfl
   · rw [own0 _ _ (show (2 : Int) ≠ 1 by decide), own1 x u hx1.1, hx1.2, if_neg (fun h => hu h.symm)]
   · rw [own1 x _ hx1.1, hx1.2, if_pos rfl]; simp
   · exact own0 _ _ (show (2 : Int) ≠ 1 by decide)
   · rw [hown]; simp
 rw [if_neg h2]
 have hown : aK (bO s) k = [] := by
   rcases r.ow with ⟨_, e⟩ | ⟨e, _⟩
   · exact e
   · exact (h2 e).elim
 rw [Once.enter]
 by_cases e0 : x.state = 0
 · simp only [if_pos e0, if_true]
   have o0 := (uK e0).1 ok
   have hw : x.waits = [] := o0.2.2
   refine r.waitFits (s1 := setOnce s op ⟨1, (k : Int), 0, []⟩) (b := 2) (r.ft.shared.setOnce (s := s) ((jI rfl).2 ⟨r.thr, rfl, show aS [] = true by decide, by simp⟩)) rfl rfl rfl rfl (sw _) (fun u hu => (so _).same ?_) (fun u hu => ?_) (.inr ⟨rfl, rfl, hk, ?_⟩)
   · rw [own0 x u (by omega), own1 _ _ rfl, if_neg (fun h => hu h.symm)]
   · rw [show bX op.on.toNat x = [] by simp [bX, hw]]; rfl
   · exact ((so _).come hown).trans (by rw [own1 _ _ rfl, if_pos rfl])
 by_cases e1 : x.state = 1
 · simp only [if_neg e0, if_pos e1, if_true, if_neg (show ¬ (1 : Int) = 0 by decide)]
   have o1 := (jI e1).1 ok
   have hok : (k : Int) ≠ x.owner := fun e => by
     have h := (so x).none hown
     rw [own1 x _ e1, if_pos e.symm] at h
     cases h
   have hadd : ∀ u, aK (bX op.on.toNat { x with waits := x.waits ++ [(k : Int)] }) u = aK (bX op.on.toNat x) u ++ (if (k : Int) = u then [⟨4, op.on, 0⟩] else []) := fun u => by
     simp only [bX, List.map_append, cU, List.map_cons, List.map_nil, jH, hi]
   have hsame : ∀ u, aK (gB op.on.toNat { x with waits := x.waits ++ [(k : Int)] }) u = aK (gB op.on.toNat x) u := fun u => rfl
   refine r.waitFits (s1 := setOnce s op { x with waits := x.waits ++ [(k : Int)] }) (b := 1) (r.ft.shared.setOnce (s := s) ((jI (m := { x with waits := x.waits ++ [(k : Int)] }) e1).2 ⟨o1.1, o1.2.1, fD o1.2.2.1 r.thr hn, ?_⟩)) rfl rfl rfl rfl (sw _) (fun u hu => (so _).same (hsame u)) (fun u hu => ?_) (.inl ⟨rfl, ?_, ((so _).same (hsame _)).trans hown⟩)
   · intro hm
     rcases List.mem_append.1 hm with hm | hm
     · exact o1.2.2.2 hm
     · simp at hm; exact hok hm.symm
   · rw [hadd, if_neg (fun h => hu h.symm), List.append_nil]
   · rw [hadd, if_pos rfl, (sw x).none r.ev, iV, if_neg (by omega), hk]; rfl
 simp only [if_neg e0, if_neg e1, if_neg (show ¬ (2 : Int) = 0 by decide), if_neg (show ¬ (2 : Int) = 1 by decide)]
 exact r.onFits (s1 := setOnce s op x) (who := []) (r.ft.shared.setOnce (s := s) ok) rfl rfl rfl r.ft.lsaid r.ft.said
   (sw x) (fun u hu => (so x).same rfl) (((so x).same rfl).trans hown) (by simp) (fun u hu => by simp at hu) (fun _ _ _ => rfl) ((sw x).none r.ev)
theorem jK (i : Nat) (x : Chan) (u : Int) : aK (cK i x) u = aK (x.senders.map fun l => (l.t, (⟨8, (i : Int), l.v⟩ : Waiting))) u ++ aK (x.getters.map fun t => (t, (⟨9, (i : Int), 0⟩ : Waiting))) u := by rw [cK, cU]
theorem lK {i : Nat} {x : Chan} {u : Int} (h : aK (cK i x) u = []) : u ∉ x.threads := by
 rw [jK, List.append_eq_nil_iff] at h
 intro hm
 rcases List.mem_append.1 hm with hm | hm
 · exact (bG (g := Letter.t)).1 h.1 hm
 · exact (bG (g := fun t : Int => t)).1 h.2 (by simpa using hm)
theorem sG {x : Chan} (h : x.Valid) : (x.senders.map (·.t)).Nodup ∧ x.getters.Nodup := by
 have := eX h.di
 rw [Chan.threads, List.nodup_append] at this
 exact ⟨this.1, this.2.1⟩
theorem lL {x : Chan} (h : x.Valid) : x.valid = true := by rw [Chan.valid, decide_eq_true h]
theorem fL0 {p : Prog} {s : State} {k : Nat} {ops : List Op} {a st : Int} {op : Op} (r : Rdy p s k ops a st op) (hk : op.kind = 8) (hl : (nX p s k op).said.length ≤ 64) : Fits p (nX p s k op) := by
 obtain ⟨x, hx, hxa, hv, hval, hi⟩ := r.chan (by omega)
 have sw := fun x' => gJ hx x'
 have h0 := (sw x).none r.ev
 have hn := lK h0
 have nd := sG hv
 rw [nX, hxa] at hl ⊢
 by_cases hc : (x.send k op.arg).2.2.2 = true
 · have hv' := cR0 hc
   obtain ⟨_, c1, c2, c3, c4⟩ := zF hc
   rw [if_pos hc] at hl ⊢
   have hsd : x.send k op.arg = if h : 0 < x.getters.length then ({ x with getters := x.getters.drop 1 }, [x.getters[0]], true, true) else if (x.items.length : Int) < x.room then ({ x with items := x.items ++ [op.arg] }, [], true, true) else ({ x with senders := x.senders ++ [⟨(k : Int), op.arg⟩] }, [], false, true) := by
     rw [Chan.send, if_pos ⟨hv, c1, c2, c3, c4⟩]
   rw [hsd] at hv' hl ⊢
   by_cases hg : 0 < x.getters.length
   · simp only [dif_pos hg, if_true] at hv' hl ⊢
     rw [if_neg (by simp)] at hl ⊢
     have hs : x.senders = [] := Classical.byContradiction fun hne => by rw [(hv.se hne).2.1] at hg; simp at hg
     obtain ⟨t1, t2⟩ := wI (fun t : Int => t) (fun t : Int => (⟨9, (op.on.toNat : Int), 0⟩ : Waiting)) x.getters 1 (by simpa using nd.2)
     have e1 : x.getters.take 1 = [x.getters[0]] := hZ0 hg
     simp only [e1, List.map_id'] at t1 t2
     have fx : ∀ u, aK (cK op.on.toNat x) u = aK (x.getters.map fun t => (t, (⟨9, (op.on.toNat : Int), 0⟩ : Waiting))) u := fun u => by rw [jK, hs]; rfl
     have fx' : ∀ u, aK (cK op.on.toNat { x with getters := x.getters.drop 1 }) u = aK ((x.getters.drop 1).map fun t => (t, (⟨9, (op.on.toNat : Int), 0⟩ : Waiting))) u := fun u => by rw [jK]; show aK (x.senders.map _) u ++ _ = _; rw [hs]; rfl
     rw [sE] at hl
     refine r.onFits (s1 := kR (setChan s op { x with getters := x.getters.drop 1 }) op.arg) (who := [x.getters[0]]) ((r.ft.shared.setChan (s := s) hx (lL hv') rfl).of rfl rfl rfl rfl rfl) rfl rfl rfl hl
       (fun v h => by
         rcases List.mem_append.1 h with h | h
         · exact r.ft.said v h
         · simp at h; rw [h]; exact hval hk)
       (sw _) (fun _ _ => rfl) (r.own0 (by omega)) (by simp) (fun u hu => by rw [fx, fx']; exact t1 u hu) (fun u hu _ => by rw [fx, fx']; exact t2 u hu) ?_
     rw [fx']
     rw [fx] at h0
     by_cases hm : (k : Int) ∈ [x.getters[0]]
     · exact (t1 _ hm).2
     · exact (t2 _ hm).trans h0
   · simp only [dif_neg hg] at hv' hl ⊢
     by_cases hr : (x.items.length : Int) < x.room
     · simp only [if_pos hr, if_true] at hv' hl ⊢
       exact r.onFits (s1 := setChan s op { x with items := x.items ++ [op.arg] }) (who := []) (r.ft.shared.setChan (s := s) hx (lL hv') rfl) rfl rfl rfl r.ft.lsaid r.ft.said
         (sw _) (fun _ _ => rfl) (r.own0 (by omega)) (by simp) (fun u hu => by simp at hu) (fun _ _ _ => rfl) h0
     · simp only [if_neg hr, Bool.false_eq_true, if_false] at hv' hl ⊢
       have hadd : ∀ u, aK (cK op.on.toNat { x with senders := x.senders ++ [⟨(k : Int), op.arg⟩] }) u = aK (cK op.on.toNat x) u ++ (if (k : Int) = u then [⟨8, op.on, op.arg⟩] else []) := fun u => by
         have hg' : x.getters = [] := by simpa using hg
         simp only [cK, hg', List.map_append, cU, List.map_cons, List.map_nil, jH, hi, List.append_nil]
       refine r.waitFits (s1 := setChan s op _) (b := 1) (r.ft.shared.setChan (s := s) hx (lL hv') rfl) rfl rfl rfl rfl (sw _) (fun _ _ => rfl) (fun u hu => ?_) (.inl ⟨rfl, ?_, r.own0 (by omega)⟩)
       · rw [hadd, if_neg (fun h => hu h.symm), List.append_nil]
       · rw [hadd, if_pos rfl, h0, iV, if_pos (by omega), hk]; rfl
 · rw [if_neg hc]
   exact r.ft.fault (by omega) (by omega)
theorem iH0 {p : Prog} {s : State} {k : Nat} {ops : List Op} {a st : Int} {op : Op} (r : Rdy p s k ops a st op) (hk : op.kind = 9) (hl : (uC p s k op).said.length ≤ 64) : Fits p (uC p s k op) := by
 obtain ⟨x, hx, hxa, hv, hval, hi⟩ := r.chan (by omega)
 have sw := fun x' => gJ hx x'
 have h0 := (sw x).none r.ev
 have hn := lK h0
 have nd := sG hv
 have hok : x.Valid ∧ aW (k : Int) = true ∧ ¬ (k : Int) ∈ x.threads := ⟨hv, r.thr, hn⟩
 have hgt : (x.get k).2.2.2.2 = true := by
   rw [Chan.get, if_pos hok]
   split
   · rfl
   · split <;> rfl
 have hv' := fG0 hgt
 have gv : ∀ y ∈ x.gItems, aR y = true := fun y hy => by
   rcases List.mem_append.1 hy with hy | hy
   · exact hv.iv y hy
   · obtain ⟨l, hl, rfl⟩ := List.mem_map.1 hy
     exact hv.sv l (List.mem_of_mem_take hl)
 rw [uC, hxa] at hl ⊢
 have hsd : x.get k = if 0 < x.gItems.length then ({ x with items := x.gItems.drop 1, senders := x.senders.drop 1 }, x.gItems.headD 0, 1, x.gWho, true) else if x.closed = true then ({ x with items := [], senders := [] }, 0, 2, [], true) else ({ x with items := [], senders := [], getters := x.getters ++ [(k : Int)] }, 0, 0, [], true) := by
   rw [Chan.get, if_pos hok]
 rw [hsd] at hv' hl ⊢
 by_cases hc : 0 < x.gItems.length
 · simp only [if_pos hc] at hv' hl ⊢
   rw [if_neg (by decide), if_pos trivial] at hl ⊢
   rw [sE] at hl
   obtain ⟨t1, t2⟩ := wI Letter.t (fun l : Letter => (⟨8, (op.on.toNat : Int), l.v⟩ : Waiting)) x.senders 1 nd.1
   have hgw : x.gWho = (x.senders.take 1).map Letter.t := rfl
   rw [← hgw] at t1 t2
   have fx' : ∀ (its : List Int) u, aK (cK op.on.toNat { x with items := its, senders := x.senders.drop 1 }) u = aK ((x.senders.drop 1).map fun l => (l.t, (⟨8, (op.on.toNat : Int), l.v⟩ : Waiting))) u ++ aK (x.getters.map fun t => (t, (⟨9, (op.on.toNat : Int), 0⟩ : Waiting))) u := fun its u => jK _ _ _
   have hg0 : ∀ u ∈ x.gWho, aK (x.getters.map fun t => (t, (⟨9, (op.on.toNat : Int), 0⟩ : Waiting))) u = [] := fun u hu => by
     by_cases hs : x.senders = []
     · rw [hgw, hs] at hu; simp at hu
     · rw [(hv.se hs).2.1]; rfl
   refine r.onFits (s1 := kR (setChan s op { x with items := x.gItems.drop 1, senders := x.senders.drop 1 }) (x.gItems.headD 0)) (who := x.gWho) ((r.ft.shared.setChan (s := s) hx (lL hv') rfl).of rfl rfl rfl rfl rfl) rfl rfl rfl hl
     (fun v h => by
       rcases List.mem_append.1 h with h | h
       · exact r.ft.said v h
       · simp only [List.mem_singleton] at h
         rw [h, hY0 hc]; exact gv _ (List.getElem_mem hc))
     (sw _) (fun _ _ => rfl) (r.own0 (by omega)) (nd.1.sublist ((List.take_sublist _ _).map _)) (fun u hu => ⟨fun h => (t1 u hu).1 ?_, by rw [fx', (t1 u hu).2, hg0 u hu]; rfl⟩) (fun u hu _ => by rw [fx', jK, t2 u hu]) ?_
   · rw [jK, List.append_eq_nil_iff] at h; exact h.1
   · rw [jK, List.append_eq_nil_iff] at h0
     rw [fx', h0.2, List.append_nil]
     by_cases hm : (k : Int) ∈ x.gWho
     · exact (t1 _ hm).2
     · exact (t2 _ hm).trans h0.1
 · simp only [if_neg hc] at hv' hl ⊢
   have hI : x.items = [] ∧ x.senders = [] := by
     simp [Chan.gItems] at hc
     refine ⟨hc.1, ?_⟩
     cases hs : x.senders with
     | nil => rfl
     | cons a r => simp [hs] at hc
   by_cases hcl : x.closed = true
   · simp only [if_pos hcl] at hv' hl ⊢
     rw [if_neg (by decide), if_neg (by decide)] at hl ⊢
     have fx : ∀ u, aK (cK op.on.toNat { x with items := [], senders := [] }) u = aK (cK op.on.toNat x) u := fun u => by
       rw [jK, jK, hI.2]
     exact r.onFits (s1 := setChan s op { x with items := [], senders := [] }) (who := []) (r.ft.shared.setChan (s := s) hx (lL hv') rfl) rfl rfl rfl r.ft.lsaid r.ft.said
       (sw _) (fun _ _ => rfl) (r.own0 (by omega)) (by simp) (fun u hu => by simp at hu) (fun u _ _ => fx u) ((fx _).trans h0)
   · simp only [if_neg hcl] at hv' hl ⊢
     rw [if_pos trivial] at hl ⊢
     have hadd : ∀ u, aK (cK op.on.toNat { x with items := [], senders := [], getters := x.getters ++ [(k : Int)] }) u = aK (cK op.on.toNat x) u ++ (if (k : Int) = u then [⟨9, op.on, 0⟩] else []) := fun u => by
       simp only [cK, hI.2, List.map_append, cU, List.map_cons, List.map_nil, jH, hi, List.append_assoc]
     refine r.waitFits (s1 := setChan s op _) (b := 1) (r.ft.shared.setChan (s := s) hx (lL hv') rfl) rfl rfl rfl rfl (sw _) (fun _ _ => rfl) (fun u hu => ?_) (.inl ⟨rfl, ?_, r.own0 (by omega)⟩)
     · rw [hadd, if_neg (fun h => hu h.symm), List.append_nil]
     · rw [hadd, if_pos rfl, h0, iV, if_neg (by omega), hk]; rfl
theorem cT0 {p : Prog} {s : State} {k : Nat} {ops : List Op} {a st : Int} {op : Op} (r : Rdy p s k ops a st op) (hk : op.kind = 10) : Fits p (pW p s k op) := by
 obtain ⟨x, hx, hxa, hv, hval, hi⟩ := r.chan (by omega)
 have sw := fun x' => gJ hx x'
 have h0 := (sw x).none r.ev
 have nd := sG hv
 rw [pW, hxa]
 by_cases hc : x.close.2.2 = true
 · have hv' := aY0 hc
   obtain ⟨_, c1, c2⟩ := wC hc
   rw [if_pos hc]
   have hsd : x.close = ({ x with senders := [], getters := [], closed := true }, x.getters, true) := by
     rw [Chan.close, if_pos ⟨hv, c1, c2⟩]
   rw [hsd] at hv' ⊢
   obtain ⟨t1, t2⟩ := wI (fun t : Int => t) (fun t : Int => (⟨9, (op.on.toNat : Int), 0⟩ : Waiting)) x.getters x.getters.length (by simpa using nd.2)
   simp only [List.take_length, List.drop_length, List.map_id'] at t1 t2
   have fx : ∀ u, aK (cK op.on.toNat x) u = aK (x.getters.map fun t => (t, (⟨9, (op.on.toNat : Int), 0⟩ : Waiting))) u := fun u => by rw [jK, c2]; rfl
   exact r.onFits (s1 := setChan s op { x with senders := [], getters := [], closed := true }) (who := x.getters) (r.ft.shared.setChan (s := s) hx (lL hv') rfl) rfl rfl rfl r.ft.lsaid r.ft.said
     (sw _) (fun _ _ => rfl) (r.own0 (by omega)) nd.2 (fun u hu => ⟨by rw [fx]; exact (t1 u hu).1, rfl⟩) (fun u hu _ => by rw [fx]; exact t2 u hu) rfl
 · rw [if_neg hc]
   exact r.ft.fault (by omega) (by omega)
theorem xX {p : Prog} {s : State} {t : Int} (ft : Fits p s) (h : t ∈ dK s) (hl : (doM p s t).said.length ≤ 64) (hw : ¬ zI p s t) : Fits p (doM p s t) := by
 obtain ⟨k, ops, a, st, op, rfl, r⟩ := rdy ft h
 rw [zI, r.at_] at hw
 rw [doM, r.at_, dG] at hl ⊢
 by_cases k1 : op.kind = 1
 · simp only [if_pos k1] at hl ⊢
   rw [sE] at hl
   exact iF0 r k1 (by simpa [kR] using hl)
 by_cases k2 : op.kind = 2
 · simp only [if_neg k1, if_pos k2] at hl ⊢; exact zJ r k2
 by_cases k3 : op.kind = 3
 · simp only [if_neg k1, if_neg k2, if_pos k3] at hl ⊢; exact zK r k3
 by_cases k4 : op.kind = 4
 · simp only [if_neg k1, if_neg k2, if_neg k3, if_pos k4] at hl ⊢; exact fK0 r k4
 by_cases k5 : op.kind = 5
 · simp only [if_neg k1, if_neg k2, if_neg k3, if_neg k4, if_pos k5] at hl ⊢; exact iG0 r k5
 by_cases k6 : op.kind = 6
 · simp only [if_neg k1, if_neg k2, if_neg k3, if_neg k4, if_neg k5, if_pos k6] at hl ⊢; exact fJ0 r k6
 by_cases k7 : op.kind = 7
 · simp only [if_neg k1, if_neg k2, if_neg k3, if_neg k4, if_neg k5, if_neg k6, if_pos k7] at hl ⊢
   exact aZ0 r k7 fun e => hw ⟨k7, e⟩
 by_cases k8 : op.kind = 8
 · simp only [if_neg k1, if_neg k2, if_neg k3, if_neg k4, if_neg k5, if_neg k6, if_neg k7, if_pos k8] at hl ⊢; exact fL0 r k8 hl
 by_cases k9 : op.kind = 9
 · simp only [if_neg k1, if_neg k2, if_neg k3, if_neg k4, if_neg k5, if_neg k6, if_neg k7, if_neg k8, if_pos k9] at hl ⊢; exact iH0 r k9 hl
 simp only [if_neg k1, if_neg k2, if_neg k3, if_neg k4, if_neg k5, if_neg k6, if_neg k7, if_neg k8, if_neg k9] at hl ⊢
 have h10 := r.ok.2.1
 have h11 := r.ok.1
 exact cT0 r (by omega)
theorem kG0 {p : Prog} {s : State} {t : Int} (ft : Fits p s) (h : t ∈ dK s) (hw : zI p s t) : ¬ Fits p (doM p s t) := by
 obtain ⟨k, ops, a, st, op, rfl, r⟩ := rdy ft h
 rw [zI, r.at_] at hw
 obtain ⟨k7, hw⟩ := hw
 obtain ⟨x, hx, hxa, ok, hi⟩ := r.barrier k7
 have e : doM p s (k : Int) = bI (setBarrier s op ⟨0, 0, []⟩) k 1 := by
   simp only [doM, r.at_, dG, k7, iW, hw]
   simp
 rw [e]
 intro f
 have hi : op.on.toNat < s.barriers.length := (List.getElem?_eq_some_iff.1 hx).1
 have h1 := (f.barriers op.on.toNat ⟨0, 0, []⟩ (by simp [bI, setBarrier, hi])).1.1
 simp at h1
def StepOk (p : Prog) (s : State) (t : Int) : Prop := Fits p s ∧ t ∈ dK s ∧ (doM p s t).said.length ≤ 64 ∧ Fits p (doM p s t)
theorem cU0 {p : Prog} {s : State} {t : Int} : StepOk p s t ↔ Fits p s ∧ t ∈ dK s ∧ (doM p s t).said.length ≤ 64 ∧ ¬ zI p s t :=
 ⟨fun ⟨h1, h2, h3, h4⟩ => ⟨h1, h2, h3, fun hw => kG0 h1 h2 hw h4⟩, fun ⟨h1, h2, h3, h4⟩ => ⟨h1, h2, h3, xX h1 h2 h3 h4⟩⟩
def lM (a : List SemH) (b : List OnceH) (c : List GroupH) (d : List BarrierH) (e : List ChanH) : List Fct := a.flatMap qM ++ (b.flatMap qB ++ (c.flatMap lE ++ (d.flatMap fF ++ e.flatMap jO)))
def fH (y : StateH) : List Fct := lM y.sems y.onces y.groups y.barriers y.chans
def mN (y : StateH) : List Fct := [own y.h0 3 aL 1 y.places, own y.h1 3 aL 1 y.status, own y.h2 85 iU 3 y.sems, own y.h3 98 fP 4 y.onces, own y.h4 88 eQ 2 y.groups, own y.h5 91 dD 3 y.barriers, own y.h6 95 gW 5 y.chans, own y.h7 3 aL 1 y.said]
theorem sH {α : Type} (x : α) (A B L : List α) (h : (A ++ B).Perm L) : (A ++ (x :: B)).Perm (x :: L) := List.perm_middle.trans (.cons x h)
theorem perm8 {α : Type} (a0 a1 a2 a3 a4 a5 a6 a7 : α) (A B C D E : List α) : (a0 :: a1 :: ((a2 :: A) ++ ((a3 :: B) ++ ((a4 :: C) ++ ((a5 :: D) ++ ((a6 :: E) ++ [a7])))))).Perm ([a0, a1, a2, a3, a4, a5, a6, a7] ++ (A ++ (B ++ (C ++ (D ++ E))))) := by
 simp only [List.cons_append, List.nil_append]
 refine .cons a0 (.cons a1 (.cons a2 (sH a3 A _ _ ?_)))
 rw [← List.append_assoc]
 refine sH a4 _ _ _ ?_
 rw [← List.append_assoc]
 refine sH a5 _ _ _ ?_
 rw [← List.append_assoc]
 refine sH a6 _ _ _ ?_
 rw [← List.append_assoc]
 refine sH a7 _ _ _ ?_
 exact .of_eq (by simp [List.append_assoc])
theorem iI (y : StateH) : (aJ y).Perm (mN y ++ fH y) := perm8 _ _ _ _ _ _ _ _ _ _ _ _ _
theorem pF {α : Type} {f : α → List Fct} {xs : List α} {i : Nat} {x : α} {g : Fct} (h : g ∈ (xs.set i x).flatMap f) : g ∈ xs.flatMap f ∨ g ∈ f x := by
 obtain ⟨z, hz, hg⟩ := List.mem_flatMap.1 h
 rcases List.mem_or_eq_of_mem_set hz with hz | rfl
 · exact .inl (List.mem_flatMap.2 ⟨z, hz, hg⟩)
 · exact .inr hg
theorem tD {a b c d e i x g} (h : g ∈ lM (a.set i x) b c d e) : g ∈ lM a b c d e ∨ g ∈ qM x := by
 rcases List.mem_append.1 h with h | h
 · exact (pF h).imp (fun h => List.mem_append_left _ h) id
 · exact .inl (List.mem_append_right _ h)
theorem nY {a b c d e i x g} (h : g ∈ lM a (b.set i x) c d e) : g ∈ lM a b c d e ∨ g ∈ qB x := by
 rcases List.mem_append.1 h with h | h
 · exact .inl (List.mem_append_left _ h)
 rcases List.mem_append.1 h with h | h
 · exact (pF h).imp (fun h => List.mem_append_right _ (List.mem_append_left _ h)) id
 · exact .inl (List.mem_append_right _ (List.mem_append_right _ h))
theorem pG {a b c d e i x g} (h : g ∈ lM a b (c.set i x) d e) : g ∈ lM a b c d e ∨ g ∈ lE x := by
 rcases List.mem_append.1 h with h | h
 · exact .inl (List.mem_append_left _ h)
 rcases List.mem_append.1 h with h | h
 · exact .inl (List.mem_append_right _ (List.mem_append_left _ h))
 rcases List.mem_append.1 h with h | h
 · exact (pF h).imp (fun h => List.mem_append_right _ (List.mem_append_right _ (List.mem_append_left _ h))) id
 · exact .inl (List.mem_append_right _ (List.mem_append_right _ (List.mem_append_right _ h)))
theorem mO {a b c d e i x g} (h : g ∈ lM a b c (d.set i x) e) : g ∈ lM a b c d e ∨ g ∈ fF x := by
 rcases List.mem_append.1 h with h | h
 · exact .inl (List.mem_append_left _ h)
 rcases List.mem_append.1 h with h | h
 · exact .inl (List.mem_append_right _ (List.mem_append_left _ h))
 rcases List.mem_append.1 h with h | h
 · exact .inl (List.mem_append_right _ (List.mem_append_right _ (List.mem_append_left _ h)))
 rcases List.mem_append.1 h with h | h
 · exact (pF h).imp (fun h => List.mem_append_right _ (List.mem_append_right _ (List.mem_append_right _ (List.mem_append_left _ h)))) id
 · exact .inl (List.mem_append_right _ (List.mem_append_right _ (List.mem_append_right _ (List.mem_append_right _ h))))
theorem nZ {a b c d e i x g} (h : g ∈ lM a b c d (e.set i x)) : g ∈ lM a b c d e ∨ g ∈ jO x := by
 rcases List.mem_append.1 h with h | h
 · exact .inl (List.mem_append_left _ h)
 rcases List.mem_append.1 h with h | h
 · exact .inl (List.mem_append_right _ (List.mem_append_left _ h))
 rcases List.mem_append.1 h with h | h
 · exact .inl (List.mem_append_right _ (List.mem_append_right _ (List.mem_append_left _ h)))
 rcases List.mem_append.1 h with h | h
 · exact .inl (List.mem_append_right _ (List.mem_append_right _ (List.mem_append_right _ (List.mem_append_left _ h))))
 · exact (pF h).imp (fun h => List.mem_append_right _ (List.mem_append_right _ (List.mem_append_right _ (List.mem_append_right _ h)))) id
theorem Fits.small {p : Prog} {s : State} (h : Fits p s) : s.small20 := by
 have n4 := h.prog.n4
 have e0 := h.np
 have e1 := h.ns
 have e2 := h.lsems
 have e3 := h.lonces
 have e4 := h.lgroups
 have e5 := h.lbarriers
 have e6 := h.lchans
 have e7 := h.lsaid
 have m0 := h.prog.sems.1
 have m1 := h.prog.groups.1
 have m2 := h.prog.barriers.1
 have m3 := h.prog.rooms.1
 refine ⟨by omega, by omega, ⟨by omega, fun x hx => ?_⟩, ⟨by omega, fun x hx => ?_⟩, ⟨by omega, fun x hx => ?_⟩, ⟨by omega, fun x hx => ?_⟩, ⟨by omega, fun x hx => ?_⟩, by omega⟩
 · obtain ⟨i, hi, rfl⟩ := List.getElem_of_mem hx
   have := (h.sems i _ (List.getElem?_eq_getElem hi)).1.q6
   unfold Sem.small20; omega
 · have := eD (h.onces x hx)
   unfold Once.small20; omega
 · have := gF (h.groups x hx)
   unfold Group.small20; omega
 · obtain ⟨i, hi, rfl⟩ := List.getElem_of_mem hx
   have := fZ (h.barriers i _ (List.getElem?_eq_getElem hi)).1
   unfold Barrier.small20; omega
 · obtain ⟨i, hi, rfl⟩ := List.getElem_of_mem hx
   have hv := (h.chans i _ (List.getElem?_eq_getElem hi)).1
   have h1 := lH hv
   have h2 : (s.chans[i]).Valid := by simpa [Chan.valid] using hv
   have := h2.it
   have := h2.r1
   refine ⟨by omega, by omega, by omega⟩
theorem zL {m x1 : Sem} {n : Int} {told : List Int} (ok : SemOk m) (h1 : 1 ≤ n) (h : m.release n = some (x1, told)) : (∀ u ∈ told, u ∈ m.queue.map (·.t)) ∧ told.length ≤ 6 := by
 rw [Sem.release] at h
 split at h
 · obtain ⟨j, i1, i2, _⟩ := sF m.queue (m.free + n) (by have := ok.f0; omega) (fun w hw => (ok.cnt w hw).1)
   injection h with h
   injection h with h2 h3
   rw [i2] at h3
   subst h3
   have := ok.q6
   refine ⟨fun u hu => ?_, by simp; omega⟩
   obtain ⟨w, hw, rfl⟩ := List.mem_map.1 hu
   exact List.mem_map_of_mem (List.mem_of_mem_take hw)
 · cases h
theorem iI0 {m x1 : Group} {n : Int} {told : List Int} (ok : fE m) (h : m.add n = some (x1, told)) : (∀ u ∈ told, u ∈ m.waits) ∧ told.length ≤ 6 := by
 have hl := gF ok
 rw [Group.add] at h
 split at h
 · split at h
   · injection h with h; injection h with h2 h3; subst h3; exact ⟨fun u hu => hu, hl⟩
   · injection h with h; injection h with h2 h3; subst h3; exact ⟨fun u hu => by simp at hu, by simp⟩
 · cases h
theorem bA0 {m x1 : Barrier} {t : Int} {told : List Int} (ok : dE m) (h : m.arrive t = some (x1, told)) : (∀ u ∈ told, u ∈ m.waits ∨ u = t) ∧ told.length ≤ 7 := by
 have hl := fZ ok
 rw [Barrier.arrive] at h
 split at h
 · injection h with h; injection h with h2 h3; subst h3; exact ⟨fun u hu => by simp at hu, by simp⟩
 · split at h
   · cases h
   · injection h with h; injection h with h2 h3; subst h3; exact ⟨fun u hu => by simpa using hu, by simp; omega⟩
theorem fM0 {m x1 : Chan} {t v : Int} {told : List Int} {b1 b2 : Bool} (h : m.send t v = (x1, told, b1, b2)) : (∀ u ∈ told, u ∈ m.threads) ∧ told.length ≤ 1 ∧ (b1 = false → told = []) := by
 rw [Chan.send] at h
 split at h
 · split at h
   · rename_i hg
     simp only [Prod.mk.injEq] at h
     obtain ⟨_, rfl, rfl, _⟩ := h
     refine ⟨fun u hu => ?_, by simp, fun e => by cases e⟩
     obtain rfl := List.mem_singleton.1 hu
     exact List.mem_append_right _ (List.getElem_mem hg)
   · split at h
     · simp only [Prod.mk.injEq] at h
       obtain ⟨_, rfl, rfl, _⟩ := h
       exact ⟨fun u hu => by simp at hu, by simp, fun e => by cases e⟩
     · simp only [Prod.mk.injEq] at h
       obtain ⟨_, rfl, rfl, _⟩ := h
       exact ⟨fun u hu => by simp at hu, by simp, fun _ => rfl⟩
 · simp only [Prod.mk.injEq] at h
   obtain ⟨_, rfl, rfl, _⟩ := h
   exact ⟨fun u hu => by simp at hu, by simp, fun _ => rfl⟩
theorem iJ0 {m x1 : Chan} {t v c : Int} {told : List Int} {b2 : Bool} (h : m.get t = (x1, v, c, told, b2)) : (∀ u ∈ told, u ∈ m.threads) ∧ told.length ≤ 1 ∧ (c = 0 ∨ c = 1 ∨ c = 2) ∧ (c = 0 → told = []) := by
 rw [Chan.get] at h
 split at h
 · split at h
   · simp only [Prod.mk.injEq] at h
     obtain ⟨_, _, rfl, rfl, _⟩ := h
     refine ⟨fun u hu => ?_, by simp [Chan.gWho]; omega, by omega, fun e => by omega⟩
     obtain ⟨l, hl, rfl⟩ := List.mem_map.1 hu
     exact List.mem_append_left _ (List.mem_map_of_mem (List.mem_of_mem_take hl))
   · split at h
     · simp only [Prod.mk.injEq] at h
       obtain ⟨_, _, rfl, rfl, _⟩ := h
       exact ⟨fun u hu => by simp at hu, by simp, by omega, fun _ => rfl⟩
     · simp only [Prod.mk.injEq] at h
       obtain ⟨_, _, rfl, rfl, _⟩ := h
       exact ⟨fun u hu => by simp at hu, by simp, by omega, fun _ => rfl⟩
 · simp only [Prod.mk.injEq] at h
   obtain ⟨_, _, rfl, rfl, _⟩ := h
   exact ⟨fun u hu => by simp at hu, by simp, by omega, fun _ => rfl⟩
theorem cV0 {m x1 : Chan} {told : List Int} {b2 : Bool} (hv : m.Valid) (h : m.close = (x1, told, b2)) : (∀ u ∈ told, u ∈ m.threads) ∧ told.length ≤ 6 := by
 have hl := hv.len
 rw [Chan.close] at h
 split at h
 · simp only [Prod.mk.injEq] at h
   obtain ⟨_, rfl, _⟩ := h
   exact ⟨fun u hu => List.mem_append_right _ hu, by omega⟩
 · simp only [Prod.mk.injEq] at h
   obtain ⟨_, rfl, _⟩ := h
   exact ⟨fun u hu => by simp at hu, by simp⟩
theorem Chan.Valid.small {m : Chan} (hv : m.Valid) : m.small := by
 have := hv.len
 exact ⟨by omega, by omega, by omega⟩
theorem Rdy.owner {p : Prog} {s : State} {k : Nat} {ops : List Op} {a st : Int} {op : Op} (r : Rdy p s k ops a st op) {x : Once} (hx : s.onces[op.on.toNat]? = some x) (hi : ((op.on.toNat : Nat) : Int) = op.on) (h2 : st = 2) : x.state = 1 ∧ x.owner = k := by
 have hown : aK (bO s) k = [op.on] := by
   rcases r.ow with ⟨e, _⟩ | ⟨_, _, e⟩
   · omega
   · exact e
 have hm : op.on ∈ aK (bO s) k := by rw [hown]; simp
 obtain ⟨j, y, hy, h1, h2, h3⟩ := gH.1 hm
 have e : op.on.toNat = j := by omega
 rw [← e, hx] at hy
 injection hy with hy
 subst hy
 exact ⟨h1, h2⟩
theorem Rdy.stranger {p : Prog} {s : State} {k : Nat} {ops : List Op} {a st : Int} {op : Op} (r : Rdy p s k ops a st op) {x : Once} (hx : s.onces[op.on.toNat]? = some x) (h2 : st ≠ 2) : x.state = 1 → x.owner ≠ k := by
 intro h1 he
 have hown : aK (bO s) k = [] := by
   rcases r.ow with ⟨_, e⟩ | ⟨e, _⟩
   · exact e
   · exact (h2 e).elim
 have : ((op.on.toNat : Nat) : Int) ∈ aK (bO s) k := gH.2 ⟨_, x, hx, h1, he, rfl⟩
 rw [hown] at this
 cases this
theorem wJ (s : StateH) (w : World) (h : At w [fR (aJ s)]) (hb : s.status.length ≤ 1048576) :
   Calls Tryz.prog 80 #[aM s] w (Ret w fun v L => ∃ y : Sl, v = y.val (dK s.pure).length ∧ L = [own y 3 aL 1 (dK s.pure)]) := by
 refine bU Tryz.func80 rfl aA w _ rfl _ rfl _ h ⟨rfl, rfl, trivial⟩ _ (by decide) ?_
 refine AllSl.mk fun y0 => ?_
 refine LoopW.mk ⟨{ q : Nat × Sl × List Int // q.1 ≤ s.status.length ∧ q.2.2 = evL jJ 0 (s.status.take q.1) ∧ (q.1 = 0 ∨ s.fault = 0) },
   fun q => .mk [(1, .p 0 0), (3, .v (q.1.2.1.val q.1.2.2.length)), (4, .v (.int .i64 (q.1.1 : Int)))] 1 0 [(0, 46, 9)] [((0, 1), .v (s.h1.val s.status.length)), ((0, 8), .v (.int .i64 s.fault))] [own q.1.2.1 3 aL 1 q.1.2.2, fR (aJ s)],
   fun q => s.status.length - q.1.1, ⟨(0, y0, []), Nat.zero_le _, rfl, .inl rfl⟩, ?_, ?_⟩
 · exact aC [0, 1] zw2 zw0 zw2 zw5 zw4 rfl rfl
 rintro ⟨⟨k, y, xs⟩, hk, hx, hkf⟩
 simp only at hk hx hkf
 have hend : s.status.length ≤ k ∨ ¬ s.fault = 0 → dK s.pure = xs := fun hn => by
   by_cases f0 : s.fault = 0
   · rw [dK, if_pos (show s.pure.fault = 0 from f0), hx, List.take_of_length_le (hn.resolve_right fun h => h f0)]; rfl
   · rw [dK, if_neg (show ¬ s.pure.fault = 0 from f0), hx, hkf.resolve_right f0]; rfl
 apply CaseB.mk <;> intro g
 · have hlt : k < s.status.length := by simpa using g
   apply CaseB.mk <;> intro g
   · have f0 : s.fault = 0 := by simpa using g
     have hw := bA k _ hlt (by omega)
     have hsucc := eV jJ s.status hlt
     have hl : xs.length ≤ 1048576 := by have := qV (s.status.take k); rw [← hx] at this; simp at this; omega
     refine aF aI aA rfl rfl rfl rfl rfl ⟨rfl, rfl⟩ (aN 1 rfl (.ofR (cR s))) k rfl z37 (fun ad => ?_)
     refine CaseB.mk (fun g => ?_) (fun g0 => ?_)
     · have c : s.status[k] = 0 ∨ s.status[k] = 2 := .inl z85
       refine AllSl.mk fun b => ?_
       refine bR aI 1 aA (ys := [(k : Int)]) rfl rfl rfl rfl rfl rfl rfl rfl rfl (by decide) ⟨rfl, rfl⟩ rfl z31 z37 z37 (fun z => ?_)
       refine ⟨⟨(k + 1, z, xs ++ [(k : Int)]), by omega, by simp only [hsucc, jJ, if_pos c, hx], .inr f0⟩, ?_, by simp only; omega⟩
       exact aC [0, 2] zw1 zw0 zw1 zw5 zw3 rfl rfl
     have n0 : ¬ s.status[k] = 0 := by simpa using g0
     refine aF aI aA rfl rfl rfl rfl rfl ⟨rfl, rfl⟩ (aN 1 rfl (.ofR (cR s))) k rfl z37 (fun ad2 => ?_)
     apply CaseB.mk <;> intro g
     · have c : s.status[k] = 0 ∨ s.status[k] = 2 := .inr z85
       refine AllSl.mk fun b => ?_
       refine bR aI 1 aA (ys := [(k : Int)]) rfl rfl rfl rfl rfl rfl rfl rfl rfl (by decide) ⟨rfl, rfl⟩ rfl z31 z37 z37 (fun z => ?_)
       refine ⟨⟨(k + 1, z, xs ++ [(k : Int)]), by omega, by simp only [hsucc, jJ, if_pos c, hx], .inr f0⟩, ?_, by simp only; omega⟩
       exact aC [0, 2] zw1 zw0 zw1 zw5 zw3 rfl rfl
     have n2 : ¬ s.status[k] = 2 := by simpa using g
     refine ⟨⟨(k + 1, y, xs), by omega, by simp only [hsucc, jJ, if_neg (show ¬ (s.status[k] = 0 ∨ s.status[k] = 2) from fun h => h.elim n0 n2), hx, List.append_nil], .inr f0⟩, ?_, by simp only; omega⟩
     exact aC [0, 1] zw1 zw0 zw1 zw5 zw3 rfl rfl
   · have f0 : ¬ s.fault = 0 := by simpa using g
     rw [hend (.inr f0)]
     exact bY [0] ⟨y, rfl, rfl⟩ z118 rfl ⟨rfl, trivial⟩ (fun _ => rfl)
 have hge : s.status.length ≤ k := by simpa using g
 rw [hend (.inl hge)]
 exact bY [0] ⟨y, rfl, rfl⟩ z118 rfl ⟨rfl, trivial⟩ (fun _ => rfl)
def iK0 (p : Prog) (s : State) (v : Value) (L : List Fct) : Prop := ∃ (y : Sl) (xs : List Int), v = y.val xs.length ∧ (Fits p s → xs = dK s) ∧ (¬ Fits p s → xs = []) ∧ L = [own y 3 aL 1 xs]
theorem uI (p : ProgH) (s : StateH) (w : World) (h : At w [fR (bD p), fR (aJ s)]) (hp : p.pure.small20) (hs : s.pure.small20) :
   Calls Tryz.prog 161 #[eJ p, aM s] w (Ret w (iK0 p.pure s.pure)) := by
 have hb : s.status.length ≤ 1048576 := hs.2.1
 refine cN Tryz.func161 rfl aA w _ rfl _ rfl _ h ⟨rfl, rfl, rfl, rfl, trivial⟩ _ _ (by decide) ?_
 refine aB _ jF0 rfl rfl rfl rfl ⟨rfl, rfl⟩ (fun A w hW => kP p s w ⟨hW.get 0 rfl (.refl _), hW.get 1 rfl (.refl _), trivial⟩ hp hs) ?_
 rintro v L ⟨b, rfl, hbb, rfl⟩
 apply CaseB.mk <;> intro g
 · have n : ¬ Fits p.pure s.pure := fun e => by rw [hbb.2 e] at g; cases g
   refine AllSl.mk fun y0 => ?_
   exact bY [0] ⟨y0, [], rfl, fun e => (n e).elim, fun _ => rfl, rfl⟩ z118 rfl ⟨rfl, trivial⟩ (fun _ => rfl)
 have ft := hbb.1 z85
 refine aB _ lT0 rfl rfl rfl rfl ⟨rfl, rfl⟩ (fun A w hW => wJ s w ⟨hW.get 1 rfl (.refl _), trivial⟩ hb) ?_
 rintro v L ⟨y, rfl, rfl⟩
 exact bY [0] ⟨y, _, rfl, fun _ => rfl, fun e => (e ft).elim, rfl⟩ z118 rfl ⟨rfl, trivial⟩ (fun _ => rfl)
theorem iX (p : Prog) : ∀ (who : List Int) (s s' : State), s'.places = s.places → s'.status = s.status → onM p who s' = { s' with places := (onM p who s).places, status := (onM p who s).status }
 | [], s, s', e1, e2 => by cases s'; simp only [onM, List.foldl_nil] at *; simp [e1, e2]
 | x :: r, s, s', e1, e2 => by
   have h := iX p r (goM p s x) (goM p s' x) (by simp only [goM, e1]) (by simp only [goM, e1, e2])
   have e : ∀ s, onM p (x :: r) s = onM p r (goM p s x) := fun _ => rfl
   rw [e, e, h]; rfl
theorem gK {Zs : List Fct} {y : StateH} (k0 k1 k2 k3 k4 k5 k6 k7 : Nat) (e0 : Zs[k0]? = some (own y.h0 3 aL 1 y.places)) (e1 : Zs[k1]? = some (own y.h1 3 aL 1 y.status)) (e2 : Zs[k2]? = some (own y.h2 85 iU 3 y.sems)) (e3 : Zs[k3]? = some (own y.h3 98 fP 4 y.onces)) (e4 : Zs[k4]? = some (own y.h4 88 eQ 2 y.groups)) (e5 : Zs[k5]? = some (own y.h5 91 dD 3 y.barriers)) (e6 : Zs[k6]? = some (own y.h6 95 gW 5 y.chans)) (e7 : Zs[k7]? = some (own y.h7 3 aL 1 y.said)) : ∀ g ∈ mN y, g ∈ Zs := by
 intro g hg
 simp only [mN, List.mem_cons, List.not_mem_nil, or_false] at hg
 rcases hg with rfl | rfl | rfl | rfl | rfl | rfl | rfl | rfl
 · exact List.mem_of_getElem? e0
 · exact List.mem_of_getElem? e1
 · exact List.mem_of_getElem? e2
 · exact List.mem_of_getElem? e3
 · exact List.mem_of_getElem? e4
 · exact List.mem_of_getElem? e5
 · exact List.mem_of_getElem? e6
 · exact List.mem_of_getElem? e7
end Go.Proofs.YtchkcjeeknfchaaGreatDoor
