/- FnMoreChoices: texts that its proof stands on, part 8. -/
import Derived.Test.YtijmjecehppbfaaGreatQMoreChoicesg
namespace Go.Proofs.YtijmjecehppbfaaGreat
set_option maxRecDepth 100000
set_option maxHeartbeats 100000000
open Go Go.Sx Go.RowKit
theorem oW0 (m : Chan) (i s g : Sl) (t : Int) (w : World) (h : At w [slo i aJ 1 m.items, slo s fX 2 m.senders, slo g aJ 1 m.getters]) (hb : m.small) :
   Calls Tryz.prog 178 #[iZ m i s g, .int .i64 t] w (Ret w (GetR (m.get t))) := by
 obtain ⟨b1, b2, b3⟩ := hb
 generalize hp : m.get t = p
 have hno : ¬ (m.Valid ∧ aZ t = true ∧ ¬ t ∈ m.threads) → p = (.zero, 0, 0, [], false) := fun h => by rw [← hp, Chan.get, if_neg h]
 refine cB Tryz.func178 rfl aA w _ rfl _ rfl _ h z140 _ _ (by decide) ?_
 refine AllSl.mk fun n0 => ?_
 refine aB _ fQ0 rfl rfl rfl rfl ⟨rfl, rfl⟩ (fun A w hW => tG m i s g w ⟨z34, z34, z34, trivial⟩ ⟨b1, b2, b3⟩) ?_
 rintro v L ⟨rfl, rfl⟩
 refine CaseB.mk (fun h1 => ?_) (fun h1 => ?_)
 · obtain rfl := hno (fun h => qW h1 h.1)
   exact bG [97, 98, 99, 0] ⟨cV, cV, cV, n0, rfl, rfl⟩ z109 rfl ⟨rfl, rfl, rfl, rfl, trivial⟩ (fun _ => rfl)
 have h6 := cW (lE h1).di
 have hi4 : m.items.length ≤ 4 := by have := (lE h1).it; have := (lE h1).r1; omega
 simp only [Chan.threads, List.length_append, List.length_map] at h6
 refine aB _ rK rfl rfl rfl rfl ⟨rfl, rfl⟩ (fun A w hW => fY _ w) ?_
 rintro v L ⟨rfl, rfl⟩
 refine CaseB.mk (fun h2 => ?_) (fun h2 => ?_)
 · obtain rfl := hno (fun h => by rw [h.2.1] at h2; cases h2)
   exact bG [97, 98, 99, 0] ⟨cV, cV, cV, n0, rfl, rfl⟩ z109 rfl ⟨rfl, rfl, rfl, rfl, trivial⟩ (fun _ => rfl)
 refine aB _ nS0 rfl rfl rfl rfl ⟨rfl, rfl⟩ (fun A w hW => zB m i s g t w ⟨z34, z34, z34, trivial⟩ ⟨b1, b2, b3⟩ (by omega)) ?_
 rintro v L ⟨rfl, rfl⟩
 refine CaseB.mk (fun h3 => ?_) (fun h3 => ?_)
 · obtain rfl := hno (fun h => h.2.2 (by simpa using h3))
   exact bG [97, 98, 99, 0] ⟨cV, cV, cV, n0, rfl, rfl⟩ z109 rfl ⟨rfl, rfl, rfl, rfl, trivial⟩ (fun _ => rfl)
 have hok : m.Valid ∧ aZ t = true ∧ ¬ t ∈ m.threads := ⟨lE h1, by simpa using h2, by simpa using h3⟩
 rw [Chan.get, if_pos hok] at hp
 refine aB _ fL0 rfl rfl rfl rfl ⟨rfl, rfl⟩ (fun A w hW => aM0 m i s g w ⟨z34, z34, z34, trivial⟩ ⟨b1, b2, b3⟩) ?_
 rintro v L ⟨i1, s1, g1, rfl, rfl⟩
 refine CaseB.mk (fun h4 => ?_) (fun h4 => ?_)
 · have hs : 0 < m.senders.length := by simpa using h4
   have hI : 0 < (m.items ++ [(m.senders[0]'hs).v]).length := by simp
   rw [gG0 hs, nZ0 hs, if_pos hI, cN0 hI] at hp
   subst hp
   refine aG gR aA rfl rfl rfl rfl rfl ⟨rfl, rfl⟩ z35 0 rfl z43 (fun ad => ?_)
   refine AllSl.mk fun y => ?_
   refine cD aE aA (xs := m.items) (ys := [(m.senders[0]'hs).v]) rfl rfl rfl rfl rfl rfl rfl rfl rfl (by decide) ⟨rfl, rfl⟩ z39 z35 z43 z43 (fun i2 => ?_)
   refine AllSl.mk fun y => ?_
   refine iG aA rfl rfl rfl rfl ⟨rfl, rfl⟩ rfl rfl z35 (1) (m.senders.length) ((m.senders.drop 1)).length rfl rfl z43 z43 z43 ?_
   refine cD gR aA (xs := []) rfl rfl rfl rfl rfl rfl rfl rfl rfl (by decide) ⟨rfl, rfl⟩ z39 (uK gR 1 (by omega) (by first | exact iE 6 rfl | exact iE 7 rfl | exact iE 8 rfl | exact iE 5 rfl)) z43 z43 (fun s2 => ?_)
   refine aG gR aA rfl rfl rfl rfl rfl ⟨rfl, rfl⟩ z35 0 rfl z43 (fun ad => ?_)
   refine AllSl.mk fun y => ?_
   refine cD aE aA (xs := []) (ys := [(m.senders[0]'hs).t]) rfl rfl rfl rfl rfl rfl rfl rfl rfl (by decide) ⟨rfl, rfl⟩ z39 z35 z43 z43 (fun r => ?_)
   refine CaseB.mk (fun h5 => ?_) (fun h5 => by simp at h5)
   refine AllSl.mk fun y => ?_
   refine iG aA rfl rfl rfl rfl ⟨rfl, rfl⟩ rfl rfl z35 (1) ((m.items ++ [(m.senders[0]'hs).v]).length) (((m.items ++ [(m.senders[0]'hs).v]).drop 1)).length rfl rfl z43 z43 z43 ?_
   refine cD aE aA (xs := []) rfl rfl rfl rfl rfl rfl rfl rfl rfl (by decide) ⟨rfl, rfl⟩ z39 (uK aE 1 (by simp) (by first | exact bX 1 rfl | exact bX 2 rfl | exact bX 3 rfl | exact bX 4 rfl | exact bX 5 rfl)) z43 z43 (fun i3 => ?_)
   refine aF aA z102 z102 z102 200 [((2, 0), .v (.int .i64 m.room)), ((2, 1), .v (i3.val ((m.items ++ [(m.senders[0]'hs).v]).drop 1).length)), ((2, 2), .v (s2.val (m.senders.drop 1).length)), ((2, 3), .v (g1.val m.getters.length)), ((2, 4), .v (.bool m.closed))] [0, 1, 2, 3, 4, 5, 6, 7, 8, 9, 10] [_, _, _, _, _, _, _, _, _, _, _] z117 z133 ⟨rfl, rfl, rfl, rfl, rfl, rfl, rfl, rfl, rfl, rfl, rfl, trivial⟩ rfl ?_
   refine bO (ti := aU tab) aE aA rfl rfl rfl rfl rfl ⟨rfl, rfl⟩ z35 0 rfl z43 (fun ad => ?_)
   exact bG [0, 3, 7, 1] ⟨i3, s2, g1, r, rfl, rfl⟩ z121 rfl ⟨rfl, rfl, rfl, rfl, trivial⟩ (fun _ => rfl)
 · have hs : m.senders = [] := by simpa using h4
   rw [gH0 hs, oA0 hs] at hp
   refine CaseB.mk (fun h5 => ?_) (fun h5 => ?_)
   · have hI : 0 < m.items.length := by simpa using h5
     rw [if_pos hI, cN0 hI] at hp
     subst hp
     refine AllSl.mk fun y => ?_
     refine iG aA rfl rfl rfl rfl ⟨rfl, rfl⟩ rfl rfl z35 (1) (m.items.length) ((m.items.drop 1)).length rfl rfl z43 z43 z43 ?_
     refine cD aE aA (xs := []) rfl rfl rfl rfl rfl rfl rfl rfl rfl (by decide) ⟨rfl, rfl⟩ z39 (uK aE 1 (by omega) (by first | exact bX 1 rfl | exact bX 2 rfl)) z43 z43 (fun i3 => ?_)
     refine aF aA z102 z102 z102 200 [((2, 0), .v (.int .i64 m.room)), ((2, 1), .v (i3.val (m.items.drop 1).length)), ((2, 2), .v (s1.val m.senders.length)), ((2, 3), .v (g1.val m.getters.length)), ((2, 4), .v (.bool m.closed))] [0, 1, 2, 3, 4, 5, 6, 7] [_, _, _, _, _, _, _, _] z117 z133 ⟨rfl, rfl, rfl, rfl, rfl, rfl, rfl, rfl, trivial⟩ rfl ?_
     refine bO (ti := aU tab) aE aA rfl rfl rfl rfl rfl ⟨rfl, rfl⟩ z35 0 rfl z43 (fun ad => ?_)
     exact bG [0, 2, 3, 4] ⟨i3, s1, g1, n0, rfl, rfl⟩ z123 rfl ⟨rfl, rfl, rfl, rfl, trivial⟩ (fun _ => z70)
   · have hI : ¬ 0 < m.items.length := by simpa using h5
     have hI' : m.items = [] := by simpa using h5
     rw [if_neg hI] at hp
     refine CaseB.mk (fun h6 => ?_) (fun h6 => ?_)
     · rw [if_pos h6] at hp
       subst hp
       exact bG [0, 1, 2, 3] ⟨i1, s1, g1, n0, rfl, rfl⟩ z124 rfl ⟨rfl, rfl, rfl, rfl, trivial⟩ (fun _ => z68)
     · rw [if_neg (by simp [h6])] at hp
       subst hp
       refine AllSl.mk fun r => ?_
       refine cD aE aA (ys := [t]) rfl rfl rfl rfl rfl rfl rfl rfl rfl (by decide) ⟨rfl, rfl⟩ z39 z35 z43 z43 (fun g2 => ?_)
       exact bG [2, 3, 0, 4] ⟨i1, s1, g2, n0, rfl, rfl⟩ z124 rfl ⟨rfl, rfl, rfl, rfl, trivial⟩ (fun _ => z68)
def Chan.close (m : Chan) : Chan × List Int × Bool :=
 if m.Valid ∧ m.closed = false ∧ m.senders = [] then ({ m with senders := [], getters := [], closed := true }, m.getters, true) else (.zero, [], false)
def kG0 (p : Chan × List Int × Bool) (v : Value) (L : List Fct) : Prop :=
 ∃ i s g r : Sl, v = .tuple #[iZ p.1 i s g, r.val p.2.1.length, .bool p.2.2] ∧ L = [own i 3 aJ 1 p.1.items, own s 187 fX 2 p.1.senders, own g 3 aJ 1 p.1.getters, own r 3 aJ 1 p.2.1]
theorem mN0 (m : Chan) (i s g : Sl) (w : World) (h : At w [slo i aJ 1 m.items, slo s fX 2 m.senders, slo g aJ 1 m.getters]) (hb : m.small) :
   Calls Tryz.prog 78 #[iZ m i s g] w (Ret w (kG0 m.close)) := by
 obtain ⟨b1, b2, b3⟩ := hb
 generalize hp : m.close = p
 have hno : ¬ (m.Valid ∧ m.closed = false ∧ m.senders = []) → p = (.zero, [], false) := fun h => by rw [← hp, Chan.close, if_neg h]
 refine bZ Tryz.func78 rfl aA w _ rfl _ rfl _ h z140 _ (by decide) ?_
 refine aB _ fI0 rfl rfl rfl rfl ⟨rfl, rfl⟩ (fun A w hW => wC m i s g w ⟨z34, z34, z34, trivial⟩ ⟨b1, b2, b3⟩) ?_
 rintro v L ⟨rfl, rfl⟩
 refine CaseB.mk (fun h1 => ?_) (fun h1 => ?_)
 · obtain rfl := hno (fun h => qW h1 h.1)
   exact bG [96, 97, 98, 99] ⟨cV, cV, cV, cV, rfl, rfl⟩ z107 rfl ⟨rfl, rfl, rfl, rfl, trivial⟩ (fun _ => rfl)
 refine CaseB.mk (fun h2 => ?_) (fun h2 => ?_)
 · obtain rfl := hno (fun h => by rw [h.2.1] at h2; cases h2)
   exact bG [96, 97, 98, 99] ⟨cV, cV, cV, cV, rfl, rfl⟩ z107 rfl ⟨rfl, rfl, rfl, rfl, trivial⟩ (fun _ => rfl)
 refine CaseB.mk (fun h3 => ?_) (fun h3 => ?_)
 · obtain rfl := hno (fun h => by rw [h.2.2] at h3; simp at h3)
   exact bG [96, 97, 98, 99] ⟨cV, cV, cV, cV, rfl, rfl⟩ z107 rfl ⟨rfl, rfl, rfl, rfl, trivial⟩ (fun _ => rfl)
 have hs : m.senders = [] := by simpa using h3
 rw [Chan.close, if_pos ⟨lE h1, h2, hs⟩] at hp
 subst hp
 refine aB _ sN rfl rfl rfl rfl ⟨rfl, rfl⟩ (fun A w hW => mD m i s g w ⟨z34, z34, z34, trivial⟩ ⟨b1, b2, b3⟩) ?_
 rintro v L ⟨i1, s1, g1, rfl, rfl⟩
 exact bG [0, 1, 99, 2] ⟨i1, s1, cV, g1, rfl, rfl⟩ ⟨.inl ⟨_, rfl, z70⟩, .inl ⟨_, rfl, z70⟩, .inr z139, .inl ⟨_, rfl, z70⟩, trivial⟩ rfl ⟨rfl, rfl, rfl, rfl, trivial⟩ (fun _ => z70)
theorem kH0 (m : Chan) (i s g : Sl) (w : World) (h : At w [slo i aJ 1 m.items, slo s fX 2 m.senders, slo g aJ 1 m.getters]) (hb : m.small) :
   Calls Tryz.prog 179 #[iZ m i s g] w (Ret w (kG0 m.close)) := by
 obtain ⟨b1, b2, b3⟩ := hb
 generalize hp : m.close = p
 have hno : ¬ (m.Valid ∧ m.closed = false ∧ m.senders = []) → p = (.zero, [], false) := fun h => by rw [← hp, Chan.close, if_neg h]
 refine bZ Tryz.func179 rfl aA w _ rfl _ rfl _ h z140 _ (by decide) ?_
 refine aB _ fQ0 rfl rfl rfl rfl ⟨rfl, rfl⟩ (fun A w hW => tG m i s g w ⟨z34, z34, z34, trivial⟩ ⟨b1, b2, b3⟩) ?_
 rintro v L ⟨rfl, rfl⟩
 refine CaseB.mk (fun h1 => ?_) (fun h1 => ?_)
 · obtain rfl := hno (fun h => qW h1 h.1)
   refine AllSl.mk fun r => ?_
   exact bG [96, 97, 98, 0] ⟨cV, cV, cV, r, rfl, rfl⟩ z109 rfl ⟨rfl, rfl, rfl, rfl, trivial⟩ (fun _ => rfl)
 refine CaseB.mk (fun h2 => ?_) (fun h2 => ?_)
 · obtain rfl := hno (fun h => by rw [h.2.1] at h2; cases h2)
   refine AllSl.mk fun r => ?_
   exact bG [96, 97, 98, 0] ⟨cV, cV, cV, r, rfl, rfl⟩ z109 rfl ⟨rfl, rfl, rfl, rfl, trivial⟩ (fun _ => rfl)
 refine CaseB.mk (fun h3 => ?_) (fun h3 => ?_)
 · obtain rfl := hno (fun h => by rw [h.2.2] at h3; simp at h3)
   refine AllSl.mk fun r => ?_
   exact bG [96, 97, 98, 0] ⟨cV, cV, cV, r, rfl, rfl⟩ z109 rfl ⟨rfl, rfl, rfl, rfl, trivial⟩ (fun _ => rfl)
 have hs : m.senders = [] := by simpa using h3
 rw [Chan.close, if_pos ⟨lE h1, h2, hs⟩] at hp
 subst hp
 refine aB _ fL0 rfl rfl rfl rfl ⟨rfl, rfl⟩ (fun A w hW => aM0 m i s g w ⟨z34, z34, z34, trivial⟩ ⟨b1, b2, b3⟩) ?_
 rintro v L ⟨i1, s1, g1, rfl, rfl⟩
 refine AllSl.mk fun g2 => ?_
 refine aF aA z102 z102 z102 200 [((2, 0), .v (.int .i64 m.room)), ((2, 1), .v (i1.val m.items.length)), ((2, 2), .v (s1.val m.senders.length)), ((2, 3), .v (g2.val 0)), ((2, 4), .lit true), ((0, 3), .v (g.val m.getters.length))] [0, 1, 2, 3, 4, 5, 6] [_, _, _, _, _, _, _] z114 z130 ⟨rfl, rfl, rfl, rfl, rfl, rfl, rfl, trivial⟩ rfl ?_
 refine AllSl.mk fun y => ?_
 refine mQ (ti := aU tab) aE aA (xs := []) rfl rfl rfl rfl rfl rfl rfl rfl rfl (by decide) ⟨rfl, rfl⟩ z39 z35 z43 z43 z100 (fun r => ?_)
 exact bG [2, 3, 1, 0] ⟨i1, s1, g2, r, rfl, rfl⟩ z123 rfl ⟨rfl, rfl, rfl, rfl, trivial⟩ (fun _ => z70)
def Chan.small8 (m : Chan) : Prop := m.items.length ≤ 8 ∧ m.senders.length ≤ 8 ∧ m.getters.length ≤ 8
theorem Chan.small8.small {m : Chan} (h : m.small8) : m.small := ⟨by have := h.1; omega, by have := h.2.1; omega, by have := h.2.2; omega⟩
theorem Chan.Valid.len {m : Chan} (h : m.Valid) : m.items.length ≤ 4 ∧ m.senders.length + m.getters.length ≤ 6 := by
 have h1 := cW h.di
 have := h.it
 have := h.r1
 simp only [Chan.threads, List.length_append, List.length_map] at h1
 omega
theorem oZ {xs ys : List Int} (h : ys.Sublist xs) (hd : bA xs = true) : bA ys = true := by
 simp only [bA, decide_eq_true_eq] at hd ⊢
 exact ⟨hd.1.sublist h, fun x hx => hd.2 x (h.subset hx)⟩
theorem hY {xs : List Int} {t : Int} (hd : bA xs = true) (h1 : aZ t = true) (h2 : ¬ t ∈ xs) : bA (xs ++ [t]) = true := by
 simp only [bA, decide_eq_true_eq] at hd ⊢
 refine ⟨?_, fun x hx => ?_⟩
 · rw [List.nodup_append]
   refine ⟨hd.1, by simp, fun a ha b hb => ?_⟩
   simp at hb; subst hb
   rintro rfl; exact h2 ha
 · rcases List.mem_append.1 hx with hx | hx
   · exact hd.2 x hx
   · simp at hx; subst hx; exact h1
theorem aT0 {m : Chan} {t u : Int} (h : (m.send t u).2.2.2 = true) : m.Valid ∧ m.closed = false ∧ aZ t = true ∧ aV u = true ∧ ¬ t ∈ m.threads := by
 rw [Chan.send] at h
 split at h
 · assumption
 · cases h
theorem oX0 {m : Chan} {t : Int} (h : (m.get t).2.2.2.2 = true) : m.Valid ∧ aZ t = true ∧ ¬ t ∈ m.threads := by
 rw [Chan.get] at h
 split at h
 · assumption
 · cases h
theorem xF {m : Chan} (h : m.close.2.2 = true) : m.Valid ∧ m.closed = false ∧ m.senders = [] := by
 rw [Chan.close] at h
 split at h
 · assumption
 · cases h
theorem eI0 {m : Chan} {t u : Int} (h : (m.send t u).2.2.2 = true) : (m.send t u).1.Valid := by
 have hc := aT0 h
 obtain ⟨hv, h2, h3, h4, h5⟩ := hc
 rw [Chan.send, if_pos ⟨hv, h2, h3, h4, h5⟩]
 split
 · rename_i hg
   have hg' : m.getters ≠ [] := fun e => by rw [e] at hg; simp at hg
   have hs : m.senders = [] := Classical.byContradiction fun hn => hg' (hv.se hn).2.1
   refine ⟨hv.r0, hv.r1, hv.it, hv.iv, hv.sv, oZ ?_ hv.di, fun hn => absurd hs hn, fun _ => hv.ge hg'⟩
   exact List.Sublist.append (List.Sublist.refl _) (List.drop_sublist _ _)
 · rename_i hg
   have hg' : m.getters = [] := by simpa using hg
   split
   · rename_i hi
     have hs : m.senders = [] := Classical.byContradiction fun hn => by have := (hv.se hn).1; omega
     refine ⟨hv.r0, hv.r1, by simp; omega, fun x hx => ?_, hv.sv, hv.di, fun hn => absurd hs hn, fun hn => absurd hg' hn⟩
     rcases List.mem_append.1 hx with hx | hx
     · exact hv.iv x hx
     · simp at hx; subst hx; exact h4
   · rename_i hi
     have := hv.it
     refine ⟨hv.r0, hv.r1, hv.it, hv.iv, fun x hx => ?_, ?_, fun _ => ⟨by simp; omega, hg', h2⟩, fun hn => absurd hg' hn⟩
     · rcases List.mem_append.1 hx with hx | hx
       · exact hv.sv x hx
       · simp at hx; subst hx; exact h4
     · have e : (Chan.threads { m with senders := m.senders ++ [⟨t, u⟩] }) = m.threads ++ [t] := by simp [Chan.threads, hg']
       rw [e]
       exact hY hv.di h3 h5
theorem hJ0 {m : Chan} {t : Int} (h : (m.get t).2.2.2.2 = true) : (m.get t).1.Valid := by
 obtain ⟨hv, h3, h5⟩ := oX0 h
 rw [Chan.get, if_pos ⟨hv, h3, h5⟩]
 split
 · rename_i hI
   have hg : m.getters = [] := Classical.byContradiction fun hn => by
     have h1 := (hv.ge hn).1
     have hs : m.senders = [] := Classical.byContradiction fun hs => hn (hv.se hs).2.1
     rw [Chan.gItems, h1, hs] at hI
     simp at hI
   have hall : ∀ x ∈ m.gItems, aV x = true := fun x hx => by
     rcases List.mem_append.1 hx with hx | hx
     · exact hv.iv x hx
     · obtain ⟨l, hl, rfl⟩ := List.mem_map.1 hx
       exact hv.sv l (List.mem_of_mem_take hl)
   have hlen : ((m.gItems.drop 1).length : Int) ≤ m.room ∧ (m.senders ≠ [] → ((m.gItems.drop 1).length : Int) = m.room) := by
     have := hv.it
     cases hs : m.senders with
     | nil => simp [Chan.gItems, hs]; omega
     | cons a r => have := (hv.se (by simp [hs])).1; simp [Chan.gItems, hs]; omega
   refine ⟨hv.r0, hv.r1, hlen.1, fun x hx => hall x (List.mem_of_mem_drop hx), fun l hl => hv.sv l (List.mem_of_mem_drop hl), oZ ?_ hv.di, fun hn => ?_, fun hn => absurd hg hn⟩
   · exact List.Sublist.append (List.Sublist.map _ (List.drop_sublist _ _)) (List.Sublist.refl _)
   · have hs : m.senders ≠ [] := fun e => by rw [e] at hn; simp at hn
     exact ⟨hlen.2 hs, hg, (hv.se hs).2.2⟩
 · rename_i hI
   have hI2 : m.items = [] ∧ m.senders = [] := by
     simp [Chan.gItems] at hI
     refine ⟨hI.1, ?_⟩
     cases hs : m.senders with
     | nil => rfl
     | cons a r => simp [hs] at hI
   have e : ({ m with items := [], senders := [] } : Chan) = m := by rw [← hI2.1]; cases m; simp at hI2; simp [hI2]
   split
   · rw [e]; exact hv
   · rename_i hcl
     have hcl' : m.closed = false := by simpa using hcl
     refine ⟨hv.r0, hv.r1, by have := hv.r0; simpa using this, by simp, by simp, ?_, fun hn => absurd rfl hn, fun _ => ⟨rfl, hcl'⟩⟩
     have e2 : (Chan.threads { m with items := [], senders := [], getters := m.getters ++ [t] }) = m.threads ++ [t] := by simp [Chan.threads, hI2.2]
     rw [e2]
     exact hY hv.di h3 h5
theorem cO0 {m : Chan} (h : m.close.2.2 = true) : m.close.1.Valid := by
 obtain ⟨hv, h1, h2⟩ := xF h
 rw [Chan.close, if_pos ⟨hv, h1, h2⟩]
 refine ⟨hv.r0, hv.r1, hv.it, hv.iv, by simp, ?_, fun hn => absurd rfl hn, fun hn => absurd rfl hn⟩
 simp [Chan.threads, bA]
def nO (p : Prog) (t : Nat) (a : Int) : Int := if a = ((p.threads.getD t []).length : Int) then 3 else 0
def goM (p : Prog) (s : State) (t : Int) : State :=
 { s with places := s.places.set t.toNat (s.places.getD t.toNat 0 + 1), status := s.status.set t.toNat (nO p t.toNat (s.places.getD t.toNat 0 + 1)) }
def onM (p : Prog) (who : List Int) (s : State) : State := who.foldl (goM p) s
def bE (s : State) (t st : Int) : State := { s with status := s.status.set t.toNat st }
theorem xG (p : Prog) (s : State) (t : Int) (u : Nat) (h0 : 0 ≤ t) : (goM p s t).places[u]? = if (u : Int) = t then s.places[u]?.map (· + 1) else s.places[u]? := by
 obtain ⟨k, rfl⟩ : ∃ k : Nat, t = k := ⟨_, (Int.toNat_of_nonneg h0).symm⟩
 simp only [goM, Int.toNat_natCast, List.getElem?_set]
 by_cases e : k = u
 · subst e
   simp only [if_true]
   by_cases hl : k < s.places.length
   · simp [hl]
   · simp [hl]
 · have e' : ¬ (u : Int) = k := by omega
   simp only [e, e', if_false]
theorem eJ0 (p : Prog) (s : State) (t : Int) (u : Nat) (h0 : 0 ≤ t) : (goM p s t).status[u]? = if (u : Int) = t then s.status[u]?.map (fun _ => nO p u (s.places.getD u 0 + 1)) else s.status[u]? := by
 obtain ⟨k, rfl⟩ : ∃ k : Nat, t = k := ⟨_, (Int.toNat_of_nonneg h0).symm⟩
 simp only [goM, Int.toNat_natCast, List.getElem?_set]
 by_cases e : k = u
 · subst e
   simp only [if_true]
   by_cases hl : k < s.status.length
   · simp [hl]
   · simp [hl]
 · have e' : ¬ (u : Int) = k := by omega
   simp only [e, e', if_false]
theorem xH (p : Prog) : ∀ (who : List Int) (s : State), who.Nodup → (∀ x ∈ who, 0 ≤ x) → ∀ u : Nat, (onM p who s).places[u]? = if (u : Int) ∈ who then s.places[u]?.map (· + 1) else s.places[u]?
 | [], s, _, _, u => by simp [onM]
 | x :: r, s, hd, h0, u => by
   have hd' := List.nodup_cons.1 hd
   have ih := xH p r (goM p s x) hd'.2 (fun y hy => h0 y (List.mem_cons_of_mem _ hy)) u
   have e : onM p (x :: r) s = onM p r (goM p s x) := rfl
   rw [e, ih, xG p s x u (h0 x (by simp))]
   by_cases h1 : (u : Int) = x
   · have h2 : ¬ (u : Int) ∈ r := fun h => hd'.1 (h1 ▸ h)
     rw [if_neg h2, if_pos h1, if_pos (by simp [h1])]
   · rw [if_neg h1]
     by_cases h2 : (u : Int) ∈ r
     · rw [if_pos h2, if_pos (List.mem_cons_of_mem _ h2)]
     · rw [if_neg h2, if_neg (by simp [h1, h2])]
theorem xI (p : Prog) : ∀ (who : List Int) (s : State), who.Nodup → (∀ x ∈ who, 0 ≤ x) → ∀ u : Nat, (onM p who s).status[u]? = if (u : Int) ∈ who then s.status[u]?.map (fun _ => nO p u (s.places.getD u 0 + 1)) else s.status[u]?
 | [], s, _, _, u => by simp [onM]
 | x :: r, s, hd, h0, u => by
   have hd' := List.nodup_cons.1 hd
   have ih := xI p r (goM p s x) hd'.2 (fun y hy => h0 y (List.mem_cons_of_mem _ hy)) u
   have e : onM p (x :: r) s = onM p r (goM p s x) := rfl
   rw [e, ih, eJ0 p s x u (h0 x (by simp))]
   by_cases h1 : (u : Int) = x
   · have h2 : ¬ (u : Int) ∈ r := fun h => hd'.1 (h1 ▸ h)
     rw [if_neg h2, if_pos h1, if_pos (by simp [h1])]
   · rw [if_neg h1]
     by_cases h2 : (u : Int) ∈ r
     · rw [if_pos h2, if_pos (List.mem_cons_of_mem _ h2)]
       have h3 : (goM p s x).places.getD u 0 = s.places.getD u 0 := by
         rw [List.getD_eq_getElem?_getD, List.getD_eq_getElem?_getD, xG p s x u (h0 x (by simp)), if_neg h1]
       rw [h3]
     · rw [if_neg h2, if_neg (by simp [h1, h2])]
theorem oI (p : Prog) : ∀ (who : List Int) (s : State), ∃ pl st, onM p who s = { s with places := pl, status := st } ∧ pl.length = s.places.length ∧ st.length = s.status.length
 | [], s => ⟨s.places, s.status, rfl, rfl, rfl⟩
 | x :: r, s => by
   obtain ⟨pl, st, h, h1, h2⟩ := oI p r (goM p s x)
   refine ⟨pl, st, ?_, ?_, ?_⟩
   · have e : onM p (x :: r) s = onM p r (goM p s x) := rfl
     rw [e, h]; rfl
   · rw [h1]; simp [goM]
   · rw [h2]; simp [goM]
def Swap {β : Type} (es es' fx fx' : List β) : Prop := ∃ A B, es = A ++ fx ++ B ∧ es' = A ++ fx' ++ B
theorem Swap.l {β : Type} {es es' fx fx' : List β} (h : Swap es es' fx fx') (Q : List β) : Swap (es ++ Q) (es' ++ Q) fx fx' := by
 obtain ⟨A, B, rfl, rfl⟩ := h
 exact ⟨A, B ++ Q, by simp, by simp⟩
theorem Swap.r {β : Type} {es es' fx fx' : List β} (h : Swap es es' fx fx') (Q : List β) : Swap (Q ++ es) (Q ++ es') fx fx' := by
 obtain ⟨A, B, rfl, rfl⟩ := h
 exact ⟨Q ++ A, B, by simp, by simp⟩
theorem oJ {α β : Type} (f : Nat → α → List β) {xs : List α} {i : Nat} {x : α} (h : xs[i]? = some x) (x' : α) : Swap (evL f 0 xs) (evL f 0 (xs.set i x')) (f i x) (f i x') := by
 have : ∀ (xs : List α) (j i : Nat), xs[i]? = some x → Swap (evL f j xs) (evL f j (xs.set i x')) (f (j + i) x) (f (j + i) x') := by
   intro xs
   induction xs with
   | nil => intro j i h; simp at h
   | cons y r ih =>
     intro j i h
     cases i with
     | zero =>
       simp at h; subst h
       exact ⟨[], evL f (j + 1) r, by simp [evL], by simp [evL]⟩
     | succ i =>
       have := (ih (j + 1) i z95).r (f j y)
       rw [show j + 1 + i = j + (i + 1) by omega] at this
       exact this
 have h2 := this xs 0 i h
 rwa [Nat.zero_add] at h2
theorem dL {β : Type} (a b : List (Int × β)) (t : Int) : aN (a ++ b) t = aN a t ++ aN b t := by simp [aN]
theorem Swap.same {β : Type} {es es' fx fx' : List (Int × β)} (h : Swap es es' fx fx') {u : Int} (e : aN fx' u = aN fx u) : aN es' u = aN es u := by
 obtain ⟨A, B, rfl, rfl⟩ := h
 simp only [dL, e]
theorem Swap.gone {β : Type} {es es' fx fx' : List (Int × β)} (h : Swap es es' fx fx') {u : Int} (h1 : aN fx u ≠ []) (h2 : aN fx' u = []) (h3 : (aN es u).length ≤ 1) : aN es' u = [] := by
 obtain ⟨A, B, rfl, rfl⟩ := h
 simp only [dL, List.length_append] at h3 ⊢
 have h4 : 0 < (aN fx u).length := List.length_pos_iff.2 h1
 have a0 : aN A u = [] := List.eq_nil_of_length_eq_zero (by omega)
 have b0 : aN B u = [] := List.eq_nil_of_length_eq_zero (by omega)
 rw [a0, b0, h2]; rfl
theorem Swap.none {β : Type} {es es' fx fx' : List (Int × β)} (h : Swap es es' fx fx') {u : Int} (h1 : aN es u = []) : aN fx u = [] := by
 obtain ⟨A, B, rfl, rfl⟩ := h
 simp only [dL, List.append_eq_nil_iff] at h1
 exact h1.1.2
theorem Swap.come {β : Type} {es es' fx fx' : List (Int × β)} (h : Swap es es' fx fx') {u : Int} (h1 : aN es u = []) : aN es' u = aN fx' u := by
 obtain ⟨A, B, rfl, rfl⟩ := h
 simp only [dL, List.append_eq_nil_iff] at h1 ⊢
 rw [h1.1.1, h1.2]; simp
theorem Swap.from {β : Type} {es es' fx fx' : List (Int × β)} (h : Swap es es' fx fx') {t : Int} (hk : ∀ u, u ≠ t → aN fx u = [] → aN fx' u = []) : ∀ e ∈ es', e.1 = t ∨ ∃ e2 ∈ es, e2.1 = e.1 := by
 intro e he
 by_cases ht : e.1 = t
 · exact .inl ht
 refine .inr (Classical.byContradiction fun hn => ?_)
 have h0 : aN es e.1 = [] := oH.2 fun e2 h2 h3 => hn ⟨e2, h2, h3⟩
 have h1 := h.come h0
 rw [hk e.1 ht (h.none h0)] at h1
 exact oH.1 h1 e he rfl
theorem Swap.refl {β : Type} (es : List β) : Swap es es [] [] := ⟨es, [], by simp, by simp⟩
theorem kX {s : State} {i : Nat} {x : Sem} (h : s.sems[i]? = some x) (x' : Sem) : Swap (bH s) (bH { s with sems := s.sems.set i x' }) (dH i x) (dH i x') := ((((oJ dH h x').l _).l _).l _).l _
theorem pA {s : State} {i : Nat} {x : Once} (h : s.onces[i]? = some x) (x' : Once) : Swap (bH s) (bH { s with onces := s.onces.set i x' }) (cR i x) (cR i x') := ((((oJ cR h x').r _).l _).l _).l _
theorem iN {s : State} {i : Nat} {x : Group} (h : s.groups[i]? = some x) (x' : Group) : Swap (bH s) (bH { s with groups := s.groups.set i x' }) (cT i x) (cT i x') := (((oJ cT h x').r _).l _).l _
theorem lF {s : State} {i : Nat} {x : Barrier} (h : s.barriers[i]? = some x) (x' : Barrier) : Swap (bH s) (bH { s with barriers := s.barriers.set i x' }) (cK i x) (cK i x') := ((oJ cK h x').r _).l _
theorem fA {s : State} {i : Nat} {x : Chan} (h : s.chans[i]? = some x) (x' : Chan) : Swap (bH s) (bH { s with chans := s.chans.set i x' }) (dC i x) (dC i x') := (oJ dC h x').r _
theorem kI0 {s : State} {i : Nat} {x : Once} (h : s.onces[i]? = some x) (x' : Once) : Swap (cJ s) (cJ { s with onces := s.onces.set i x' }) (iC i x) (iC i x') := oJ iC h x'
theorem SharedOk.of {p : Prog} {s s' : State} (h : SharedOk p s) (e1 : s'.sems = s.sems) (e2 : s'.onces = s.onces) (e3 : s'.groups = s.groups) (e4 : s'.barriers = s.barriers) (e5 : s'.chans = s.chans) : SharedOk p s' := by
 obtain ⟨a, b, c, d, e, f, g, i, j, k⟩ := h
 exact ⟨by rw [e1]; exact a, by rw [e3]; exact b, by rw [e4]; exact c, by rw [e5]; exact d, by rw [e2]; exact e, by rw [e1]; exact f, by rw [e3]; exact g, by rw [e4]; exact i, by rw [e5]; exact j, by rw [e2]; exact k⟩
theorem aU0 {α : Type} {P : Nat → α → Prop} {xs : List α} (h : ∀ (i : Nat) x, xs[i]? = some x → P i x) {i : Nat} {x' : α} (h1 : P i x') : ∀ (j : Nat) x, (xs.set i x')[j]? = some x → P j x := by
 intro j x hx
 rw [List.getElem?_set] at hx
 split at hx
 · rename_i e
   subst e
   split at hx
   · injection hx with hx; subst hx; exact h1
   · cases hx
 · exact h j x hx
theorem gI0 {α : Type} {P : α → Prop} {xs : List α} (h : ∀ x ∈ xs, P x) {i : Nat} {x' : α} (h1 : P x') : ∀ x ∈ xs.set i x', P x := fun x hx => by
 rcases List.mem_or_eq_of_mem_set hx with hx | rfl
 · exact h x hx
 · exact h1
theorem SharedOk.setSem {p : Prog} {s : State} (h : SharedOk p s) {i : Nat} {x x' : Sem} (hx : s.sems[i]? = some x) (ok : SemOk x') (e : x'.limit = x.limit) : SharedOk p { s with sems := s.sems.set i x' } :=
 { h with lsems := by simpa using h.lsems, sems := aU0 h.sems ⟨ok, by rw [e]; exact (h.sems i x hx).2⟩ }
theorem SharedOk.setOnce {p : Prog} {s : State} (h : SharedOk p s) {i : Nat} {x' : Once} (ok : eI x') : SharedOk p { s with onces := s.onces.set i x' } :=
 { h with lonces := by simpa using h.lonces, onces := gI0 h.onces ok }
theorem SharedOk.setGroup {p : Prog} {s : State} (h : SharedOk p s) {i : Nat} {x' : Group} (ok : fD x') : SharedOk p { s with groups := s.groups.set i x' } :=
 { h with lgroups := by simpa using h.lgroups, groups := gI0 h.groups ok }
theorem SharedOk.setBarrier {p : Prog} {s : State} (h : SharedOk p s) {i : Nat} {x x' : Barrier} (hx : s.barriers[i]? = some x) (ok : dP x') (e : x'.parties = x.parties) : SharedOk p { s with barriers := s.barriers.set i x' } :=
 { h with lbarriers := by simpa using h.lbarriers, barriers := aU0 h.barriers ⟨ok, by rw [e]; exact (h.barriers i x hx).2⟩ }
theorem SharedOk.setChan {p : Prog} {s : State} (h : SharedOk p s) {i : Nat} {x x' : Chan} (hx : s.chans[i]? = some x) (ok : x'.valid = true) (e : x'.room = x.room) : SharedOk p { s with chans := s.chans.set i x' } :=
 { h with lchans := by simpa using h.lchans, chans := aU0 h.chans ⟨ok, by rw [e]; exact (h.chans i x hx).2⟩ }
def Th (p : Prog) (s s' : State) (ops : List Op) (u : Nat) (a st a' st' : Int) : Prop :=
 (a' = a ∧ st' = st ∧ aN (bH s') u = aN (bH s) u ∧ aN (cJ s') u = aN (cJ s) u) ∨
 (a' = a + 1 ∧ st' = nO p u (a + 1) ∧ a < ops.length ∧ aN (bH s') u = [] ∧ aN (cJ s') u = []) ∨
 ∃ op, ops[a.toNat]? = some op ∧ a' = a ∧ ((st' = 1 ∧ aN (bH s') u = [kE op] ∧ aN (cJ s') u = []) ∨ (st' = 2 ∧ aN (bH s') u = [] ∧ op.kind = 4 ∧ aN (cJ s') u = [op.on]))
theorem Th.ok {p : Prog} {s s' : State} {ops : List Op} {u : Nat} {a st a' st' : Int} (h : Th p s s' ops u a st a' st') (hp : p.threads[u]? = some ops) (h0 : lO ops a st (aN (bH s) u) (aN (cJ s) u)) : lO ops a' st' (aN (bH s') u) (aN (cJ s') u) := by
 rcases h with ⟨rfl, rfl, e1, e2⟩ | ⟨rfl, rfl, hl, e1, e2⟩ | ⟨op, ho, rfl, h⟩
 · rw [e1, e2]; exact h0
 · obtain ⟨a0, a1, _⟩ := h0
   have hg : p.threads.getD u [] = ops := by rw [List.getD_eq_getElem?_getD, hp]; rfl
   rw [e1, e2]
   refine ⟨by omega, by omega, ?_⟩
   by_cases e : a + 1 = (ops.length : Int)
   · exact .inl ⟨e, by rw [nO, hg, if_pos e], rfl, rfl⟩
   · refine .inr ⟨ops[(a + 1).toNat]'(by omega), List.getElem?_eq_getElem _, .inl ⟨by rw [nO, hg, if_neg e], rfl, rfl⟩⟩
 · obtain ⟨a0, a1, _⟩ := h0
   refine ⟨a0, a1, .inr ⟨op, ho, ?_⟩⟩
   rcases h with ⟨rfl, e1, e2⟩ | ⟨rfl, e1, e2, e3⟩
   · exact .inr (.inl ⟨rfl, e2, e1⟩)
   · exact .inr (.inr ⟨rfl, e1, e2, e3⟩)
theorem Fits.len1 {p : Prog} {s : State} (ft : Fits p s) (u : Nat) (hu : u < p.threads.length) : (aN (bH s) u).length ≤ 1 := by
 obtain ⟨a0, a1, h⟩ := ft.threads u _ _ _ (List.getElem?_eq_getElem hu) (List.getElem?_eq_getElem (by rw [ft.np]; exact hu)) (List.getElem?_eq_getElem (by rw [ft.ns]; exact hu))
 rcases h with ⟨_, _, e, _⟩ | ⟨op, _, ⟨_, e, _⟩ | ⟨_, _, e⟩ | ⟨_, e, _⟩⟩ <;> rw [e] <;> simp
theorem Fits.isIn {p : Prog} {s : State} (ft : Fits p s) {u : Int} (h : aN (bH s) u ≠ []) : 0 ≤ u ∧ u < p.threads.length := by
 match hc : aN (bH s) u with
 | [] => exact (h hc).elim
 | x :: r =>
   have hm : x ∈ aN (bH s) u := by rw [hc]; simp
   exact ft.ev _ (jZ.1 hm)
theorem Fits.waiting {p : Prog} {s : State} (ft : Fits p s) {u : Nat} {ops : List Op} {a st : Int} (h1 : p.threads[u]? = some ops) (h2 : s.places[u]? = some a) (h3 : s.status[u]? = some st) (h : aN (bH s) u ≠ []) : a < ops.length ∧ aN (cJ s) u = [] ∧ st = 1 := by
 obtain ⟨a0, a1, h4⟩ := ft.threads u ops a st h1 h2 h3
 rcases h4 with ⟨_, _, e, _⟩ | ⟨op, h5, ⟨_, e, _⟩ | ⟨e1, e2, _⟩ | ⟨_, e, _⟩⟩
 · exact (h e).elim
 · exact (h e).elim
 · have := (List.getElem?_eq_some_iff.1 h5).1
   exact ⟨by omega, e2, e1⟩
 · exact (h e).elim
theorem Fits.move {p : Prog} {s s' : State} (ft : Fits p s) {t : Nat} {who : List Int} {fx fx' : List (Int × Waiting)} (sh : SharedOk p s')
   (lp : s'.places.length = s.places.length) (ls : s'.status.length = s.status.length)
   (lsaid : s'.said.length ≤ 64) (said : ∀ v ∈ s'.said, aV v = true) (f0 : 0 ≤ s'.fault) (f4 : s'.fault ≤ 4)
   (sw : Swap (bH s) (bH s') fx fx') (ow : ∀ u : Int, u ≠ t → aN (cJ s') u = aN (cJ s) u)
   (hw : ∀ u ∈ who, u ≠ t → aN fx u ≠ [] ∧ aN fx' u = []) (ho : ∀ u, u ∉ who → u ≠ t → aN fx' u = aN fx u)
   (pl : ∀ u : Nat, u ≠ t → s'.places[u]? = if (u : Int) ∈ who then s.places[u]?.map (· + 1) else s.places[u]?)
   (st : ∀ u : Nat, u ≠ t → s'.status[u]? = if (u : Int) ∈ who then s.status[u]?.map (fun _ => nO p u (s.places.getD u 0 + 1)) else s.status[u]?)
   (ht : ∀ ops a st, p.threads[t]? = some ops → s.places[t]? = some a → s.status[t]? = some st → ∃ a' st', s'.places[t]? = some a' ∧ s'.status[t]? = some st' ∧ Th p s s' ops t a st a' st') (tn : t < p.threads.length) : Fits p s' := by
 have key : ∀ u : Int, u ≠ t → aN fx u = [] → aN fx' u = [] := fun u hu h0 => by
   by_cases hm : u ∈ who
   · exact (hw u hm hu).2
   · rw [ho u hm hu, h0]
 have hev : ∀ e ∈ bH s', 0 ≤ e.1 ∧ e.1 < (p.threads.length : Int) := fun e he => by
   rcases sw.from key e he with h | ⟨e2, h2, h3⟩
   · rw [h]; omega
   · rw [← h3]; exact ft.ev _ h2
 have how : ∀ e ∈ cJ s', 0 ≤ e.1 ∧ e.1 < (p.threads.length : Int) := fun e he => by
   by_cases hu : e.1 = t
   · rw [hu]; omega
   · have hm : e.2 ∈ aN (cJ s') e.1 := jZ.2 he
     rw [ow e.1 hu] at hm
     exact ft.ow _ (jZ.1 hm)
 refine ⟨ft.prog, by rw [lp, ft.np], by rw [ls, ft.ns], sh.lsems, sh.lgroups, sh.lbarriers, sh.lchans, sh.lonces, lsaid, f0, f4, sh.sems, sh.groups, sh.barriers, sh.chans, sh.onces, said, fun u ops a' st' h1 h2 h3 => ?_, hev, how⟩
 have hu : u < p.threads.length := (List.getElem?_eq_some_iff.1 h1).1
 have hup : u < s.places.length := by rw [ft.np]; exact hu
 have hus : u < s.status.length := by rw [ft.ns]; exact hu
 have g2 : s.places[u]? = some s.places[u] := List.getElem?_eq_getElem hup
 have g3 : s.status[u]? = some s.status[u] := List.getElem?_eq_getElem hus
 have h0 := ft.threads u ops _ _ h1 g2 g3
 by_cases e : u = t
 · subst e
   obtain ⟨a2, st2, k1, k2, k3⟩ := ht ops _ _ h1 g2 g3
   rw [h2] at k1; rw [h3] at k2
   injection k1 with k1; injection k2 with k2
   subst k1; subst k2
   exact k3.ok h1 h0
 · have e' : (u : Int) ≠ t := by omega
   have p1 := pl u e
   have p2 := st u e
   rw [h2, g2] at p1
   rw [h3, g3] at p2
   by_cases hm : (u : Int) ∈ who
   · rw [if_pos hm] at p1 p2
     simp only [Option.map_some, Option.some.injEq] at p1 p2
     obtain ⟨w1, w2⟩ := hw u hm e'
     have hne : aN (bH s) u ≠ [] := fun h => w1 (sw.none h)
     obtain ⟨q1, q2, q3⟩ := ft.waiting h1 g2 g3 hne
     refine Th.ok (s := s) (a := s.places[u]) (st := s.status[u]) (.inr (.inl ⟨p1, ?_, q1, sw.gone w1 w2 (ft.len1 u hu), by rw [ow u e', q2]⟩)) h1 h0
     rw [p2, List.getD_eq_getElem?_getD, g2]; rfl
   · rw [if_neg hm] at p1 p2
     injection p1 with p1; injection p2 with p2
     exact Th.ok (s := s) (a := s.places[u]) (st := s.status[u]) (.inl ⟨p1, p2, sw.same (ho u hm e'), ow u e'⟩) h1 h0
def Sem.acquire (m : Sem) (t n : Int) : Sem × Bool :=
 if m.queue = [] ∧ n ≤ m.free then ({ m with free := m.free - n }, true) else ({ m with queue := m.queue ++ [⟨t, n⟩] }, false)
def dY : Int → List Waiter → Int × List Int × List Waiter
 | f, [] => (f, [], [])
 | f, w :: r => if w.n ≤ f then ((dY (f - w.n) r).1, w.t :: (dY (f - w.n) r).2.1, (dY (f - w.n) r).2.2) else (f, [], w :: r)
def Sem.release (m : Sem) (n : Int) : Option (Sem × List Int) :=
 if n ≤ m.limit - m.free then some (⟨(dY (m.free + n) m.queue).1, m.limit, (dY (m.free + n) m.queue).2.2⟩, (dY (m.free + n) m.queue).2.1) else none
def Once.enter (m : Once) (t : Int) : Once × Int :=
 if m.state = 0 then (⟨1, t, 0, []⟩, 0) else if m.state = 1 then ({ m with waits := m.waits ++ [t] }, 1) else (m, 2)
def Once.finish (m : Once) (t v : Int) : Once × List Int := (⟨2, t, v, []⟩, m.waits)
def Group.add (m : Group) (n : Int) : Option (Group × List Int) :=
 if aV (m.count + n) = true then (if m.count + n = 0 then some (⟨0, []⟩, m.waits) else some (⟨m.count + n, m.waits⟩, [])) else none
def Group.wait (m : Group) (t : Int) : Group × Bool := if m.count = 0 then (⟨0, []⟩, true) else (⟨m.count, m.waits ++ [t]⟩, false)
def Barrier.arrive (m : Barrier) (t : Int) : Option (Barrier × List Int) :=
 if (m.waits.length : Int) + 1 < m.parties then some (⟨m.parties, m.round, m.waits ++ [t]⟩, [])
 else if m.round = 9999 then none else some (⟨m.parties, m.round + 1, []⟩, m.waits ++ [t])
def hK0 (p : Prog) (s : State) (t : Int) : Op := (p.threads.getD t.toNat []).getD (s.places.getD t.toNat 0).toNat Op0
def zG (s : State) (o : Op) : Sem := s.sems.getD o.on.toNat ⟨0, 0, []⟩
def pB (s : State) (o : Op) : Once := s.onces.getD o.on.toNat ⟨0, 0, 0, []⟩
def qX (s : State) (o : Op) : Group := s.groups.getD o.on.toNat ⟨0, []⟩
def iX (s : State) (o : Op) : Barrier := s.barriers.getD o.on.toNat ⟨0, 0, []⟩
def gV (s : State) (o : Op) : Chan := s.chans.getD o.on.toNat .zero
def setSem (s : State) (o : Op) (x : Sem) : State := { s with sems := s.sems.set o.on.toNat x }
def setOnce (s : State) (o : Op) (x : Once) : State := { s with onces := s.onces.set o.on.toNat x }
def setGroup (s : State) (o : Op) (x : Group) : State := { s with groups := s.groups.set o.on.toNat x }
def setBarrier (s : State) (o : Op) (x : Barrier) : State := { s with barriers := s.barriers.set o.on.toNat x }
def setChan (s : State) (o : Op) (x : Chan) : State := { s with chans := s.chans.set o.on.toNat x }
def kF (s : State) (v : Int) : State := { s with said := s.said ++ [v] }
def gK (s : State) (f : Int) : State := { s with fault := f }
def kA (p : Prog) (s : State) (t : Int) (o : Op) : State :=
 if ((zG s o).acquire t o.arg).2 = true then onM p [t] (setSem s o ((zG s o).acquire t o.arg).1) else bE (setSem s o ((zG s o).acquire t o.arg).1) t 1
def iY (p : Prog) (s : State) (t : Int) (o : Op) : State :=
 match (zG s o).release o.arg with
 | none => gK s 1
 | some r => onM p (r.2 ++ [t]) (setSem s o r.1)
def kY (p : Prog) (s : State) (t : Int) (o : Op) : State :=
 if s.status.getD t.toNat 0 = 2 then onM p (((pB s o).finish t o.arg).2 ++ [t]) (setOnce s o ((pB s o).finish t o.arg).1)
 else if ((pB s o).enter t).2 = 0 then bE (setOnce s o ((pB s o).enter t).1) t 2
 else if ((pB s o).enter t).2 = 1 then bE (setOnce s o ((pB s o).enter t).1) t 1
 else onM p [t] (setOnce s o ((pB s o).enter t).1)
def tJ (p : Prog) (s : State) (t : Int) (o : Op) : State :=
 match (qX s o).add o.arg with
 | none => gK s 2
 | some r => onM p (r.2 ++ [t]) (setGroup s o r.1)
def qD (p : Prog) (s : State) (t : Int) (o : Op) : State :=
 if ((qX s o).wait t).2 = true then onM p [t] (setGroup s o ((qX s o).wait t).1) else bE (setGroup s o ((qX s o).wait t).1) t 1
def hJ (p : Prog) (s : State) (t : Int) (o : Op) : State :=
 match (iX s o).arrive t with
 | none => bE (setBarrier s o ⟨0, 0, []⟩) t 1
 | some r => if r.2 = [] then bE (setBarrier s o r.1) t 1 else onM p r.2 (setBarrier s o r.1)
def lX (p : Prog) (s : State) (t : Int) (o : Op) : State :=
 if ((gV s o).send t o.arg).2.2.2 = true then
   if ((gV s o).send t o.arg).2.2.1 = true then
     onM p (((gV s o).send t o.arg).2.1 ++ [t]) (if ((gV s o).send t o.arg).2.1 = [] then setChan s o ((gV s o).send t o.arg).1 else kF (setChan s o ((gV s o).send t o.arg).1) o.arg)
   else bE (setChan s o ((gV s o).send t o.arg).1) t 1
 else gK s 3
def rN (p : Prog) (s : State) (t : Int) (o : Op) : State :=
 if ((gV s o).get t).2.2.1 = 0 then bE (setChan s o ((gV s o).get t).1) t 1
 else onM p (((gV s o).get t).2.2.2.1 ++ [t]) (if ((gV s o).get t).2.2.1 = 1 then kF (setChan s o ((gV s o).get t).1) ((gV s o).get t).2.1 else setChan s o ((gV s o).get t).1)
def mF (p : Prog) (s : State) (t : Int) (o : Op) : State :=
 if (gV s o).close.2.2 = true then onM p ((gV s o).close.2.1 ++ [t]) (setChan s o (gV s o).close.1) else gK s 4
def dD (p : Prog) (s : State) (t : Int) (o : Op) : State :=
 if o.kind = 1 then onM p [t] (kF s o.arg)
 else if o.kind = 2 then kA p s t o
 else if o.kind = 3 then iY p s t o
 else if o.kind = 4 then kY p s t o
 else if o.kind = 5 then tJ p s t o
 else if o.kind = 6 then qD p s t o
 else if o.kind = 7 then hJ p s t o
 else if o.kind = 8 then lX p s t o
 else if o.kind = 9 then rN p s t o
 else mF p s t o
def doM (p : Prog) (s : State) (t : Int) : State := dD p s t (hK0 p s t)
def sD (p : Prog) (s : State) (t : Int) : Prop := (hK0 p s t).kind = 7 ∧ (iX s (hK0 p s t)).arrive t = none
structure Rdy (p : Prog) (s : State) (k : Nat) (ops : List Op) (a st : Int) (op : Op) : Prop where
 ft : Fits p s
 f : s.fault = 0
 kn : k < p.threads.length
 h1 : p.threads[k]? = some ops
 h2 : s.places[k]? = some a
 h3 : s.status[k]? = some st
 a0 : 0 ≤ a
 ho : ops[a.toNat]? = some op
 ev : aN (bH s) k = []
 ow : (st = 0 ∧ aN (cJ s) k = []) ∨ (st = 2 ∧ op.kind = 4 ∧ aN (cJ s) k = [op.on])
 ok : OpOk p op
 at_ : hK0 p s k = op
theorem xJ {s : State} {t : Int} (h : t ∈ cG s) : s.fault = 0 ∧ ∃ (k : Nat) (st : Int), t = k ∧ s.status[k]? = some st ∧ (st = 0 ∨ st = 2) := by
 rw [cG] at h
 split at h
 · rename_i hf
   obtain ⟨k, st, h1, h2⟩ := xE.1 h
   rw [gC] at h2
   split at h2
   · rename_i h3
     exact ⟨hf, k, st, by simpa using h2, h1, h3⟩
   · cases h2
 · cases h
theorem rdy {p : Prog} {s : State} (ft : Fits p s) {t : Int} (h : t ∈ cG s) : ∃ (k : Nat) (ops : List Op) (a st : Int) (op : Op), t = k ∧ Rdy p s k ops a st op := by
 obtain ⟨hf, k, st, rfl, h3, h4⟩ := xJ h
 have hs : k < s.status.length := (List.getElem?_eq_some_iff.1 h3).1
 have hk : k < p.threads.length := by rw [← ft.ns]; exact hs
 have hp : k < s.places.length := by rw [ft.np]; exact hk
 have h1 : p.threads[k]? = some p.threads[k] := List.getElem?_eq_getElem hk
 have h2 : s.places[k]? = some s.places[k] := List.getElem?_eq_getElem hp
 obtain ⟨a0, a1, h5⟩ := ft.threads k _ _ _ h1 h2 h3
 rcases h5 with ⟨_, e, _⟩ | ⟨op, ho, h5⟩
 · omega
 · have hok : OpOk p op := (ft.prog.ops _ (List.mem_of_getElem? h1)).2 _ (List.mem_of_getElem? ho)
   have hat : hK0 p s (k : Int) = op := by
     simp only [hK0, Int.toNat_natCast, List.getD_eq_getElem?_getD, h1, h2, Option.getD_some, ho]
   refine ⟨k, p.threads[k], s.places[k], st, op, rfl, ft, hf, hk, h1, h2, h3, a0, ho, ?_, ?_, hok, hat⟩
   · rcases h5 with ⟨_, e, _⟩ | ⟨e, _, _⟩ | ⟨_, e, _⟩
     · exact e
     · omega
     · exact e
   · rcases h5 with ⟨e1, _, e⟩ | ⟨e, _, _⟩ | ⟨e1, _, e2, e3⟩
     · exact .inl ⟨e1, e⟩
     · omega
     · exact .inr ⟨e1, e2, e3⟩
theorem Rdy.own0 {p : Prog} {s : State} {k : Nat} {ops : List Op} {a st : Int} {op : Op} (r : Rdy p s k ops a st op) (h : op.kind ≠ 4) : aN (cJ s) k = [] := by
 rcases r.ow with ⟨_, e⟩ | ⟨_, e, _⟩
 · exact e
 · exact (h e).elim
theorem Rdy.thr {p : Prog} {s : State} {k : Nat} {ops : List Op} {a st : Int} {op : Op} (r : Rdy p s k ops a st op) : aZ (k : Int) = true := by
 have := r.ft.prog.n4
 have := r.kn
 simp [aZ]; omega
theorem Rdy.alt {p : Prog} {s : State} {k : Nat} {ops : List Op} {a st : Int} {op : Op} (r : Rdy p s k ops a st op) : a < ops.length := by
 have h := (List.getElem?_eq_some_iff.1 r.ho).1
 have := r.a0
 omega
theorem Rdy.onFits {p : Prog} {s : State} {k : Nat} {ops : List Op} {a st : Int} {op : Op} (r : Rdy p s k ops a st op) {s1 : State} {who : List Int} {fx fx' : List (Int × Waiting)} (sh : SharedOk p s1)
   (e1 : s1.places = s.places) (e2 : s1.status = s.status) (e3 : s1.fault = s.fault) (lsaid : s1.said.length ≤ 64) (said : ∀ v ∈ s1.said, aV v = true)
   (sw : Swap (bH s) (bH s1) fx fx') (ow : ∀ u : Int, u ≠ k → aN (cJ s1) u = aN (cJ s) u) (owk : aN (cJ s1) k = [])
   (hd : who.Nodup) (hw : ∀ u ∈ who, aN fx u ≠ [] ∧ aN fx' u = []) (ho : ∀ u, u ∉ who → u ≠ k → aN fx' u = aN fx u) (hk : aN fx' k = []) : Fits p (onM p (who ++ [(k : Int)]) s1) := by
 have hkw : (k : Int) ∉ who := fun hm => (hw _ hm).1 (sw.none r.ev)
 have hd2 : (who ++ [(k : Int)]).Nodup := by
   rw [List.nodup_append]
   exact ⟨hd, by simp, fun x hx y hy => by simp at hy; subst hy; rintro rfl; exact hkw hx⟩
 have hpos : ∀ x ∈ who ++ [(k : Int)], 0 ≤ x := fun x hx => by
   rcases List.mem_append.1 hx with hx | hx
   · exact (r.ft.isIn fun h0 => (hw x hx).1 (sw.none h0)).1
   · simp at hx; omega
 have P := xH p (who ++ [(k : Int)]) s1 hd2 hpos
 have S := xI p (who ++ [(k : Int)]) s1 hd2 hpos
 obtain ⟨pl, st', hE, l1, l2⟩ := oI p (who ++ [(k : Int)]) s1
 rw [hE] at P S ⊢
 have hmem : ∀ u : Nat, u ≠ k → (((u : Int) ∈ who ++ [(k : Int)]) ↔ (u : Int) ∈ who) := fun u hu => by
   have : ¬ (u : Int) = k := by omega
   simp [this]
 refine r.ft.move (t := k) (who := who) (fx := fx) (fx' := fx') (sh.of rfl rfl rfl rfl rfl) (by rw [← e1]; exact l1) (by rw [← e2]; exact l2) lsaid said (by show 0 ≤ s1.fault; rw [e3]; exact r.ft.f0) (by show s1.fault ≤ 4; rw [e3]; exact r.ft.f4) sw ow (fun u hu _ => hw u hu) ho ?_ ?_ ?_ r.kn
 · intro u hu
   have := P u
   simp only [hmem u hu, e1] at this
   exact this
 · intro u hu
   have := S u
   simp only [hmem u hu, e1, e2] at this
   exact this
 · intro ops' a' st2 h1 h2 h3
   rw [r.h1] at h1; rw [r.h2] at h2; rw [r.h3] at h3
   injection h1 with h1; injection h2 with h2; injection h3 with h3
   subst h1; subst h2; subst h3
   have P' := P k
   have S' := S k
   rw [if_pos (by simp), e1, r.h2] at P'
   rw [if_pos (by simp), e2, e1, r.h3, List.getD_eq_getElem?_getD, r.h2] at S'
   exact ⟨_, _, P', S', .inr (.inl ⟨rfl, rfl, r.alt, (sw.come r.ev).trans hk, owk⟩)⟩
theorem Rdy.waitFits {p : Prog} {s : State} {k : Nat} {ops : List Op} {a st : Int} {op : Op} (r : Rdy p s k ops a st op) {s1 : State} {fx fx' : List (Int × Waiting)} {b : Int} (sh : SharedOk p s1)
   (e1 : s1.places = s.places) (e2 : s1.status = s.status) (e3 : s1.fault = s.fault) (e4 : s1.said = s.said)
   (sw : Swap (bH s) (bH s1) fx fx') (ow : ∀ u : Int, u ≠ k → aN (cJ s1) u = aN (cJ s) u)
   (ho : ∀ u : Int, u ≠ k → aN fx' u = aN fx u) (hk : (b = 1 ∧ aN fx' k = [kE op] ∧ aN (cJ s1) k = []) ∨ (b = 2 ∧ aN fx' k = [] ∧ op.kind = 4 ∧ aN (cJ s1) k = [op.on])) : Fits p (bE s1 k b) := by
 have hlen : k < s1.status.length := by rw [e2]; exact (List.getElem?_eq_some_iff.1 r.h3).1
 refine r.ft.move (t := k) (who := []) (fx := fx) (fx' := fx') (sh.of rfl rfl rfl rfl rfl) (by show s1.places.length = _; rw [e1]) (by simp [bE, e2]) (by show s1.said.length ≤ 64; rw [e4]; exact r.ft.lsaid) (by show ∀ v ∈ s1.said, _; rw [e4]; exact r.ft.said) (by show 0 ≤ s1.fault; rw [e3]; exact r.ft.f0) (by show s1.fault ≤ 4; rw [e3]; exact r.ft.f4) sw ow (fun u hu _ => by simp at hu) (fun u _ hu => ho u hu) ?_ ?_ ?_ r.kn
 · intro u hu
   simp [bE, e1]
 · intro u hu
   have : ¬ k = u := fun h => hu h.symm
   simp [bE, e2, this]
 · intro ops' a' st2 h1 h2 h3
   rw [r.h1] at h1; rw [r.h2] at h2
   injection h1 with h1; injection h2 with h2
   subst h1; subst h2
   refine ⟨a, b, by show s1.places[k]? = _; rw [e1, r.h2], by simp [bE, hlen], .inr (.inr ⟨op, r.ho, rfl, ?_⟩)⟩
   have hc := sw.come r.ev
   rcases hk with ⟨rfl, k1, k2⟩ | ⟨rfl, k1, k2, k3⟩
   · exact .inl ⟨rfl, hc.trans k1, k2⟩
   · exact .inr ⟨rfl, hc.trans k1, k2, k3⟩
theorem Fits.fault {p : Prog} {s : State} (ft : Fits p s) {f : Int} (h0 : 0 ≤ f) (h4 : f ≤ 4) : Fits p (gK s f) :=
 ⟨ft.prog, ft.np, ft.ns, ft.lsems, ft.lgroups, ft.lbarriers, ft.lchans, ft.lonces, ft.lsaid, h0, h4, ft.sems, ft.groups, ft.barriers, ft.chans, ft.onces, ft.said, ft.threads, ft.ev, ft.ow⟩
theorem mZ (m : Sem) (q : Sl) (w : World) (h : At w [slo q bV 2 m.queue]) (hb : m.queue.length ≤ 1048576) :
   Calls Tryz.prog 126 #[oC m q] w (Ret w fun v L => ∃ y : Sl, v = oC m y ∧ L = [own y 184 bV 2 m.queue]) := by
 refine bZ Tryz.func126 rfl aA w _ rfl _ rfl _ h ⟨rfl, rfl, trivial⟩ _ (by decide) ?_
 refine oA cH aA rfl rfl rfl rfl rfl rfl rfl rfl rfl (by decide) ⟨rfl, rfl⟩ z35 z43 z43 (fun y => ?_)
 exact bG [0] ⟨y, rfl, rfl⟩ z144 rfl ⟨rfl, trivial⟩ (fun _ => rfl)
theorem oY0 (x : Waiter) (t : Int) (ga : Nat) (w : World) (h : At w [tE ga t]) :
   Calls Tryz.prog 168 #[.agg (bV x).toArray, .pointer (some ⟨ga, 0, none⟩)] w (Ret w fun v L => v = .bool (x.t == t) ∧ L = []) := by
 refine cB Tryz.func168 rfl aA w _ rfl _ rfl _ h ⟨rfl, rfl, trivial⟩ _ _ (by decide) ?_
 refine mU 0 aA rfl rfl rfl rfl rfl ⟨rfl, rfl⟩ ?_
 exact aH ⟨rfl, rfl⟩ (fun _ => rfl)
theorem kJ0 (i : Sl) (xs : List Waiter) (t : Int) (ga : Nat) (w : World) (h : At w [slo i bV 2 xs, tE ga t]) (hb : xs.length ≤ 1048576) :
   Calls Tryz.prog 167 #[i.val xs.length, .func (.func 168) #[] #[.pointer (some ⟨ga, 0, none⟩)]] w (Ret w fun v L => v = .int .i64 (atM (xs.map (·.t)) t) ∧ L = []) := by
 refine cB Tryz.func167 rfl aA w _ rfl _ rfl _ h ⟨rfl, rfl, rfl, rfl, trivial⟩ _ _ (by decide) ?_
 have hlen : (xs.map (·.t)).length = xs.length := by simp
 refine LoopW.mk ⟨{ k : Nat // k ≤ xs.length ∧ t ∉ (xs.map (·.t)).take k },
   fun p => .mk [(0, .v (i.val xs.length)), (1, .v (.func (.func 168) #[] #[.pointer (some ⟨ga, 0, none⟩)])), (7, .v (.int .i64 xs.length)), (8, .v (.int .i64 p.1))] 0 0 [] [] [slo i bV 2 xs, tE ga t],
   fun p => xs.length - p.1, ⟨0, Nat.zero_le _, by simp⟩, ?_, ?_⟩
 · exact aC [0, 1] zw2 zw0 zw2 zw5 zw4 rfl rfl
 · rintro ⟨k, hk, he⟩
   refine CaseB.mk (fun h => ?_) (fun h => ?_)
   · have hlt : k < xs.length := by simpa using h
     have hlt2 : k < (xs.map (·.t)).length := by rw [hlen]; exact hlt
     refine aG cH aA rfl rfl rfl rfl rfl ⟨rfl, rfl⟩ z35 k rfl z43 (fun ad => ?_)
     refine iJ _ cl168 rfl rfl rfl rfl ⟨rfl, rfl⟩ (fun A w hW => (oY0 _ t ga w ⟨hW.varAt 1 rfl, trivial⟩)) ?_
     rintro v L ⟨rfl, rfl⟩
     refine CaseB.mk (fun h => ?_) (fun h => ?_)
     · have heq : (xs.map (·.t))[k] = t := by simpa using h
       exact aH ⟨congrArg (Value.int .i64) (aL0 hlt2 he heq).symm, rfl⟩ (fun _ => rfl)
     · have hne : (xs.map (·.t))[k] ≠ t := by simpa using h
       have hw := lK k _ hlt (by omega)
       refine ⟨⟨k + 1, by omega, iB hlt2 he hne⟩, ?_, by simp; omega⟩
       exact aC [0, 1] zw1 zw0 zw1 zw5 zw3 rfl rfl
   · have hge : xs.length ≤ k := by simpa using h
     rw [List.take_of_length_le (by omega)] at he
     exact aH ⟨congrArg (Value.int .i64) (sV he).symm, rfl⟩ (fun _ => rfl)
theorem hM0 (m : Sem) (q : Sl) (t : Int) (w : World) (h : At w [slo q bV 2 m.queue]) (hb : m.queue.length ≤ 1048576) :
   Calls Tryz.prog 130 #[oC m q, .int .i64 t] w (Ret w fun v L => ∃ a : Int, v = .int .i64 a ∧ a = atM (m.queue.map (·.t)) t ∧ L = []) := by
 refine cB Tryz.func130 rfl aA w _ rfl _ rfl _ h ⟨rfl, rfl, trivial⟩ _ _ (by decide) ?_
 refine aB _ cl167 rfl rfl rfl rfl ⟨rfl, rfl⟩ (fun A w hW => kJ0 q m.queue t (A 1) w ⟨hW.get 0 rfl (.refl _), hW.var rfl rfl, trivial⟩ hb) ?_
 rintro v L ⟨rfl, rfl⟩
 exact aH ⟨_, rfl, rfl, rfl⟩ (fun _ => rfl)
def AcqR (p : Sem × Bool) (v : Value) (L : List Fct) : Prop := ∃ y : Sl, v = .tuple #[oC p.1 y, .bool p.2, .bool true] ∧ L = [own y 184 bV 2 p.1.queue]
theorem oK {a b : Int} (h0 : 0 ≤ a - b) (h1 : a - b ≤ 1000) : IntKind.i64.wrap (a - b) = a - b := by rw [cY] <;> omega
theorem cP0 {a b : Int} (h0 : 0 ≤ a + b) (h1 : a + b ≤ 1000) : IntKind.i64.wrap (a + b) = a + b := by rw [cY] <;> omega
theorem hN0 (m : Sem) (q : Sl) (t n : Int) (w : World) (h : At w [slo q bV 2 m.queue]) (ok : SemOk m) (ht : aZ t = true) (hn : t ∉ m.queue.map (·.t)) (h1 : 1 ≤ n) (h2 : n ≤ m.limit) :
   Calls Tryz.prog 68 #[oC m q, .int .i64 t, .int .i64 n] w (Ret w (AcqR (m.acquire t n))) := by
 have hb := ok.q6
 have l9 := ok.l9
 have fl := ok.fl
 refine gQ Tryz.func68 rfl aA w _ rfl _ rfl _ h ⟨rfl, rfl, trivial⟩ _ _ _ (by decide) ?_
 refine aB _ iZ0 rfl rfl rfl rfl ⟨rfl, rfl⟩ (fun A w hW => sB m q w ⟨z34, trivial⟩ (by omega)) ?_
 rintro v L ⟨b, rfl, hbb, rfl⟩
 obtain rfl : b = true := hbb.2 ok
 refine CaseB.mk (fun g => by simp at g) (fun _ => ?_)
 refine aB _ sO rfl rfl rfl rfl ⟨rfl, rfl⟩ (fun A w hW => gS _ w) ?_
 rintro v L ⟨rfl, rfl⟩
 refine CaseB.mk (fun g => by rw [ht] at g; simp at g) (fun _ => ?_)
 refine aB _ cl130 rfl rfl rfl rfl ⟨rfl, rfl⟩ (fun A w hW => hM0 m q t w ⟨z34, trivial⟩ (by omega)) ?_
 rintro v L ⟨a, rfl, ha, rfl⟩
 have ha0 : ¬ 0 ≤ a := fun h => hn ((eR _ _).1 (ha ▸ h))
 refine CaseB.mk (fun g => by have g' := of_decide_eq_true g; exact (ha0 g').elim) (fun _ => ?_)
 refine CaseB.mk (fun g => by have g' := of_decide_eq_true g; omega) (fun _ => ?_)
 refine CaseB.mk (fun g => by have g' := of_decide_eq_true g; omega) (fun _ => ?_)
 refine aB _ bW0 rfl rfl rfl rfl ⟨rfl, rfl⟩ (fun A w hW => mZ m q w ⟨z34, trivial⟩ (by omega)) ?_
 rintro v L ⟨y, rfl, rfl⟩
 have hac : ¬ (m.queue = [] ∧ n ≤ m.free) → m.acquire t n = ({ m with queue := m.queue ++ [⟨t, n⟩] }, false) := fun h => by rw [Sem.acquire, if_neg h]
 apply CaseB.mk <;> intro g
 · have hq : m.queue = [] := List.eq_nil_of_length_eq_zero (by have g' := of_decide_eq_true g; omega)
   apply CaseB.mk <;> intro g
   · have hf : n ≤ m.free := by simpa using g
     have hw := oK (a := m.free) (b := n) (by omega) (by omega)
     have e : m.acquire t n = ({ m with free := m.free - n }, true) := by rw [Sem.acquire, if_pos ⟨hq, hf⟩]
     rw [e]
     exact bG [0] ⟨y, rfl, rfl⟩ ⟨.inl ⟨_, rfl, z75⟩, trivial⟩ rfl ⟨rfl, trivial⟩ (fun _ => z75)
   · have hf : ¬ n ≤ m.free := by simpa using g
     rw [hac fun h => hf h.2]
     refine AllSl.mk fun z => ?_
     refine cD cH aA (ys := [⟨t, n⟩]) rfl rfl rfl rfl rfl rfl rfl rfl rfl (by decide) ⟨rfl, rfl⟩ z39 z35 z43 z43 (fun y2 => ?_)
     refine aB _ bW0 rfl rfl rfl rfl ⟨rfl, rfl⟩ (fun A w hW => mZ { m with queue := m.queue ++ [⟨t, n⟩] } y2 w ⟨z34, trivial⟩ z101) ?_
     rintro v L ⟨y3, rfl, rfl⟩
     exact bG [0] ⟨y3, rfl, rfl⟩ z144 rfl ⟨rfl, trivial⟩ (fun _ => rfl)
 · have hq : ¬ m.queue = [] := fun e => by rw [e] at g; simp at g
   rw [hac fun h => hq h.1]
   refine AllSl.mk fun z => ?_
   refine cD cH aA (ys := [⟨t, n⟩]) rfl rfl rfl rfl rfl rfl rfl rfl rfl (by decide) ⟨rfl, rfl⟩ z39 z35 z43 z43 (fun y2 => ?_)
   refine aB _ bW0 rfl rfl rfl rfl ⟨rfl, rfl⟩ (fun A w hW => mZ { m with queue := m.queue ++ [⟨t, n⟩] } y2 w ⟨z34, trivial⟩ z101) ?_
   rintro v L ⟨y3, rfl, rfl⟩
   exact bG [0] ⟨y3, rfl, rfl⟩ z144 rfl ⟨rfl, trivial⟩ (fun _ => rfl)
structure HandY (f0 : Int) (Q : List Waiter) (q : Sl) where
 f : Int
 R : List Waiter
 G : List Int
 qk : Sl
 y : Sl
 h : dY f0 Q = ((dY f R).1, G ++ (dY f R).2.1, (dY f R).2.2)
 l0 : 0 ≤ f
 l1 : f ≤ f0
 c : ∀ x ∈ R, 1 ≤ x.n
 n : R.length + G.length = Q.length
 rd : ∀ w : World, (slo q bV 2 Q).P w → RdS w qk 2 (cells bV R) R.length
theorem cQ0 {f : Int} {R : List Waiter} (h : ∀ h0 : 0 < R.length, ¬ R[0].n ≤ f) : dY f R = (f, [], R) := by
 cases R with
 | nil => rfl
 | cons x r => exact if_neg (h (by simp))
theorem zH {f : Int} {R : List Waiter} (h0 : 0 < R.length) (h : R[0].n ≤ f) : dY f R = ((dY (f - R[0].n) (R.drop 1)).1, R[0].t :: (dY (f - R[0].n) (R.drop 1)).2.1, (dY (f - R[0].n) (R.drop 1)).2.2) := by
 cases R with
 | nil => simp at h0
 | cons x r => exact if_pos h
def HandR (lim : Int) (p : Int × List Int × List Waiter) (v : Value) (cs : List Value) (L : List Fct) : Prop :=
 ∃ y q : Sl, v = y.val p.2.1.length ∧ cs = [.int .i64 p.1, .int .i64 lim, q.val p.2.2.length] ∧ L = [own y 3 aJ 1 p.2.1, own q 184 bV 2 p.2.2]
def hU : Sl := ⟨none, 0⟩
theorem oZ0 (g : Nat) (f0 lim : Int) (Q : List Waiter) (q : Sl) (w : World) (hg : Blk w g 95 [.int .i64 f0, .int .i64 lim, q.val Q.length]) (h : AtP w g [slo q bV 2 Q]) (hb : Q.length ≤ 100) (hf0 : 0 ≤ f0) (hf9 : f0 ≤ 100) (hc : ∀ x ∈ Q, 1 ≤ x.n) :
   Calls Tryz.prog 131 #[.pointer (some ⟨g, 0, none⟩)] w (wV w g 95 3 (HandR lim (dY f0 Q))) := by
 refine aK0 Tryz.func131 rfl aA w _ rfl _ rfl _ 95 _ 3 rfl hg _ h ⟨rfl, rfl, trivial⟩ (by decide) ?_
 refine LoopW.mk ⟨HandY f0 Q q,
   fun y => .mk [(0, .p 0 0), (3, .v (y.y.val y.G.length))] 1 0 [(0, 95, 3)] [((0, 0), .v (.int .i64 y.f)), ((0, 1), .v (.int .i64 lim)), ((0, 2), .v (y.qk.val y.R.length))] [own y.y 3 aJ 1 y.G, slo q bV 2 Q],
   fun y => y.R.length, ⟨f0, Q, [], q, hU, by simp, hf0, by omega, hc, by simp, fun w hq => ?_⟩, ?_, ?_⟩
 · exact iE (F := [slo q bV 2 Q]) 0 rfl w (fun f hf => by simp at hf; rw [hf]; exact hq)
 · exact aC [99, 0] zw2 zw0 zw2 zw5 zw4 rfl rfl
 · rintro ⟨f, R, G, qk, y, hh, l0, l1, hcR, hn, hr⟩
   simp only
   have hrd : ∀ F : List Fct, slo q bV 2 Q ∈ F → ∀ w : World, (∀ f' ∈ F, f'.P w) → RdS w qk 2 (cells bV R) R.length := fun F hm w hF => hr w (hF _ hm)
   have fin : (¬ ∃ h0 : 0 < R.length, R[0].n ≤ f) → dY f0 Q = (f, G, R) := fun hn => by
     rw [hh, cQ0 (fun h0 hle => hn ⟨h0, hle⟩)]; simp
   refine aF aA z102 z102 z102 200 [((0, 0), .v (.int .i64 f)), ((0, 2), .v (qk.val R.length))] [1] [_] z135 z145 ⟨rfl, trivial⟩ rfl ?_
   refine CaseB.mk (fun h1 => ?_) (fun h1 => ?_)
   · have h0 : 0 < R.length := by simpa using h1
     refine bO (ti := aU tab) cH aA rfl rfl rfl rfl rfl ⟨rfl, rfl⟩ (hrd _ (by simp)) 0 rfl z43 (fun ad => ?_)
     refine CaseB.mk (fun h2 => ?_) (fun h2 => ?_)
     · have hle : R[0].n ≤ f := by simpa using h2
       have he := zH h0 hle
       have hw := oK (a := f) (b := R[0].n) (by omega) (by have := hcR R[0] (List.getElem_mem h0); omega)
       have hn1 := hcR R[0] (List.getElem_mem h0)
       refine aF aA z102 z102 z102 200 [((0, 2), .v (qk.val R.length))] [1] [_] z146 z149 ⟨rfl, trivial⟩ rfl ?_
       refine bO (ti := aU tab) cH aA rfl rfl rfl rfl rfl ⟨rfl, rfl⟩ (hrd _ (by simp)) 0 rfl z43 (fun ad => ?_)
       refine aG cH aA rfl rfl rfl rfl rfl ⟨rfl, rfl⟩ (hrd _ (by simp)) 0 rfl z43 (fun ad2 => ?_)
       refine AllSl.mk fun z1 => ?_
       refine cD aE aA (xs := G) (ys := [R[0].t]) rfl rfl rfl rfl rfl rfl rfl rfl rfl (by decide) ⟨rfl, rfl⟩ z39 z35 z43 z43 (fun y2 => ?_)
       refine iG aA rfl rfl rfl rfl ⟨rfl, rfl⟩ rfl rfl (hrd _ (by simp)) (1) (R.length) ((R.drop 1)).length rfl rfl z43 z43 z43 ?_
       refine ⟨⟨f - R[0].n, R.drop 1, G ++ [R[0].t], qk.cut 1 2, y2, by rw [hh, he]; simp, by omega, by omega, fun x hx => hcR x (List.mem_of_mem_drop hx), by simp; omega, fun w hq => uK cH (F := [slo q bV 2 Q]) 1 (by omega) (hrd _ (by simp)) w (fun f' hf' => by simp at hf'; rw [hf']; exact hq)⟩, ?_, by simp; omega⟩
       exact aC [0, 2] zw1 zw0 zw1 zw5 zw3 rfl rfl
     · have hle : ¬ R[0].n ≤ f := by simpa using h2
       have he := fin fun ⟨_, h⟩ => hle h
       rw [he]
       refine oA cH aA rfl rfl rfl rfl rfl rfl rfl rfl rfl (by decide) ⟨rfl, rfl⟩ (hrd _ (by simp)) z43 z43 (fun q2 => ?_)
       exact mR [1, 0] ⟨y, q2, rfl, rfl, rfl⟩ rfl rfl z137 rfl ⟨rfl, rfl, trivial⟩ (fun _ => rfl)
   · have h0 : ¬ 0 < R.length := by simpa using h1
     have he := fin fun ⟨h, _⟩ => h0 h
     rw [he]
     refine oA cH aA rfl rfl rfl rfl rfl rfl rfl rfl rfl (by decide) ⟨rfl, rfl⟩ (hrd _ (by simp)) z43 z43 (fun q2 => ?_)
     exact mR [1, 0] ⟨y, q2, rfl, rfl, rfl⟩ rfl rfl z137 rfl ⟨rfl, rfl, trivial⟩ (fun _ => rfl)
def RelR (p : Option (Sem × List Int)) (v : Value) (L : List Fct) : Prop :=
 match p with
 | none => ∃ y z : Sl, v = .tuple #[oC ⟨0, 0, []⟩ y, z.val 0, .bool false] ∧ L = []
 | some p => ∃ y z : Sl, v = .tuple #[oC p.1 y, z.val p.2.length, .bool true] ∧ L = [own y 184 bV 2 p.1.queue, own z 3 aJ 1 p.2]
theorem zI (m : Sem) (q : Sl) (n : Int) (w : World) (h : At w [slo q bV 2 m.queue]) (ok : SemOk m) (h1 : 1 ≤ n) (h2 : n ≤ m.limit) :
   Calls Tryz.prog 70 #[oC m q, .int .i64 n] w (Ret w (RelR (m.release n))) := by
 have hb := ok.q6
 have l9 := ok.l9
 have fl := ok.fl
 have f0 := ok.f0
 refine cB Tryz.func70 rfl aA w _ rfl _ rfl _ h ⟨rfl, rfl, trivial⟩ _ _ (by decide) ?_
 refine aB _ iZ0 rfl rfl rfl rfl ⟨rfl, rfl⟩ (fun A w hW => sB m q w ⟨z34, trivial⟩ (by omega)) ?_
 rintro v L ⟨b, rfl, hbb, rfl⟩
 obtain rfl : b = true := hbb.2 ok
 refine CaseB.mk (fun g => by simp at g) (fun _ => ?_)
 refine CaseB.mk (fun g => by have g' := of_decide_eq_true g; omega) (fun _ => ?_)
 have hw := oK (a := m.limit) (b := m.free) (by omega) (by omega)
 apply CaseB.mk <;> intro g
 · rw [hw] at g
   have hn : ¬ n ≤ m.limit - m.free := by have g' := of_decide_eq_true g; omega
   rw [Sem.release, if_neg hn]
   exact aH ⟨hU, hU, rfl, rfl⟩ (fun _ => rfl)
 rw [hw] at g
 have hn : n ≤ m.limit - m.free := by have g' := of_decide_eq_false g; omega
 rw [Sem.release, if_pos hn]
 refine aB _ bW0 rfl rfl rfl rfl ⟨rfl, rfl⟩ (fun A w hW => mZ m q w ⟨z34, trivial⟩ (by omega)) ?_
 rintro v L ⟨y, rfl, rfl⟩
 have hw2 := cP0 (a := m.free) (b := n) (by omega) (by omega)
 refine bY _ cl131 rfl rfl rfl rfl ⟨rfl, rfl⟩ rfl rfl (fun A w ga hga hW hblk => (oZ0 ga (IntKind.i64.wrap (m.free + n)) m.limit m.queue y w hblk ⟨z33, trivial⟩ (by omega) (by rw [hw2]; omega) (by rw [hw2]; omega) (fun x hx => (ok.cnt x hx).1))) ?_
 rw [hw2]
 rintro v cs L ⟨z, q2, rfl, rfl, rfl⟩
 exact bG [1, 0] ⟨q2, z, rfl, rfl⟩ z137 rfl ⟨rfl, rfl, trivial⟩ (fun _ => rfl)
theorem qE (m : Once) (q : Sl) (w : World) (h : At w [slo q aJ 1 m.waits]) (hb : m.waits.length ≤ 1048576) :
   Calls Tryz.prog 127 #[jX m q] w (Ret w fun v L => ∃ y : Sl, v = jX m y ∧ L = [own y 3 aJ 1 m.waits]) := by
 refine bZ Tryz.func127 rfl aA w _ rfl _ rfl _ h ⟨rfl, rfl, trivial⟩ _ (by decide) ?_
 refine aB _ iF rfl rfl rfl rfl ⟨rfl, rfl⟩ (fun A w hW => cE q m.waits w ⟨z34, trivial⟩ (by omega)) ?_
 rintro v L ⟨y, rfl, rfl⟩
 exact bG [0] ⟨y, rfl, rfl⟩ z144 rfl ⟨rfl, trivial⟩ (fun _ => rfl)
def EntR (p : Once × Int) (v : Value) (L : List Fct) : Prop := ∃ y : Sl, v = .tuple #[jX p.1 y, .int .i64 p.2, .bool true] ∧ L = [own y 3 aJ 1 p.1.waits]
def FinR (p : Once × List Int) (v : Value) (L : List Fct) : Prop := ∃ y z : Sl, v = .tuple #[jX p.1 y, z.val p.2.length, .bool true] ∧ L = [own y 3 aJ 1 p.1.waits, own z 3 aJ 1 p.2]
def AddR (p : Option (Group × List Int)) (v : Value) (L : List Fct) : Prop :=
 match p with
 | none => ∃ y z : Sl, v = .tuple #[kN ⟨0, []⟩ y, z.val 0, .bool false] ∧ L = []
 | some p => ∃ y z : Sl, v = .tuple #[kN p.1 y, z.val p.2.length, .bool true] ∧ L = [own y 3 aJ 1 p.1.waits, own z 3 aJ 1 p.2]
def WaiR (p : Group × Bool) (v : Value) (L : List Fct) : Prop := ∃ y : Sl, v = .tuple #[kN p.1 y, .bool p.2, .bool true] ∧ L = [own y 3 aJ 1 p.1.waits]
def ArrR (p : Option (Barrier × List Int)) (v : Value) (L : List Fct) : Prop :=
 match p with
 | none => ∃ z : Sl, v = .tuple #[jE ⟨0, 0, []⟩ hU, z.val 0, .bool false] ∧ L = []
 | some p => ∃ y z : Sl, v = .tuple #[jE p.1 y, z.val p.2.length, .bool true] ∧ L = [own y 3 aJ 1 p.1.waits, own z 3 aJ 1 p.2]
theorem mO0 (m : Once) (q : Sl) (t : Int) (w : World) (h : At w [slo q aJ 1 m.waits]) (ok : eI m) (ht : aZ t = true) (hn : t ∉ m.waits) (ho : m.state = 1 → m.owner ≠ t) :
   Calls Tryz.prog 72 #[jX m q, .int .i64 t] w (Ret w (EntR (m.enter t))) := by
 have hb := eZ ok
 refine cB Tryz.func72 rfl aA w _ rfl _ rfl _ h ⟨rfl, rfl, trivial⟩ _ _ (by decide) ?_
 refine aB _ jB0 rfl rfl rfl rfl ⟨rfl, rfl⟩ (fun A w hW => qA m q w ⟨z34, trivial⟩ (by omega)) ?_
 rintro v L ⟨b, rfl, hbb, rfl⟩
 obtain rfl : b = true := hbb.2 ok
 refine CaseB.mk (fun g => by simp at g) (fun _ => ?_)
 refine aB _ sO rfl rfl rfl rfl ⟨rfl, rfl⟩ (fun A w hW => gS _ w) ?_
 rintro v L ⟨rfl, rfl⟩
 refine CaseB.mk (fun g => by rw [ht] at g; simp at g) (fun _ => ?_)
 apply CaseB.mk <;> intro g
 · have e0 : m.state = 0 := by simpa using g
   rw [Once.enter, if_pos e0]
   exact bG [99] ⟨hU, rfl, rfl⟩ z131 rfl ⟨rfl, trivial⟩ (fun _ => (by first | rfl | ((simp only [e0, gZ, jX]; rfl))))
 have e0 : ¬ m.state = 0 := by simpa using g
 rw [Once.enter, if_neg e0]
 apply CaseB.mk <;> intro g
 · have e1 : m.state = 1 := by simpa using g
   rw [if_pos e1]
   have hno := ho e1
   refine CaseB.mk (fun g => by exact (hno z98).elim) (fun _ => ?_)
   refine aB _ dU0 rfl rfl rfl rfl ⟨rfl, rfl⟩ (fun A w hW => jM q m.waits t w ⟨z34, trivial⟩ (by omega)) ?_
   rintro v L ⟨rfl, rfl⟩
   refine CaseB.mk (fun g => by exact (hn z98).elim) (fun _ => ?_)
   refine aB _ jC0 rfl rfl rfl rfl ⟨rfl, rfl⟩ (fun A w hW => qE m q w ⟨z34, trivial⟩ (by omega)) ?_
   rintro v L ⟨y, rfl, rfl⟩
   refine AllSl.mk fun z => ?_
   refine cD aE aA (ys := [t]) rfl rfl rfl rfl rfl rfl rfl rfl rfl (by decide) ⟨rfl, rfl⟩ z39 z35 z43 z43 (fun y2 => ?_)
   refine aB _ iF rfl rfl rfl rfl ⟨rfl, rfl⟩ (fun A w hW => cE y2 (m.waits ++ [t]) w ⟨z34, trivial⟩ z101) ?_
   rintro v L ⟨y3, rfl, rfl⟩
   exact bG [0] ⟨y3, rfl, rfl⟩ ⟨.inl ⟨_, rfl, (by first | rfl | ((simp only [e1, gZ, SV.den, jX]; rfl)))⟩, trivial⟩ rfl ⟨rfl, trivial⟩ (fun _ => (by first | rfl | ((simp only [e1, gZ, jX]; rfl))))
 have e1 : ¬ m.state = 1 := by simpa using g
 rw [if_neg e1]
 have e2 : m.state = 2 := by
   rcases ok with h | h | h
   · exact (e0 h.1).elim
   · exact (e1 h.1).elim
   · exact h.1
 refine aB _ jC0 rfl rfl rfl rfl ⟨rfl, rfl⟩ (fun A w hW => qE m q w ⟨z34, trivial⟩ (by omega)) ?_
 rintro v L ⟨y, rfl, rfl⟩
 exact bG [0] ⟨y, rfl, rfl⟩ ⟨.inl ⟨_, rfl, (by first | rfl | ((simp only [e2, gZ, SV.den, jX]; rfl)))⟩, trivial⟩ rfl ⟨rfl, trivial⟩ (fun _ => (by first | rfl | ((simp only [e2, gZ, jX]; rfl))))
theorem kK0 (m : Once) (q : Sl) (t u : Int) (w : World) (h : At w [slo q aJ 1 m.waits]) (ok : eI m) (h1 : m.state = 1) (ho : m.owner = t) (hv : aV u = true) :
   Calls Tryz.prog 71 #[jX m q, .int .i64 t, .int .i64 u] w (Ret w (FinR (m.finish t u))) := by
 have hb := eZ ok
 refine gQ Tryz.func71 rfl aA w _ rfl _ rfl _ h ⟨rfl, rfl, trivial⟩ _ _ _ (by decide) ?_
 refine aB _ jB0 rfl rfl rfl rfl ⟨rfl, rfl⟩ (fun A w hW => qA m q w ⟨z34, trivial⟩ (by omega)) ?_
 rintro v L ⟨b, rfl, hbb, rfl⟩
 obtain rfl : b = true := hbb.2 ok
 refine CaseB.mk (fun g => by simp at g) (fun _ => ?_)
 refine CaseB.mk (fun g => by simp [h1] at g) (fun _ => ?_)
 refine CaseB.mk (fun g => by simp [ho] at g) (fun _ => ?_)
 refine aB _ pT rfl rfl rfl rfl ⟨rfl, rfl⟩ (fun A w hW => gE _ w) ?_
 rintro v L ⟨rfl, rfl⟩
 refine CaseB.mk (fun g => by simp [hv] at g) (fun _ => ?_)
 refine aB _ iF rfl rfl rfl rfl ⟨rfl, rfl⟩ (fun A w hW => cE q m.waits w ⟨z34, trivial⟩ (by omega)) ?_
 rintro v L ⟨y, rfl, rfl⟩
 exact bG [99, 0] ⟨hU, y, rfl, rfl⟩ z125 rfl ⟨rfl, rfl, trivial⟩ (fun _ => rfl)
theorem oB0 (m : Group) (q : Sl) (n : Int) (w : World) (h : At w [slo q aJ 1 m.waits]) (ok : fD m) (h1 : -9 ≤ n) (h9 : n ≤ 9) :
   Calls Tryz.prog 73 #[kN m q, .int .i64 n] w (Ret w (AddR (m.add n))) := by
 have hb := fQ ok
 have hv : 0 ≤ m.count ∧ m.count ≤ 99 := by have := ok.1; simp [aV] at this; omega
 have hw : IntKind.i64.wrap (m.count + n) = m.count + n := by rw [IntKind.wrap_i64]; omega
 refine cB Tryz.func73 rfl aA w _ rfl _ rfl _ h ⟨rfl, rfl, trivial⟩ _ _ (by decide) ?_
 refine aB _ jA0 rfl rfl rfl rfl ⟨rfl, rfl⟩ (fun A w hW => oV m q w ⟨z34, trivial⟩ (by omega)) ?_
 rintro v L ⟨b, rfl, hbb, rfl⟩
 obtain rfl : b = true := hbb.2 ok
 refine CaseB.mk (fun g => by simp at g) (fun _ => ?_)
 refine CaseB.mk (fun g => by have g' := of_decide_eq_true g; omega) (fun _ => ?_)
 refine CaseB.mk (fun g => by have g' := of_decide_eq_true g; omega) (fun _ => ?_)
 refine aB _ pT rfl rfl rfl rfl ⟨rfl, rfl⟩ (fun A w hW => gE _ w) ?_
 rw [hw]
 rintro v L ⟨rfl, rfl⟩
 apply CaseB.mk <;> intro g
 · have hn : ¬ aV (m.count + n) = true := by simpa using g
   rw [Group.add, if_neg hn]
   exact aH ⟨hU, hU, rfl, rfl⟩ (fun _ => rfl)
 have hn : aV (m.count + n) = true := by simpa using g
 rw [Group.add, if_pos hn]
 apply CaseB.mk <;> intro g
 · rw [hw] at g
   have h0 : m.count + n = 0 := by simpa using g
   rw [if_pos h0]
   refine aB _ iF rfl rfl rfl rfl ⟨rfl, rfl⟩ (fun A w hW => cE q m.waits w ⟨z34, trivial⟩ (by omega)) ?_
   rintro v L ⟨y, rfl, rfl⟩
   exact bG [99, 0] ⟨hU, y, rfl, rfl⟩ z125 rfl ⟨rfl, rfl, trivial⟩ (fun _ => rfl)
 rw [hw] at g
 have h0 : ¬ m.count + n = 0 := by simpa using g
 rw [if_neg h0]
 refine aF aA z102 z102 z102 200 [((0, 0), .v (.int .i64 m.count)), ((0, 1), .v (q.val m.waits.length))] [0] [_] z135 z145 ⟨rfl, trivial⟩ rfl ?_
 refine bN _ iF rfl rfl rfl rfl ⟨rfl, rfl⟩ (fun A w hW => cE q m.waits w ⟨z34, trivial⟩ (by omega)) ?_
 rintro v L ⟨y, rfl, rfl⟩
 exact bG [0, 99] ⟨y, hU, rfl, rfl⟩ ⟨.inl ⟨_, rfl, z72⟩, .inr z139, trivial⟩ rfl ⟨rfl, rfl, trivial⟩ (fun _ => z72)
theorem pA0 (m : Group) (q : Sl) (t : Int) (w : World) (h : At w [slo q aJ 1 m.waits]) (ok : fD m) (ht : aZ t = true) (hn : t ∉ m.waits) :
   Calls Tryz.prog 74 #[kN m q, .int .i64 t] w (Ret w (WaiR (m.wait t))) := by
 have hb := fQ ok
 refine cB Tryz.func74 rfl aA w _ rfl _ rfl _ h ⟨rfl, rfl, trivial⟩ _ _ (by decide) ?_
 refine aB _ jA0 rfl rfl rfl rfl ⟨rfl, rfl⟩ (fun A w hW => oV m q w ⟨z34, trivial⟩ (by omega)) ?_
 rintro v L ⟨b, rfl, hbb, rfl⟩
 obtain rfl : b = true := hbb.2 ok
 refine CaseB.mk (fun g => by simp at g) (fun _ => ?_)
 refine aB _ sO rfl rfl rfl rfl ⟨rfl, rfl⟩ (fun A w hW => gS _ w) ?_
 rintro v L ⟨rfl, rfl⟩
 refine CaseB.mk (fun g => by rw [ht] at g; simp at g) (fun _ => ?_)
 refine aB _ dU0 rfl rfl rfl rfl ⟨rfl, rfl⟩ (fun A w hW => jM q m.waits t w ⟨z34, trivial⟩ (by omega)) ?_
 rintro v L ⟨rfl, rfl⟩
 refine CaseB.mk (fun g => by exact (hn z98).elim) (fun _ => ?_)
 apply CaseB.mk <;> intro g
 · have h0 : m.count = 0 := by simpa using g
   rw [Group.wait, if_pos h0]
   exact bG [99] ⟨hU, rfl, rfl⟩ z131 rfl ⟨rfl, trivial⟩ (fun _ => rfl)
 have h0 : ¬ m.count = 0 := by simpa using g
 rw [Group.wait, if_neg h0]
 refine aF aA z102 z102 z102 200 [((0, 0), .v (.int .i64 m.count)), ((0, 1), .v (q.val m.waits.length))] [0] [_] z135 z145 ⟨rfl, trivial⟩ rfl ?_
 refine BothW.mk ?_ ?_
 · refine bN _ iF rfl rfl rfl rfl ⟨rfl, rfl⟩ (fun A w hW => cE q m.waits w ⟨z34, trivial⟩ (by omega)) ?_
   rintro v L ⟨y, rfl, rfl⟩
   refine AllSl.mk fun z => ?_
   refine mQ (ti := aU tab) aE aA (ys := [t]) rfl rfl rfl rfl rfl rfl rfl rfl rfl (by decide) ⟨rfl, rfl⟩ z39 z35 z43 z43 z100 (fun y2 => ?_)
   exact bG [0] ⟨y2, rfl, rfl⟩ z144 rfl ⟨rfl, trivial⟩ (fun _ => rfl)
 · refine AllSl.mk fun z => ?_
   refine bN _ iF rfl rfl rfl rfl ⟨rfl, rfl⟩ (fun A w hW => cE q m.waits w ⟨z34, trivial⟩ (by omega)) ?_
   rintro v L ⟨y, rfl, rfl⟩
   refine mQ (ti := aU tab) aE aA (ys := [t]) rfl rfl rfl rfl rfl rfl rfl rfl rfl (by decide) ⟨rfl, rfl⟩ z39 z35 z43 z43 z100 (fun y2 => ?_)
   exact bG [0] ⟨y2, rfl, rfl⟩ z144 rfl ⟨rfl, trivial⟩ (fun _ => rfl)
theorem cR0 (m : Barrier) (q : Sl) (t : Int) (w : World) (h : At w [slo q aJ 1 m.waits]) (ok : dP m) (ht : aZ t = true) (hn : t ∉ m.waits) :
   Calls Tryz.prog 75 #[jE m q, .int .i64 t] w (Ret w (ArrR (m.arrive t))) := by
 have hb := gA ok
 obtain ⟨p1, p6, r0, r9, wl, dis⟩ := ok
 have hw : IntKind.i64.wrap (m.round + 1) = m.round + 1 := by rw [IntKind.wrap_i64]; omega
 refine cB Tryz.func75 rfl aA w _ rfl _ rfl _ h ⟨rfl, rfl, trivial⟩ _ _ (by decide) ?_
 refine aB _ nI0 rfl rfl rfl rfl ⟨rfl, rfl⟩ (fun A w hW => qB m q w ⟨z34, trivial⟩ (by omega)) ?_
 rintro v L ⟨b, rfl, hbb, rfl⟩
 obtain rfl : b = true := hbb.2 ⟨p1, p6, r0, r9, wl, dis⟩
 refine CaseB.mk (fun g => by simp at g) (fun _ => ?_)
 refine aB _ sO rfl rfl rfl rfl ⟨rfl, rfl⟩ (fun A w hW => gS _ w) ?_
 rintro v L ⟨rfl, rfl⟩
 refine CaseB.mk (fun g => by rw [ht] at g; simp at g) (fun _ => ?_)
 refine aB _ dU0 rfl rfl rfl rfl ⟨rfl, rfl⟩ (fun A w hW => jM q m.waits t w ⟨z34, trivial⟩ (by omega)) ?_
 rintro v L ⟨rfl, rfl⟩
 refine CaseB.mk (fun g => by exact (hn z98).elim) (fun _ => ?_)
 refine aB _ iF rfl rfl rfl rfl ⟨rfl, rfl⟩ (fun A w hW => cE q m.waits w ⟨z34, trivial⟩ (by omega)) ?_
 rintro v L ⟨y, rfl, rfl⟩
 refine AllSl.mk fun z => ?_
 refine cD aE aA (ys := [t]) rfl rfl rfl rfl rfl rfl rfl rfl rfl (by decide) ⟨rfl, rfl⟩ z39 z35 z43 z43 (fun y2 => ?_)
 have hl : (m.waits ++ [t]).length = m.waits.length + 1 := by simp
 apply CaseB.mk <;> intro g
 · have h0 : (m.waits.length : Int) + 1 < m.parties := by have g' := of_decide_eq_true g; rw [hl] at g'; omega
   rw [Barrier.arrive, if_pos h0]
   exact bG [0, 99] ⟨y2, hU, rfl, rfl⟩ z126 rfl ⟨rfl, rfl, trivial⟩ (fun _ => rfl)
 have h0 : ¬ (m.waits.length : Int) + 1 < m.parties := by have g' := of_decide_eq_false g; rw [hl] at g'; omega
 rw [Barrier.arrive, if_neg h0]
 apply CaseB.mk <;> intro g
 · rw [hw] at g
   have h9 : m.round = 9999 := by have g' := of_decide_eq_true g; omega
   rw [if_pos h9]
   exact aH ⟨hU, rfl, rfl⟩ (fun _ => rfl)
 rw [hw] at g
 have h9 : ¬ m.round = 9999 := by have g' := of_decide_eq_false g; omega
 rw [if_neg h9]
 exact bG [99, 0] ⟨hU, y2, rfl, rfl⟩ ⟨.inr z139, .inl ⟨_, rfl, z71⟩, trivial⟩ rfl ⟨rfl, rfl, trivial⟩ (fun _ => z71)
end Go.Proofs.YtijmjecehppbfaaGreat
