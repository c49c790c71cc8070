/- FnCountTurns: texts that its proof stands on, part 7. -/
import Derived.Test.YtijmjecehppbfaaGreatQCountTurnsf
namespace Go.Proofs.YtijmjecehppbfaaGreat
set_option maxRecDepth 100000
set_option maxHeartbeats 100000000
open Go Go.Sx Go.RowKit
def Chan.zero : Chan := ⟨0, [], [], [], false⟩
def Chan.send (m : Chan) (t v : Int) : Chan × List Int × Bool × Bool :=
 if m.Valid ∧ m.closed = false ∧ bA t = true ∧ aW v = true ∧ ¬ t ∈ m.threads then
   if h : 0 < m.getters.length then ({ m with getters := m.getters.drop 1 }, [m.getters[0]], true, true)
   else if (m.items.length : Int) < m.room then ({ m with items := m.items ++ [v] }, [], true, true)
   else ({ m with senders := m.senders ++ [⟨t, v⟩] }, [], false, true)
 else (.zero, [], false, false)
def cU : Sl := ⟨none, 0⟩
def nM0 (p : Chan × List Int × Bool × Bool) (v : Value) (L : List Fct) : Prop :=
 ∃ i s g r : Sl, v = .tuple #[jP p.1 i s g, r.val p.2.1.length, .bool p.2.2.1, .bool p.2.2.2] ∧ L = [own i 3 aJ 1 p.1.items, own s 187 jE 2 p.1.senders, own g 3 aJ 1 p.1.getters, own r 3 aJ 1 p.2.1]
theorem kY {m : Chan} (h : (!m.valid) = false) : m.Valid := by simpa [Chan.valid] using h
theorem rA {m : Chan} (h : (!m.valid) = true) : ¬ m.Valid := by simpa [Chan.valid] using h
theorem oK0 (m : Chan) (i s g : Sl) (t u : Int) (w : World) (h : At w [slo i aJ 1 m.items, slo s jE 2 m.senders, slo g aJ 1 m.getters]) (hb : m.small) :
   Calls Tryz.prog 76 #[jP m i s g, .int .i64 t, .int .i64 u] w (Ret w (nM0 (m.send t u))) := by
 obtain ⟨b1, b2, b3⟩ := hb
 have bT : m.threads.length ≤ 8589934592 := by simp [Chan.threads]; omega
 generalize hp : m.send t u = p
 have hno : ¬ (m.Valid ∧ m.closed = false ∧ bA t = true ∧ aW u = true ∧ ¬ t ∈ m.threads) → p = (.zero, [], false, false) := fun h => by rw [← hp, Chan.send, if_neg h]
 refine kD Tryz.func76 rfl aA w _ rfl _ rfl _ h z147 _ _ _ (by decide) ?_
 refine aB _ fG0 rfl rfl rfl rfl ⟨rfl, rfl⟩ (fun A w hW => wF m i s g w ⟨z39, z39, z39, trivial⟩ ⟨b1, b2, b3⟩) ?_
 rintro v L ⟨rfl, rfl⟩
 refine CaseB.mk (fun h1 => ?_) (fun h1 => ?_)
 · obtain rfl := hno (fun h => rA h1 h.1)
   exact bC [96, 97, 98, 99] ⟨cU, cU, cU, cU, rfl, rfl⟩ z112 rfl ⟨rfl, rfl, rfl, rfl, trivial⟩ (fun _ => rfl)
 refine aB _ sZ rfl rfl rfl rfl ⟨rfl, rfl⟩ (fun A w hW => gN _ w) ?_
 rintro v L ⟨rfl, rfl⟩
 refine CaseB.mk (fun h2 => ?_) (fun h2 => ?_)
 · obtain rfl := hno (fun h => by rw [h.2.2.1] at h2; cases h2)
   exact bC [96, 97, 98, 99] ⟨cU, cU, cU, cU, rfl, rfl⟩ z112 rfl ⟨rfl, rfl, rfl, rfl, trivial⟩ (fun _ => rfl)
 refine aB _ iW0 rfl rfl rfl rfl ⟨rfl, rfl⟩ (fun A w hW => uQ m i s g w ⟨z39, z39, z39, trivial⟩ ⟨b1, b2, b3⟩) ?_
 rintro v L ⟨y, rfl, rfl⟩
 refine aB _ dV0 rfl rfl rfl rfl ⟨rfl, rfl⟩ (fun A w hW => jG y m.threads t w ⟨z39, trivial⟩ bT) ?_
 rintro v L ⟨rfl, rfl⟩
 refine CaseB.mk (fun h3 => ?_) (fun h3 => ?_)
 · obtain rfl := hno (fun h => h.2.2.2.2 (by simpa using h3))
   exact bC [96, 97, 98, 99] ⟨cU, cU, cU, cU, rfl, rfl⟩ z112 rfl ⟨rfl, rfl, rfl, rfl, trivial⟩ (fun _ => rfl)
 refine CaseB.mk (fun h4 => ?_) (fun h4 => ?_)
 · obtain rfl := hno (fun h => by rw [h.2.1] at h4; cases h4)
   exact bC [96, 97, 98, 99] ⟨cU, cU, cU, cU, rfl, rfl⟩ z112 rfl ⟨rfl, rfl, rfl, rfl, trivial⟩ (fun _ => rfl)
 refine aB _ pW rfl rfl rfl rfl ⟨rfl, rfl⟩ (fun A w hW => gD _ w) ?_
 rintro v L ⟨rfl, rfl⟩
 refine CaseB.mk (fun h5 => ?_) (fun h5 => ?_)
 · obtain rfl := hno (fun h => by rw [h.2.2.2.1] at h5; cases h5)
   exact bC [96, 97, 98, 99] ⟨cU, cU, cU, cU, rfl, rfl⟩ z112 rfl ⟨rfl, rfl, rfl, rfl, trivial⟩ (fun _ => rfl)
 have hok : m.Valid ∧ m.closed = false ∧ bA t = true ∧ aW u = true ∧ ¬ t ∈ m.threads := ⟨kY h1, h4, by simpa using h2, by simpa using h5, by simpa using h3⟩
 rw [Chan.send, if_pos hok] at hp
 refine aB _ sY rfl rfl rfl rfl ⟨rfl, rfl⟩ (fun A w hW => mA m i s g w ⟨z39, z39, z39, trivial⟩ ⟨b1, b2, b3⟩) ?_
 rintro v L ⟨i1, s1, g1, rfl, rfl⟩
 refine CaseB.mk (fun h6 => ?_) (fun h6 => ?_)
 · have hg : 0 < m.getters.length := by simpa using h6
   rw [dif_pos hg] at hp
   subst hp
   refine aG aD aA rfl rfl rfl rfl rfl ⟨rfl, rfl⟩ z40 0 rfl z48 (fun ad => ?_)
   refine hY aA rfl rfl rfl rfl ⟨rfl, rfl⟩ rfl rfl z40 (1) (m.getters.length) ((m.getters.drop 1)).length rfl rfl z48 z48 z48 ?_
   refine aB _ hJ rfl rfl rfl rfl ⟨rfl, rfl⟩ (fun A w hW => cA (g1.cut 1 1) (m.getters.drop 1) w ⟨aO0 aD 1 (by omega) (hW.rdOwn 2 rfl), trivial⟩ (by first | omega | (simp; done) | (simp; omega))) ?_
   rintro v L ⟨g2, rfl, rfl⟩
   refine AllSl.mk fun r => ?_
   exact bC [2, 3, 1, 0] ⟨i1, s1, g2, r, rfl, rfl⟩ z128 rfl ⟨rfl, rfl, rfl, rfl, trivial⟩ (fun _ => rfl)
 have hg : ¬ 0 < m.getters.length := by simpa using h6
 rw [dif_neg hg] at hp
 refine CaseB.mk (fun h7 => ?_) (fun h7 => ?_)
 · have hi : (m.items.length : Int) < m.room := by simpa using h7
   rw [if_pos hi] at hp
   subst hp
   refine AllSl.mk fun r => ?_
   refine bZ aD aA (ys := [u]) rfl rfl rfl rfl rfl rfl rfl rfl rfl (by decide) ⟨rfl, rfl⟩ z44 z40 z48 z48 (fun i2 => ?_)
   refine aB _ sY rfl rfl rfl rfl ⟨rfl, rfl⟩ (fun A w hW => mA { m with items := m.items ++ [u] } i2 s1 g1 w ⟨z39, z39, z39, trivial⟩ ⟨by have := hok.1.r1; simp; omega, b2, b3⟩) ?_
   rintro v L ⟨i3, s3, g3, rfl, rfl⟩
   exact bC [0, 1, 2, 99] ⟨i3, s3, g3, cU, rfl, rfl⟩ z121 rfl ⟨rfl, rfl, rfl, rfl, trivial⟩ (fun _ => rfl)
 · have hi : ¬ (m.items.length : Int) < m.room := by simpa using h7
   rw [if_neg hi] at hp
   subst hp
   refine AllSl.mk fun r => ?_
   refine bZ hU aA (ys := [⟨t, u⟩]) rfl rfl rfl rfl rfl rfl rfl rfl rfl (by decide) ⟨rfl, rfl⟩ z44 z40 z48 z48 (fun s2 => ?_)
   have hs := cW hok.1.di
   refine aB _ sY rfl rfl rfl rfl ⟨rfl, rfl⟩ (fun A w hW => mA { m with senders := m.senders ++ [⟨t, u⟩] } i1 s2 g1 w ⟨z39, z39, z39, trivial⟩ ⟨b1, by simp [Chan.threads] at hs ⊢; omega, b3⟩) ?_
   rintro v L ⟨i3, s3, g3, rfl, rfl⟩
   exact bC [0, 1, 2, 99] ⟨i3, s3, g3, cU, rfl, rfl⟩ z121 rfl ⟨rfl, rfl, rfl, rfl, trivial⟩ (fun _ => rfl)
theorem mE0 (m : Chan) (i s g : Sl) (t u : Int) (w : World) (h : At w [slo i aJ 1 m.items, slo s jE 2 m.senders, slo g aJ 1 m.getters]) (hb : m.small) :
   Calls Tryz.prog 177 #[jP m i s g, .int .i64 t, .int .i64 u] w (Ret w (nM0 (m.send t u))) := by
 obtain ⟨b1, b2, b3⟩ := hb
 generalize hp : m.send t u = p
 have hno : ¬ (m.Valid ∧ m.closed = false ∧ bA t = true ∧ aW u = true ∧ ¬ t ∈ m.threads) → p = (.zero, [], false, false) := fun h => by rw [← hp, Chan.send, if_neg h]
 refine kD Tryz.func177 rfl aA w _ rfl _ rfl _ h z147 _ _ _ (by decide) ?_
 refine aB _ fO0 rfl rfl rfl rfl ⟨rfl, rfl⟩ (fun A w hW => tN m i s g w ⟨z39, z39, z39, trivial⟩ ⟨b1, b2, b3⟩) ?_
 rintro v L ⟨rfl, rfl⟩
 refine CaseB.mk (fun h1 => ?_) (fun h1 => ?_)
 · obtain rfl := hno (fun h => rA h1 h.1)
   refine AllSl.mk fun r => ?_
   exact bC [97, 98, 99, 0] ⟨cU, cU, cU, r, rfl, rfl⟩ z114 rfl ⟨rfl, rfl, rfl, rfl, trivial⟩ (fun _ => rfl)
 have h7 := cW (kY h1).di
 refine CaseB.mk (fun h4 => ?_) (fun h4 => ?_)
 · obtain rfl := hno (fun h => by rw [h.2.1] at h4; cases h4)
   refine AllSl.mk fun r => ?_
   exact bC [97, 98, 99, 0] ⟨cU, cU, cU, r, rfl, rfl⟩ z114 rfl ⟨rfl, rfl, rfl, rfl, trivial⟩ (fun _ => rfl)
 refine aB _ rT rfl rfl rfl rfl ⟨rfl, rfl⟩ (fun A w hW => fV _ w) ?_
 rintro v L ⟨rfl, rfl⟩
 refine CaseB.mk (fun h2 => ?_) (fun h2 => ?_)
 · obtain rfl := hno (fun h => by rw [h.2.2.1] at h2; cases h2)
   refine AllSl.mk fun r => ?_
   exact bC [97, 98, 99, 0] ⟨cU, cU, cU, r, rfl, rfl⟩ z114 rfl ⟨rfl, rfl, rfl, rfl, trivial⟩ (fun _ => rfl)
 refine aB _ pX rfl rfl rfl rfl ⟨rfl, rfl⟩ (fun A w hW => gE _ w) ?_
 rintro v L ⟨rfl, rfl⟩
 refine CaseB.mk (fun h5 => ?_) (fun h5 => ?_)
 · obtain rfl := hno (fun h => by rw [h.2.2.2.1] at h5; cases h5)
   refine AllSl.mk fun r => ?_
   exact bC [97, 98, 99, 0] ⟨cU, cU, cU, r, rfl, rfl⟩ z114 rfl ⟨rfl, rfl, rfl, rfl, trivial⟩ (fun _ => rfl)
 refine aB _ nG0 rfl rfl rfl rfl ⟨rfl, rfl⟩ (fun A w hW => zC m i s g t w ⟨z39, z39, z39, trivial⟩ ⟨b1, b2, b3⟩ (by simp [Chan.threads] at h7; omega)) ?_
 rintro v L ⟨rfl, rfl⟩
 refine CaseB.mk (fun h3 => ?_) (fun h3 => ?_)
 · obtain rfl := hno (fun h => h.2.2.2.2 (by simpa using h3))
   refine AllSl.mk fun r => ?_
   exact bC [97, 98, 99, 0] ⟨cU, cU, cU, r, rfl, rfl⟩ z114 rfl ⟨rfl, rfl, rfl, rfl, trivial⟩ (fun _ => rfl)
 have hok : m.Valid ∧ m.closed = false ∧ bA t = true ∧ aW u = true ∧ ¬ t ∈ m.threads := ⟨kY h1, h4, by simpa using h2, by simpa using h5, by simpa using h3⟩
 rw [Chan.send, if_pos hok] at hp
 refine aB _ fJ0 rfl rfl rfl rfl ⟨rfl, rfl⟩ (fun A w hW => aS0 m i s g w ⟨z39, z39, z39, trivial⟩ ⟨b1, b2, b3⟩) ?_
 rintro v L ⟨i1, s1, g1, rfl, rfl⟩
 refine CaseB.mk (fun h6 => ?_) (fun h6 => ?_)
 · have hg : 0 < m.getters.length := by simpa using h6
   rw [dif_pos hg] at hp
   subst hp
   refine AllSl.mk fun y0 => ?_
   refine hY aA rfl rfl rfl rfl ⟨rfl, rfl⟩ rfl rfl z40 (1) (m.getters.length) ((m.getters.drop 1)).length rfl rfl z48 z48 z48 ?_
   refine bZ aD aA (xs := []) rfl rfl rfl rfl rfl rfl rfl rfl rfl (by decide) ⟨rfl, rfl⟩ z44 (uR aD 1 (by omega) (hH 6 rfl)) z48 z48 (fun g2 => ?_)
   refine aE aA z107 z107 z107 200 [((2, 0), .v (.int .i64 m.room)), ((2, 1), .v (i1.val m.items.length)), ((2, 2), .v (s1.val m.senders.length)), ((2, 3), .v (g2.val (m.getters.drop 1).length)), ((2, 4), .v (.bool m.closed)), ((0, 3), .v (g.val m.getters.length))] [0, 1, 2, 3, 4, 5, 6] [_, _, _, _, _, _, _] z120 z137 ⟨rfl, rfl, rfl, rfl, rfl, rfl, rfl, trivial⟩ rfl ?_
   refine bM (ti := aU tab) aD aA rfl rfl rfl rfl rfl ⟨rfl, rfl⟩ z40 0 rfl z48 (fun ad => ?_)
   repeat' ((conv => whnf); (first
     | refine BothW.mk ?_ ?_
     | refine AllSl.mk fun y => ?_
     | fail))
   all_goals
     exact bC [2, 3, 1, 0] ⟨i1, s1, g2, _, rfl, rfl⟩ z128 rfl ⟨rfl, rfl, rfl, rfl, trivial⟩ (fun _ => rfl)
 have hg : ¬ 0 < m.getters.length := by simpa using h6
 rw [dif_neg hg] at hp
 refine CaseB.mk (fun h7 => ?_) (fun h7 => ?_)
 · have hi : (m.items.length : Int) < m.room := by simpa using h7
   rw [if_pos hi] at hp
   subst hp
   refine AllSl.mk fun r => ?_
   refine bZ aD aA (ys := [u]) rfl rfl rfl rfl rfl rfl rfl rfl rfl (by decide) ⟨rfl, rfl⟩ z44 z40 z48 z48 (fun i2 => ?_)
   refine AllSl.mk fun r => ?_
   exact bC [1, 3, 4, 0] ⟨i2, s1, g1, r, rfl, rfl⟩ z128 rfl ⟨rfl, rfl, rfl, rfl, trivial⟩ (fun _ => rfl)
 · have hi : ¬ (m.items.length : Int) < m.room := by simpa using h7
   rw [if_neg hi] at hp
   subst hp
   refine AllSl.mk fun r => ?_
   refine bZ hU aA (ys := [⟨t, u⟩]) rfl rfl rfl rfl rfl rfl rfl rfl rfl (by decide) ⟨rfl, rfl⟩ z44 z40 z48 z48 (fun s2 => ?_)
   refine AllSl.mk fun r => ?_
   exact bC [3, 1, 4, 0] ⟨i1, s2, g1, r, rfl, rfl⟩ z128 rfl ⟨rfl, rfl, rfl, rfl, trivial⟩ (fun _ => rfl)
def Chan.gItems (m : Chan) : List Int := m.items ++ (m.senders.take 1).map Letter.v
def Chan.gWho (m : Chan) : List Int := (m.senders.take 1).map Letter.t
def Chan.get (m : Chan) (t : Int) : Chan × Int × Int × List Int × Bool :=
 if m.Valid ∧ bA t = true ∧ ¬ t ∈ m.threads then
   if 0 < m.gItems.length then ({ m with items := m.gItems.drop 1, senders := m.senders.drop 1 }, m.gItems.headD 0, 1, m.gWho, true)
   else if m.closed = true then ({ m with items := [], senders := [] }, 0, 2, [], true)
   else ({ m with items := [], senders := [], getters := m.getters ++ [t] }, 0, 0, [], true)
 else (.zero, 0, 0, [], false)
def GetR (p : Chan × Int × Int × List Int × Bool) (v : Value) (L : List Fct) : Prop :=
 ∃ i s g r : Sl, v = .tuple #[jP p.1 i s g, .int .i64 p.2.1, .int .i64 p.2.2.1, r.val p.2.2.2.1.length, .bool p.2.2.2.2] ∧ L = [own i 3 aJ 1 p.1.items, own s 187 jE 2 p.1.senders, own g 3 aJ 1 p.1.getters, own r 3 aJ 1 p.2.2.2.1]
theorem cR0 {xs : List Int} (h : 0 < xs.length) : xs.headD 0 = xs[0] := by
 cases xs with
 | nil => simp at h
 | cons x r => rfl
theorem jY0 {α : Type} {xs : List α} (h : 0 < xs.length) : xs.take 1 = [xs[0]] := by
 cases xs with
 | nil => simp at h
 | cons x r => rfl
theorem gD0 {m : Chan} (h : 0 < m.senders.length) : m.gItems = m.items ++ [m.senders[0].v] := by rw [Chan.gItems, jY0 h]; rfl
theorem nN0 {m : Chan} (h : 0 < m.senders.length) : m.gWho = [m.senders[0].t] := by rw [Chan.gWho, jY0 h]; rfl
theorem gE0 {m : Chan} (h : m.senders = []) : m.gItems = m.items := by rw [Chan.gItems, h]; simp
theorem nO0 {m : Chan} (h : m.senders = []) : m.gWho = [] := by rw [Chan.gWho, h]; rfl
theorem get_c (m : Chan) (i s g : Sl) (t : Int) (w : World) (h : At w [slo i aJ 1 m.items, slo s jE 2 m.senders, slo g aJ 1 m.getters]) (hb : m.small) :
   Calls Tryz.prog 77 #[jP m i s g, .int .i64 t] w (Ret w (GetR (m.get t))) := by
 obtain ⟨b1, b2, b3⟩ := hb
 have bT : m.threads.length ≤ 8589934592 := by simp [Chan.threads]; omega
 generalize hp : m.get t = p
 have hno : ¬ (m.Valid ∧ bA t = true ∧ ¬ t ∈ m.threads) → p = (.zero, 0, 0, [], false) := fun h => by rw [← hp, Chan.get, if_neg h]
 refine cM Tryz.func77 rfl aA w _ rfl _ rfl _ h z147 _ _ (by decide) ?_
 refine aB _ fG0 rfl rfl rfl rfl ⟨rfl, rfl⟩ (fun A w hW => wF m i s g w ⟨z39, z39, z39, trivial⟩ ⟨b1, b2, b3⟩) ?_
 rintro v L ⟨rfl, rfl⟩
 refine CaseB.mk (fun h1 => ?_) (fun h1 => ?_)
 · obtain rfl := hno (fun h => rA h1 h.1)
   exact bC [96, 97, 98, 99] ⟨cU, cU, cU, cU, rfl, rfl⟩ z112 rfl ⟨rfl, rfl, rfl, rfl, trivial⟩ (fun _ => rfl)
 refine aB _ sZ rfl rfl rfl rfl ⟨rfl, rfl⟩ (fun A w hW => gN _ w) ?_
 rintro v L ⟨rfl, rfl⟩
 refine CaseB.mk (fun h2 => ?_) (fun h2 => ?_)
 · obtain rfl := hno (fun h => by rw [h.2.1] at h2; cases h2)
   exact bC [96, 97, 98, 99] ⟨cU, cU, cU, cU, rfl, rfl⟩ z112 rfl ⟨rfl, rfl, rfl, rfl, trivial⟩ (fun _ => rfl)
 refine aB _ iW0 rfl rfl rfl rfl ⟨rfl, rfl⟩ (fun A w hW => uQ m i s g w ⟨z39, z39, z39, trivial⟩ ⟨b1, b2, b3⟩) ?_
 rintro v L ⟨y, rfl, rfl⟩
 refine aB _ dV0 rfl rfl rfl rfl ⟨rfl, rfl⟩ (fun A w hW => jG y m.threads t w ⟨z39, trivial⟩ bT) ?_
 rintro v L ⟨rfl, rfl⟩
 refine CaseB.mk (fun h3 => ?_) (fun h3 => ?_)
 · obtain rfl := hno (fun h => h.2.2 (by simpa using h3))
   exact bC [96, 97, 98, 99] ⟨cU, cU, cU, cU, rfl, rfl⟩ z112 rfl ⟨rfl, rfl, rfl, rfl, trivial⟩ (fun _ => rfl)
 have hok : m.Valid ∧ bA t = true ∧ ¬ t ∈ m.threads := ⟨kY h1, by simpa using h2, by simpa using h3⟩
 have h6 := cW hok.1.di
 have hi4 : m.items.length ≤ 4 := by have := hok.1.it; have := hok.1.r1; omega
 simp only [Chan.threads, List.length_append, List.length_map] at h6
 rw [Chan.get, if_pos hok] at hp
 refine aB _ sY rfl rfl rfl rfl ⟨rfl, rfl⟩ (fun A w hW => mA m i s g w ⟨z39, z39, z39, trivial⟩ ⟨b1, b2, b3⟩) ?_
 rintro v L ⟨i1, s1, g1, rfl, rfl⟩
 refine CaseB.mk (fun h4 => ?_) (fun h4 => ?_)
 · have hs : 0 < m.senders.length := by simpa using h4
   have hI : 0 < (m.items ++ [(m.senders[0]'hs).v]).length := by simp
   rw [gD0 hs, nN0 hs, if_pos hI, cR0 hI] at hp
   subst hp
   refine aE aA z107 z107 z107 200 [((0, 2), .v (s1.val m.senders.length))] [1, 2, 3, 4, 5, 6] [_, _, _, _, _, _] z153 z156 z147 rfl ?_
   refine bM (ti := aU tab) hU aA rfl rfl rfl rfl rfl ⟨rfl, rfl⟩ z40 0 rfl z48 (fun ad => ?_)
   repeat' ((conv => whnf); (first
     | refine BothW.mk ?_ ?_
     | refine AllSl.mk fun y => ?_
     | (refine nH rfl rfl ?_; refine lN (ti := aU tab) aD aA (xs := m.items) (ys := [(m.senders[0]'hs).v]) rfl rfl rfl rfl rfl rfl rfl rfl rfl (by decide) ⟨rfl, rfl⟩ z44 z40 z48 z48 z105 (fun y => ?_))
     | fail))
   all_goals
     refine aG hU aA rfl rfl rfl rfl rfl ⟨rfl, rfl⟩ z40 0 rfl z48 (fun ad => ?_)
     refine AllSl.mk fun r => ?_
     refine hY aA rfl rfl rfl rfl ⟨rfl, rfl⟩ rfl rfl z40 (1) (m.senders.length) ((m.senders.drop 1)).length rfl rfl z48 z48 z48 ?_
     refine CaseB.mk (fun h5 => ?_) (fun h5 => by simp at h5)
     refine aG aD aA rfl rfl rfl rfl rfl ⟨rfl, rfl⟩ z40 0 rfl z48 (fun ad => ?_)
     refine hY aA rfl rfl rfl rfl ⟨rfl, rfl⟩ rfl rfl z40 (1) ((m.items ++ [(m.senders[0]'hs).v]).length) (((m.items ++ [(m.senders[0]'hs).v]).drop 1)).length rfl rfl z48 z48 z48 ?_
     refine aB _ sY rfl rfl rfl rfl ⟨rfl, rfl⟩ (fun A w hW => mA { m with items := (m.items ++ [(m.senders[0]'hs).v]).drop 1, senders := m.senders.drop 1 } (y.cut 1 1) (s1.cut 1 2) g1 w ⟨aO0 aD 1 (by simp) (hW.rdOwn 1 rfl), aO0 hU 1 (by omega) (hW.rdOwn 3 rfl), hW.rdOwn 4 rfl, trivial⟩ ⟨by simp; omega, by simp; omega, b3⟩) ?_
     rintro v L ⟨i3, s3, g3, rfl, rfl⟩
     exact bC [0, 1, 2, 3] ⟨i3, s3, g3, r, rfl, rfl⟩ z128 rfl ⟨rfl, rfl, rfl, rfl, trivial⟩ (fun _ => rfl)
 · have hs : m.senders = [] := by simpa using h4
   rw [gE0 hs, nO0 hs] at hp
   refine CaseB.mk (fun h5 => ?_) (fun h5 => ?_)
   · have hI : 0 < m.items.length := by simpa using h5
     rw [if_pos hI, cR0 hI] at hp
     subst hp
     refine aG aD aA rfl rfl rfl rfl rfl ⟨rfl, rfl⟩ z40 0 rfl z48 (fun ad => ?_)
     refine hY aA rfl rfl rfl rfl ⟨rfl, rfl⟩ rfl rfl z40 (1) (m.items.length) ((m.items.drop 1)).length rfl rfl z48 z48 z48 ?_
     refine aB _ sY rfl rfl rfl rfl ⟨rfl, rfl⟩ (fun A w hW => mA { m with items := m.items.drop 1 } (i1.cut 1 1) s1 g1 w ⟨aO0 aD 1 (by omega) (hW.rdOwn 0 rfl), hW.rdOwn 1 rfl, hW.rdOwn 2 rfl, trivial⟩ ⟨by simp; omega, b2, b3⟩) ?_
     rintro v L ⟨i3, s3, g3, rfl, rfl⟩
     exact bC [0, 1, 2, 99] ⟨i3, s3, g3, cU, rfl, rfl⟩ ⟨.inl ⟨_, rfl, z75⟩, .inl ⟨_, rfl, z75⟩, .inl ⟨_, rfl, z75⟩, .inr z146, trivial⟩ rfl ⟨rfl, rfl, rfl, rfl, trivial⟩ (fun _ => z75)
   · have hI : ¬ 0 < m.items.length := by simpa using h5
     have hI' : m.items = [] := by simpa using h5
     rw [if_neg hI] at hp
     refine CaseB.mk (fun h6 => ?_) (fun h6 => ?_)
     · rw [if_pos h6] at hp
       subst hp
       exact bC [0, 1, 2, 99] ⟨i1, s1, g1, cU, rfl, rfl⟩ z122 rfl ⟨rfl, rfl, rfl, rfl, trivial⟩ (fun _ => z73)
     · rw [if_neg (by simp [h6])] at hp
       subst hp
       refine AllSl.mk fun r => ?_
       refine bZ aD aA (ys := [t]) rfl rfl rfl rfl rfl rfl rfl rfl rfl (by decide) ⟨rfl, rfl⟩ z44 z40 z48 z48 (fun g2 => ?_)
       refine aB _ sY rfl rfl rfl rfl ⟨rfl, rfl⟩ (fun A w hW => mA { m with getters := m.getters ++ [t] } i1 s1 g2 w ⟨z39, z39, z39, trivial⟩ ⟨b1, b2, by simp; omega⟩) ?_
       rintro v L ⟨i3, s3, g3, rfl, rfl⟩
       exact bC [0, 1, 2, 99] ⟨i3, s3, g3, cU, rfl, rfl⟩ z122 rfl ⟨rfl, rfl, rfl, rfl, trivial⟩ (fun _ => z73)
theorem oL0 (m : Chan) (i s g : Sl) (t : Int) (w : World) (h : At w [slo i aJ 1 m.items, slo s jE 2 m.senders, slo g aJ 1 m.getters]) (hb : m.small) :
   Calls Tryz.prog 178 #[jP m i s g, .int .i64 t] w (Ret w (GetR (m.get t))) := by
 obtain ⟨b1, b2, b3⟩ := hb
 generalize hp : m.get t = p
 have hno : ¬ (m.Valid ∧ bA t = true ∧ ¬ t ∈ m.threads) → p = (.zero, 0, 0, [], false) := fun h => by rw [← hp, Chan.get, if_neg h]
 refine cM Tryz.func178 rfl aA w _ rfl _ rfl _ h z147 _ _ (by decide) ?_
 refine AllSl.mk fun n0 => ?_
 refine aB _ fO0 rfl rfl rfl rfl ⟨rfl, rfl⟩ (fun A w hW => tN m i s g w ⟨z39, z39, z39, trivial⟩ ⟨b1, b2, b3⟩) ?_
 rintro v L ⟨rfl, rfl⟩
 refine CaseB.mk (fun h1 => ?_) (fun h1 => ?_)
 · obtain rfl := hno (fun h => rA h1 h.1)
   exact bC [97, 98, 99, 0] ⟨cU, cU, cU, n0, rfl, rfl⟩ z114 rfl ⟨rfl, rfl, rfl, rfl, trivial⟩ (fun _ => rfl)
 have h6 := cW (kY h1).di
 have hi4 : m.items.length ≤ 4 := by have := (kY h1).it; have := (kY h1).r1; omega
 simp only [Chan.threads, List.length_append, List.length_map] at h6
 refine aB _ rT rfl rfl rfl rfl ⟨rfl, rfl⟩ (fun A w hW => fV _ w) ?_
 rintro v L ⟨rfl, rfl⟩
 refine CaseB.mk (fun h2 => ?_) (fun h2 => ?_)
 · obtain rfl := hno (fun h => by rw [h.2.1] at h2; cases h2)
   exact bC [97, 98, 99, 0] ⟨cU, cU, cU, n0, rfl, rfl⟩ z114 rfl ⟨rfl, rfl, rfl, rfl, trivial⟩ (fun _ => rfl)
 refine aB _ nG0 rfl rfl rfl rfl ⟨rfl, rfl⟩ (fun A w hW => zC m i s g t w ⟨z39, z39, z39, trivial⟩ ⟨b1, b2, b3⟩ (by omega)) ?_
 rintro v L ⟨rfl, rfl⟩
 refine CaseB.mk (fun h3 => ?_) (fun h3 => ?_)
 · obtain rfl := hno (fun h => h.2.2 (by simpa using h3))
   exact bC [97, 98, 99, 0] ⟨cU, cU, cU, n0, rfl, rfl⟩ z114 rfl ⟨rfl, rfl, rfl, rfl, trivial⟩ (fun _ => rfl)
 have hok : m.Valid ∧ bA t = true ∧ ¬ t ∈ m.threads := ⟨kY h1, by simpa using h2, by simpa using h3⟩
 rw [Chan.get, if_pos hok] at hp
 refine aB _ fJ0 rfl rfl rfl rfl ⟨rfl, rfl⟩ (fun A w hW => aS0 m i s g w ⟨z39, z39, z39, trivial⟩ ⟨b1, b2, b3⟩) ?_
 rintro v L ⟨i1, s1, g1, rfl, rfl⟩
 refine CaseB.mk (fun h4 => ?_) (fun h4 => ?_)
 · have hs : 0 < m.senders.length := by simpa using h4
   have hI : 0 < (m.items ++ [(m.senders[0]'hs).v]).length := by simp
   rw [gD0 hs, nN0 hs, if_pos hI, cR0 hI] at hp
   subst hp
   refine aG hU aA rfl rfl rfl rfl rfl ⟨rfl, rfl⟩ z40 0 rfl z48 (fun ad => ?_)
   refine AllSl.mk fun y => ?_
   refine bZ aD aA (xs := m.items) (ys := [(m.senders[0]'hs).v]) rfl rfl rfl rfl rfl rfl rfl rfl rfl (by decide) ⟨rfl, rfl⟩ z44 z40 z48 z48 (fun i2 => ?_)
   refine AllSl.mk fun y => ?_
   refine hY aA rfl rfl rfl rfl ⟨rfl, rfl⟩ rfl rfl z40 (1) (m.senders.length) ((m.senders.drop 1)).length rfl rfl z48 z48 z48 ?_
   refine bZ hU aA (xs := []) rfl rfl rfl rfl rfl rfl rfl rfl rfl (by decide) ⟨rfl, rfl⟩ z44 (uR hU 1 (by omega) (by first | exact hH 6 rfl | exact hH 7 rfl | exact hH 8 rfl | exact hH 5 rfl)) z48 z48 (fun s2 => ?_)
   refine aG hU aA rfl rfl rfl rfl rfl ⟨rfl, rfl⟩ z40 0 rfl z48 (fun ad => ?_)
   refine AllSl.mk fun y => ?_
   refine bZ aD aA (xs := []) (ys := [(m.senders[0]'hs).t]) rfl rfl rfl rfl rfl rfl rfl rfl rfl (by decide) ⟨rfl, rfl⟩ z44 z40 z48 z48 (fun r => ?_)
   refine CaseB.mk (fun h5 => ?_) (fun h5 => by simp at h5)
   refine AllSl.mk fun y => ?_
   refine hY aA rfl rfl rfl rfl ⟨rfl, rfl⟩ rfl rfl z40 (1) ((m.items ++ [(m.senders[0]'hs).v]).length) (((m.items ++ [(m.senders[0]'hs).v]).drop 1)).length rfl rfl z48 z48 z48 ?_
   refine bZ aD aA (xs := []) rfl rfl rfl rfl rfl rfl rfl rfl rfl (by decide) ⟨rfl, rfl⟩ z44 (uR aD 1 (by simp) (by first | exact bU 1 rfl | exact bU 2 rfl | exact bU 3 rfl | exact bU 4 rfl | exact bU 5 rfl)) z48 z48 (fun i3 => ?_)
   refine aE aA z107 z107 z107 200 [((2, 0), .v (.int .i64 m.room)), ((2, 1), .v (i3.val ((m.items ++ [(m.senders[0]'hs).v]).drop 1).length)), ((2, 2), .v (s2.val (m.senders.drop 1).length)), ((2, 3), .v (g1.val m.getters.length)), ((2, 4), .v (.bool m.closed))] [0, 1, 2, 3, 4, 5, 6, 7, 8, 9, 10] [_, _, _, _, _, _, _, _, _, _, _] z123 z140 ⟨rfl, rfl, rfl, rfl, rfl, rfl, rfl, rfl, rfl, rfl, rfl, trivial⟩ rfl ?_
   refine bM (ti := aU tab) aD aA rfl rfl rfl rfl rfl ⟨rfl, rfl⟩ z40 0 rfl z48 (fun ad => ?_)
   exact bC [0, 3, 7, 1] ⟨i3, s2, g1, r, rfl, rfl⟩ z128 rfl ⟨rfl, rfl, rfl, rfl, trivial⟩ (fun _ => rfl)
 · have hs : m.senders = [] := by simpa using h4
   rw [gE0 hs, nO0 hs] at hp
   refine CaseB.mk (fun h5 => ?_) (fun h5 => ?_)
   · have hI : 0 < m.items.length := by simpa using h5
     rw [if_pos hI, cR0 hI] at hp
     subst hp
     refine AllSl.mk fun y => ?_
     refine hY aA rfl rfl rfl rfl ⟨rfl, rfl⟩ rfl rfl z40 (1) (m.items.length) ((m.items.drop 1)).length rfl rfl z48 z48 z48 ?_
     refine bZ aD aA (xs := []) rfl rfl rfl rfl rfl rfl rfl rfl rfl (by decide) ⟨rfl, rfl⟩ z44 (uR aD 1 (by omega) (by first | exact bU 1 rfl | exact bU 2 rfl)) z48 z48 (fun i3 => ?_)
     refine aE aA z107 z107 z107 200 [((2, 0), .v (.int .i64 m.room)), ((2, 1), .v (i3.val (m.items.drop 1).length)), ((2, 2), .v (s1.val m.senders.length)), ((2, 3), .v (g1.val m.getters.length)), ((2, 4), .v (.bool m.closed))] [0, 1, 2, 3, 4, 5, 6, 7] [_, _, _, _, _, _, _, _] z123 z140 ⟨rfl, rfl, rfl, rfl, rfl, rfl, rfl, rfl, trivial⟩ rfl ?_
     refine bM (ti := aU tab) aD aA rfl rfl rfl rfl rfl ⟨rfl, rfl⟩ z40 0 rfl z48 (fun ad => ?_)
     exact bC [0, 2, 3, 4] ⟨i3, s1, g1, n0, rfl, rfl⟩ z130 rfl ⟨rfl, rfl, rfl, rfl, trivial⟩ (fun _ => z75)
   · have hI : ¬ 0 < m.items.length := by simpa using h5
     have hI' : m.items = [] := by simpa using h5
     rw [if_neg hI] at hp
     refine CaseB.mk (fun h6 => ?_) (fun h6 => ?_)
     · rw [if_pos h6] at hp
       subst hp
       exact bC [0, 1, 2, 3] ⟨i1, s1, g1, n0, rfl, rfl⟩ z131 rfl ⟨rfl, rfl, rfl, rfl, trivial⟩ (fun _ => z73)
     · rw [if_neg (by simp [h6])] at hp
       subst hp
       refine AllSl.mk fun r => ?_
       refine bZ aD aA (ys := [t]) rfl rfl rfl rfl rfl rfl rfl rfl rfl (by decide) ⟨rfl, rfl⟩ z44 z40 z48 z48 (fun g2 => ?_)
       exact bC [2, 3, 0, 4] ⟨i1, s1, g2, n0, rfl, rfl⟩ z131 rfl ⟨rfl, rfl, rfl, rfl, trivial⟩ (fun _ => z73)
def Chan.close (m : Chan) : Chan × List Int × Bool :=
 if m.Valid ∧ m.closed = false ∧ m.senders = [] then ({ m with senders := [], getters := [], closed := true }, m.getters, true) else (.zero, [], false)
def jZ0 (p : Chan × List Int × Bool) (v : Value) (L : List Fct) : Prop :=
 ∃ i s g r : Sl, v = .tuple #[jP p.1 i s g, r.val p.2.1.length, .bool p.2.2] ∧ L = [own i 3 aJ 1 p.1.items, own s 187 jE 2 p.1.senders, own g 3 aJ 1 p.1.getters, own r 3 aJ 1 p.2.1]
theorem mF0 (m : Chan) (i s g : Sl) (w : World) (h : At w [slo i aJ 1 m.items, slo s jE 2 m.senders, slo g aJ 1 m.getters]) (hb : m.small) :
   Calls Tryz.prog 78 #[jP m i s g] w (Ret w (jZ0 m.close)) := by
 obtain ⟨b1, b2, b3⟩ := hb
 generalize hp : m.close = p
 have hno : ¬ (m.Valid ∧ m.closed = false ∧ m.senders = []) → p = (.zero, [], false) := fun h => by rw [← hp, Chan.close, if_neg h]
 refine bV Tryz.func78 rfl aA w _ rfl _ rfl _ h z147 _ (by decide) ?_
 refine aB _ fG0 rfl rfl rfl rfl ⟨rfl, rfl⟩ (fun A w hW => wF m i s g w ⟨z39, z39, z39, trivial⟩ ⟨b1, b2, b3⟩) ?_
 rintro v L ⟨rfl, rfl⟩
 refine CaseB.mk (fun h1 => ?_) (fun h1 => ?_)
 · obtain rfl := hno (fun h => rA h1 h.1)
   exact bC [96, 97, 98, 99] ⟨cU, cU, cU, cU, rfl, rfl⟩ z112 rfl ⟨rfl, rfl, rfl, rfl, trivial⟩ (fun _ => rfl)
 refine CaseB.mk (fun h2 => ?_) (fun h2 => ?_)
 · obtain rfl := hno (fun h => by rw [h.2.1] at h2; cases h2)
   exact bC [96, 97, 98, 99] ⟨cU, cU, cU, cU, rfl, rfl⟩ z112 rfl ⟨rfl, rfl, rfl, rfl, trivial⟩ (fun _ => rfl)
 refine CaseB.mk (fun h3 => ?_) (fun h3 => ?_)
 · obtain rfl := hno (fun h => by rw [h.2.2] at h3; simp at h3)
   exact bC [96, 97, 98, 99] ⟨cU, cU, cU, cU, rfl, rfl⟩ z112 rfl ⟨rfl, rfl, rfl, rfl, trivial⟩ (fun _ => rfl)
 have hs : m.senders = [] := by simpa using h3
 rw [Chan.close, if_pos ⟨kY h1, h2, hs⟩] at hp
 subst hp
 refine aB _ sY rfl rfl rfl rfl ⟨rfl, rfl⟩ (fun A w hW => mA m i s g w ⟨z39, z39, z39, trivial⟩ ⟨b1, b2, b3⟩) ?_
 rintro v L ⟨i1, s1, g1, rfl, rfl⟩
 exact bC [0, 1, 99, 2] ⟨i1, s1, cU, g1, rfl, rfl⟩ ⟨.inl ⟨_, rfl, z75⟩, .inl ⟨_, rfl, z75⟩, .inr z146, .inl ⟨_, rfl, z75⟩, trivial⟩ rfl ⟨rfl, rfl, rfl, rfl, trivial⟩ (fun _ => z75)
theorem kA0 (m : Chan) (i s g : Sl) (w : World) (h : At w [slo i aJ 1 m.items, slo s jE 2 m.senders, slo g aJ 1 m.getters]) (hb : m.small) :
   Calls Tryz.prog 179 #[jP m i s g] w (Ret w (jZ0 m.close)) := by
 obtain ⟨b1, b2, b3⟩ := hb
 generalize hp : m.close = p
 have hno : ¬ (m.Valid ∧ m.closed = false ∧ m.senders = []) → p = (.zero, [], false) := fun h => by rw [← hp, Chan.close, if_neg h]
 refine bV Tryz.func179 rfl aA w _ rfl _ rfl _ h z147 _ (by decide) ?_
 refine aB _ fO0 rfl rfl rfl rfl ⟨rfl, rfl⟩ (fun A w hW => tN m i s g w ⟨z39, z39, z39, trivial⟩ ⟨b1, b2, b3⟩) ?_
 rintro v L ⟨rfl, rfl⟩
 refine CaseB.mk (fun h1 => ?_) (fun h1 => ?_)
 · obtain rfl := hno (fun h => rA h1 h.1)
   refine AllSl.mk fun r => ?_
   exact bC [96, 97, 98, 0] ⟨cU, cU, cU, r, rfl, rfl⟩ z114 rfl ⟨rfl, rfl, rfl, rfl, trivial⟩ (fun _ => rfl)
 refine CaseB.mk (fun h2 => ?_) (fun h2 => ?_)
 · obtain rfl := hno (fun h => by rw [h.2.1] at h2; cases h2)
   refine AllSl.mk fun r => ?_
   exact bC [96, 97, 98, 0] ⟨cU, cU, cU, r, rfl, rfl⟩ z114 rfl ⟨rfl, rfl, rfl, rfl, trivial⟩ (fun _ => rfl)
 refine CaseB.mk (fun h3 => ?_) (fun h3 => ?_)
 · obtain rfl := hno (fun h => by rw [h.2.2] at h3; simp at h3)
   refine AllSl.mk fun r => ?_
   exact bC [96, 97, 98, 0] ⟨cU, cU, cU, r, rfl, rfl⟩ z114 rfl ⟨rfl, rfl, rfl, rfl, trivial⟩ (fun _ => rfl)
 have hs : m.senders = [] := by simpa using h3
 rw [Chan.close, if_pos ⟨kY h1, h2, hs⟩] at hp
 subst hp
 refine aB _ fJ0 rfl rfl rfl rfl ⟨rfl, rfl⟩ (fun A w hW => aS0 m i s g w ⟨z39, z39, z39, trivial⟩ ⟨b1, b2, b3⟩) ?_
 rintro v L ⟨i1, s1, g1, rfl, rfl⟩
 refine AllSl.mk fun g2 => ?_
 refine aE aA z107 z107 z107 200 [((2, 0), .v (.int .i64 m.room)), ((2, 1), .v (i1.val m.items.length)), ((2, 2), .v (s1.val m.senders.length)), ((2, 3), .v (g2.val 0)), ((2, 4), .lit true), ((0, 3), .v (g.val m.getters.length))] [0, 1, 2, 3, 4, 5, 6] [_, _, _, _, _, _, _] z120 z137 ⟨rfl, rfl, rfl, rfl, rfl, rfl, rfl, trivial⟩ rfl ?_
 refine AllSl.mk fun y => ?_
 refine lN (ti := aU tab) aD aA (xs := []) rfl rfl rfl rfl rfl rfl rfl rfl rfl (by decide) ⟨rfl, rfl⟩ z44 z40 z48 z48 z105 (fun r => ?_)
 exact bC [2, 3, 1, 0] ⟨i1, s1, g2, r, rfl, rfl⟩ z130 rfl ⟨rfl, rfl, rfl, rfl, trivial⟩ (fun _ => z75)
def Chan.small8 (m : Chan) : Prop := m.items.length ≤ 8 ∧ m.senders.length ≤ 8 ∧ m.getters.length ≤ 8
theorem Chan.small8.small {m : Chan} (h : m.small8) : m.small := ⟨by have := h.1; omega, by have := h.2.1; omega, by have := h.2.2; omega⟩
theorem Chan.Valid.len {m : Chan} (h : m.Valid) : m.items.length ≤ 4 ∧ m.senders.length + m.getters.length ≤ 6 := by
 have h1 := cW h.di
 have := h.it
 have := h.r1
 simp only [Chan.threads, List.length_append, List.length_map] at h1
 omega
theorem pA {xs ys : List Int} (h : ys.Sublist xs) (hd : bD xs = true) : bD ys = true := by
 simp only [bD, decide_eq_true_eq] at hd ⊢
 exact ⟨hd.1.sublist h, fun x hx => hd.2 x (h.subset hx)⟩
theorem gU {xs : List Int} {t : Int} (hd : bD xs = true) (h1 : bA t = true) (h2 : ¬ t ∈ xs) : bD (xs ++ [t]) = true := by
 simp only [bD, decide_eq_true_eq] at hd ⊢
 refine ⟨?_, fun x hx => ?_⟩
 · rw [List.nodup_append]
   refine ⟨hd.1, by simp, fun a ha b hb => ?_⟩
   simp at hb; subst hb
   rintro rfl; exact h2 ha
 · rcases List.mem_append.1 hx with hx | hx
   · exact hd.2 x hx
   · simp at hx; subst hx; exact h1
theorem bA0 {m : Chan} {t u : Int} (h : (m.send t u).2.2.2 = true) : m.Valid ∧ m.closed = false ∧ bA t = true ∧ aW u = true ∧ ¬ t ∈ m.threads := by
 rw [Chan.send] at h
 split at h
 · assumption
 · cases h
theorem oM0 {m : Chan} {t : Int} (h : (m.get t).2.2.2.2 = true) : m.Valid ∧ bA t = true ∧ ¬ t ∈ m.threads := by
 rw [Chan.get] at h
 split at h
 · assumption
 · cases h
theorem xJ {m : Chan} (h : m.close.2.2 = true) : m.Valid ∧ m.closed = false ∧ m.senders = [] := by
 rw [Chan.close] at h
 split at h
 · assumption
 · cases h
theorem eJ0 {m : Chan} {t u : Int} (h : (m.send t u).2.2.2 = true) : (m.send t u).1.Valid := by
 have hc := bA0 h
 obtain ⟨hv, h2, h3, h4, h5⟩ := hc
 rw [Chan.send, if_pos ⟨hv, h2, h3, h4, h5⟩]
 split
 · rename_i hg
   have hg' : m.getters ≠ [] := fun e => by rw [e] at hg; simp at hg
   have hs : m.senders = [] := Classical.byContradiction fun hn => hg' (hv.se hn).2.1
   refine ⟨hv.r0, hv.r1, hv.it, hv.iv, hv.sv, pA ?_ hv.di, fun hn => absurd hs hn, fun _ => hv.ge hg'⟩
   exact List.Sublist.append (List.Sublist.refl _) (List.drop_sublist _ _)
 · rename_i hg
   have hg' : m.getters = [] := by simpa using hg
   split
   · rename_i hi
     have hs : m.senders = [] := Classical.byContradiction fun hn => by have := (hv.se hn).1; omega
     refine ⟨hv.r0, hv.r1, by simp; omega, fun x hx => ?_, hv.sv, hv.di, fun hn => absurd hs hn, fun hn => absurd hg' hn⟩
     rcases List.mem_append.1 hx with hx | hx
     · exact hv.iv x hx
     · simp at hx; subst hx; exact h4
   · rename_i hi
     have := hv.it
     refine ⟨hv.r0, hv.r1, hv.it, hv.iv, fun x hx => ?_, ?_, fun _ => ⟨by simp; omega, hg', h2⟩, fun hn => absurd hg' hn⟩
     · rcases List.mem_append.1 hx with hx | hx
       · exact hv.sv x hx
       · simp at hx; subst hx; exact h4
     · have e : (Chan.threads { m with senders := m.senders ++ [⟨t, u⟩] }) = m.threads ++ [t] := by simp [Chan.threads, hg']
       rw [e]
       exact gU hv.di h3 h5
theorem hF0 {m : Chan} {t : Int} (h : (m.get t).2.2.2.2 = true) : (m.get t).1.Valid := by
 obtain ⟨hv, h3, h5⟩ := oM0 h
 rw [Chan.get, if_pos ⟨hv, h3, h5⟩]
 split
 · rename_i hI
   have hg : m.getters = [] := Classical.byContradiction fun hn => by
     have h1 := (hv.ge hn).1
     have hs : m.senders = [] := Classical.byContradiction fun hs => hn (hv.se hs).2.1
     rw [Chan.gItems, h1, hs] at hI
     simp at hI
   have hall : ∀ x ∈ m.gItems, aW x = true := fun x hx => by
     rcases List.mem_append.1 hx with hx | hx
     · exact hv.iv x hx
     · obtain ⟨l, hl, rfl⟩ := List.mem_map.1 hx
       exact hv.sv l (List.mem_of_mem_take hl)
   have hlen : ((m.gItems.drop 1).length : Int) ≤ m.room ∧ (m.senders ≠ [] → ((m.gItems.drop 1).length : Int) = m.room) := by
     have := hv.it
     cases hs : m.senders with
     | nil => simp [Chan.gItems, hs]; omega
     | cons a r => have := (hv.se (by simp [hs])).1; simp [Chan.gItems, hs]; omega
   refine ⟨hv.r0, hv.r1, hlen.1, fun x hx => hall x (List.mem_of_mem_drop hx), fun l hl => hv.sv l (List.mem_of_mem_drop hl), pA ?_ hv.di, fun hn => ?_, fun hn => absurd hg hn⟩
   · exact List.Sublist.append (List.Sublist.map _ (List.drop_sublist _ _)) (List.Sublist.refl _)
   · have hs : m.senders ≠ [] := fun e => by rw [e] at hn; simp at hn
     exact ⟨hlen.2 hs, hg, (hv.se hs).2.2⟩
 · rename_i hI
   have hI2 : m.items = [] ∧ m.senders = [] := by
     simp [Chan.gItems] at hI
     refine ⟨hI.1, ?_⟩
     cases hs : m.senders with
     | nil => rfl
     | cons a r => simp [hs] at hI
   have e : ({ m with items := [], senders := [] } : Chan) = m := by rw [← hI2.1]; cases m; simp at hI2; simp [hI2]
   split
   · rw [e]; exact hv
   · rename_i hcl
     have hcl' : m.closed = false := by simpa using hcl
     refine ⟨hv.r0, hv.r1, by have := hv.r0; simpa using this, by simp, by simp, ?_, fun hn => absurd rfl hn, fun _ => ⟨rfl, hcl'⟩⟩
     have e2 : (Chan.threads { m with items := [], senders := [], getters := m.getters ++ [t] }) = m.threads ++ [t] := by simp [Chan.threads, hI2.2]
     rw [e2]
     exact gU hv.di h3 h5
theorem cS0 {m : Chan} (h : m.close.2.2 = true) : m.close.1.Valid := by
 obtain ⟨hv, h1, h2⟩ := xJ h
 rw [Chan.close, if_pos ⟨hv, h1, h2⟩]
 refine ⟨hv.r0, hv.r1, hv.it, hv.iv, by simp, ?_, fun hn => absurd rfl hn, fun hn => absurd rfl hn⟩
 simp [Chan.threads, bD]
def lW (p : Prog) (t : Nat) (a : Int) : Int := if a = ((p.threads.getD t []).length : Int) then 3 else 0
def goM (p : Prog) (s : State) (t : Int) : State :=
 { s with places := s.places.set t.toNat (s.places.getD t.toNat 0 + 1), status := s.status.set t.toNat (lW p t.toNat (s.places.getD t.toNat 0 + 1)) }
def onM (p : Prog) (who : List Int) (s : State) : State := who.foldl (goM p) s
def bB (s : State) (t st : Int) : State := { s with status := s.status.set t.toNat st }
theorem xK (p : Prog) (s : State) (t : Int) (u : Nat) (h0 : 0 ≤ t) : (goM p s t).places[u]? = if (u : Int) = t then s.places[u]?.map (· + 1) else s.places[u]? := by
 obtain ⟨k, rfl⟩ : ∃ k : Nat, t = k := ⟨_, (Int.toNat_of_nonneg h0).symm⟩
 simp only [goM, Int.toNat_natCast, List.getElem?_set]
 by_cases e : k = u
 · subst e
   simp only [if_true]
   by_cases hl : k < s.places.length
   · simp [hl]
   · simp [hl]
 · have e' : ¬ (u : Int) = k := by omega
   simp only [e, e', if_false]
theorem eK0 (p : Prog) (s : State) (t : Int) (u : Nat) (h0 : 0 ≤ t) : (goM p s t).status[u]? = if (u : Int) = t then s.status[u]?.map (fun _ => lW p u (s.places.getD u 0 + 1)) else s.status[u]? := by
 obtain ⟨k, rfl⟩ : ∃ k : Nat, t = k := ⟨_, (Int.toNat_of_nonneg h0).symm⟩
 simp only [goM, Int.toNat_natCast, List.getElem?_set]
 by_cases e : k = u
 · subst e
   simp only [if_true]
   by_cases hl : k < s.status.length
   · simp [hl]
   · simp [hl]
 · have e' : ¬ (u : Int) = k := by omega
   simp only [e, e', if_false]
theorem mX (p : Prog) : ∀ (who : List Int) (s : State), who.Nodup → (∀ x ∈ who, 0 ≤ x) → ∀ u : Nat, (onM p who s).places[u]? = if (u : Int) ∈ who then s.places[u]?.map (· + 1) else s.places[u]?
 | [], s, _, _, u => by simp [onM]
 | x :: r, s, hd, h0, u => by
   have hd' := List.nodup_cons.1 hd
   have ih := mX p r (goM p s x) hd'.2 (fun y hy => h0 y (List.mem_cons_of_mem _ hy)) u
   have e : onM p (x :: r) s = onM p r (goM p s x) := rfl
   rw [e, ih, xK p s x u (h0 x (by simp))]
   by_cases h1 : (u : Int) = x
   · have h2 : ¬ (u : Int) ∈ r := fun h => hd'.1 (h1 ▸ h)
     rw [if_neg h2, if_pos h1, if_pos (by simp [h1])]
   · rw [if_neg h1]
     by_cases h2 : (u : Int) ∈ r
     · rw [if_pos h2, if_pos (List.mem_cons_of_mem _ h2)]
     · rw [if_neg h2, if_neg (by simp [h1, h2])]
theorem pB (p : Prog) : ∀ (who : List Int) (s : State), who.Nodup → (∀ x ∈ who, 0 ≤ x) → ∀ u : Nat, (onM p who s).status[u]? = if (u : Int) ∈ who then s.status[u]?.map (fun _ => lW p u (s.places.getD u 0 + 1)) else s.status[u]?
 | [], s, _, _, u => by simp [onM]
 | x :: r, s, hd, h0, u => by
   have hd' := List.nodup_cons.1 hd
   have ih := pB p r (goM p s x) hd'.2 (fun y hy => h0 y (List.mem_cons_of_mem _ hy)) u
   have e : onM p (x :: r) s = onM p r (goM p s x) := rfl
   rw [e, ih, eK0 p s x u (h0 x (by simp))]
   by_cases h1 : (u : Int) = x
   · have h2 : ¬ (u : Int) ∈ r := fun h => hd'.1 (h1 ▸ h)
     rw [if_neg h2, if_pos h1, if_pos (by simp [h1])]
   · rw [if_neg h1]
     by_cases h2 : (u : Int) ∈ r
     · rw [if_pos h2, if_pos (List.mem_cons_of_mem _ h2)]
       have h3 : (goM p s x).places.getD u 0 = s.places.getD u 0 := by
         rw [List.getD_eq_getElem?_getD, List.getD_eq_getElem?_getD, xK p s x u (h0 x (by simp)), if_neg h1]
       rw [h3]
     · rw [if_neg h2, if_neg (by simp [h1, h2])]
theorem mY (p : Prog) : ∀ (who : List Int) (s : State), ∃ pl st, onM p who s = { s with places := pl, status := st } ∧ pl.length = s.places.length ∧ st.length = s.status.length
 | [], s => ⟨s.places, s.status, rfl, rfl, rfl⟩
 | x :: r, s => by
   obtain ⟨pl, st, h, h1, h2⟩ := mY p r (goM p s x)
   refine ⟨pl, st, ?_, ?_, ?_⟩
   · have e : onM p (x :: r) s = onM p r (goM p s x) := rfl
     rw [e, h]; rfl
   · rw [h1]; simp [goM]
   · rw [h2]; simp [goM]
def Swap {β : Type} (es es' fx fx' : List β) : Prop := ∃ A B, es = A ++ fx ++ B ∧ es' = A ++ fx' ++ B
theorem Swap.l {β : Type} {es es' fx fx' : List β} (h : Swap es es' fx fx') (Q : List β) : Swap (es ++ Q) (es' ++ Q) fx fx' := by
 obtain ⟨A, B, rfl, rfl⟩ := h
 exact ⟨A, B ++ Q, by simp, by simp⟩
theorem Swap.r {β : Type} {es es' fx fx' : List β} (h : Swap es es' fx fx') (Q : List β) : Swap (Q ++ es) (Q ++ es') fx fx' := by
 obtain ⟨A, B, rfl, rfl⟩ := h
 exact ⟨Q ++ A, B, by simp, by simp⟩
theorem oL {α β : Type} (f : Nat → α → List β) {xs : List α} {i : Nat} {x : α} (h : xs[i]? = some x) (x' : α) : Swap (evL f 0 xs) (evL f 0 (xs.set i x')) (f i x) (f i x') := by
 have : ∀ (xs : List α) (j i : Nat), xs[i]? = some x → Swap (evL f j xs) (evL f j (xs.set i x')) (f (j + i) x) (f (j + i) x') := by
   intro xs
   induction xs with
   | nil => intro j i h; simp at h
   | cons y r ih =>
     intro j i h
     cases i with
     | zero =>
       simp at h; subst h
       exact ⟨[], evL f (j + 1) r, by simp [evL], by simp [evL]⟩
     | succ i =>
       have := (ih (j + 1) i z100).r (f j y)
       rw [show j + 1 + i = j + (i + 1) by omega] at this
       exact this
 have h2 := this xs 0 i h
 rwa [Nat.zero_add] at h2
theorem dM {β : Type} (a b : List (Int × β)) (t : Int) : aN (a ++ b) t = aN a t ++ aN b t := by simp [aN]
theorem Swap.same {β : Type} {es es' fx fx' : List (Int × β)} (h : Swap es es' fx fx') {u : Int} (e : aN fx' u = aN fx u) : aN es' u = aN es u := by
 obtain ⟨A, B, rfl, rfl⟩ := h
 simp only [dM, e]
theorem Swap.gone {β : Type} {es es' fx fx' : List (Int × β)} (h : Swap es es' fx fx') {u : Int} (h1 : aN fx u ≠ []) (h2 : aN fx' u = []) (h3 : (aN es u).length ≤ 1) : aN es' u = [] := by
 obtain ⟨A, B, rfl, rfl⟩ := h
 simp only [dM, List.length_append] at h3 ⊢
 have h4 : 0 < (aN fx u).length := List.length_pos_iff.2 h1
 have a0 : aN A u = [] := List.eq_nil_of_length_eq_zero (by omega)
 have b0 : aN B u = [] := List.eq_nil_of_length_eq_zero (by omega)
 rw [a0, b0, h2]; rfl
theorem Swap.none {β : Type} {es es' fx fx' : List (Int × β)} (h : Swap es es' fx fx') {u : Int} (h1 : aN es u = []) : aN fx u = [] := by
 obtain ⟨A, B, rfl, rfl⟩ := h
 simp only [dM, List.append_eq_nil_iff] at h1
 exact h1.1.2
theorem Swap.come {β : Type} {es es' fx fx' : List (Int × β)} (h : Swap es es' fx fx') {u : Int} (h1 : aN es u = []) : aN es' u = aN fx' u := by
 obtain ⟨A, B, rfl, rfl⟩ := h
 simp only [dM, List.append_eq_nil_iff] at h1 ⊢
 rw [h1.1.1, h1.2]; simp
theorem Swap.from {β : Type} {es es' fx fx' : List (Int × β)} (h : Swap es es' fx fx') {t : Int} (hk : ∀ u, u ≠ t → aN fx u = [] → aN fx' u = []) : ∀ e ∈ es', e.1 = t ∨ ∃ e2 ∈ es, e2.1 = e.1 := by
 intro e he
 by_cases ht : e.1 = t
 · exact .inl ht
 refine .inr (Classical.byContradiction fun hn => ?_)
 have h0 : aN es e.1 = [] := oK.2 fun e2 h2 h3 => hn ⟨e2, h2, h3⟩
 have h1 := h.come h0
 rw [hk e.1 ht (h.none h0)] at h1
 exact oK.1 h1 e he rfl
theorem Swap.refl {β : Type} (es : List β) : Swap es es [] [] := ⟨es, [], by simp, by simp⟩
theorem kS {s : State} {i : Nat} {x : Sem} (h : s.sems[i]? = some x) (x' : Sem) : Swap (bH s) (bH { s with sems := s.sems.set i x' }) (dH i x) (dH i x') := ((((oL dH h x').l _).l _).l _).l _
theorem mZ {s : State} {i : Nat} {x : Once} (h : s.onces[i]? = some x) (x' : Once) : Swap (bH s) (bH { s with onces := s.onces.set i x' }) (cR i x) (cR i x') := ((((oL cR h x').r _).l _).l _).l _
theorem iG {s : State} {i : Nat} {x : Group} (h : s.groups[i]? = some x) (x' : Group) : Swap (bH s) (bH { s with groups := s.groups.set i x' }) (cS i x) (cS i x') := (((oL cS h x').r _).l _).l _
theorem kZ {s : State} {i : Nat} {x : Barrier} (h : s.barriers[i]? = some x) (x' : Barrier) : Swap (bH s) (bH { s with barriers := s.barriers.set i x' }) (cF i x) (cF i x') := ((oL cF h x').r _).l _
theorem eW {s : State} {i : Nat} {x : Chan} (h : s.chans[i]? = some x) (x' : Chan) : Swap (bH s) (bH { s with chans := s.chans.set i x' }) (dB i x) (dB i x') := (oL dB h x').r _
theorem kB0 {s : State} {i : Nat} {x : Once} (h : s.onces[i]? = some x) (x' : Once) : Swap (cD s) (cD { s with onces := s.onces.set i x' }) (gY i x) (gY i x') := oL gY h x'
theorem SharedOk.of {p : Prog} {s s' : State} (h : SharedOk p s) (e1 : s'.sems = s.sems) (e2 : s'.onces = s.onces) (e3 : s'.groups = s.groups) (e4 : s'.barriers = s.barriers) (e5 : s'.chans = s.chans) : SharedOk p s' := by
 obtain ⟨a, b, c, d, e, f, g, i, j, k⟩ := h
 exact ⟨by rw [e1]; exact a, by rw [e3]; exact b, by rw [e4]; exact c, by rw [e5]; exact d, by rw [e2]; exact e, by rw [e1]; exact f, by rw [e3]; exact g, by rw [e4]; exact i, by rw [e5]; exact j, by rw [e2]; exact k⟩
theorem bB0 {α : Type} {P : Nat → α → Prop} {xs : List α} (h : ∀ (i : Nat) x, xs[i]? = some x → P i x) {i : Nat} {x' : α} (h1 : P i x') : ∀ (j : Nat) x, (xs.set i x')[j]? = some x → P j x := by
 intro j x hx
 rw [List.getElem?_set] at hx
 split at hx
 · rename_i e
   subst e
   split at hx
   · injection hx with hx; subst hx; exact h1
   · cases hx
 · exact h j x hx
theorem gF0 {α : Type} {P : α → Prop} {xs : List α} (h : ∀ x ∈ xs, P x) {i : Nat} {x' : α} (h1 : P x') : ∀ x ∈ xs.set i x', P x := fun x hx => by
 rcases List.mem_or_eq_of_mem_set hx with hx | rfl
 · exact h x hx
 · exact h1
theorem SharedOk.setSem {p : Prog} {s : State} (h : SharedOk p s) {i : Nat} {x x' : Sem} (hx : s.sems[i]? = some x) (ok : SemOk x') (e : x'.limit = x.limit) : SharedOk p { s with sems := s.sems.set i x' } :=
 { h with lsems := by simpa using h.lsems, sems := bB0 h.sems ⟨ok, by rw [e]; exact (h.sems i x hx).2⟩ }
theorem SharedOk.setOnce {p : Prog} {s : State} (h : SharedOk p s) {i : Nat} {x' : Once} (ok : eG x') : SharedOk p { s with onces := s.onces.set i x' } :=
 { h with lonces := by simpa using h.lonces, onces := gF0 h.onces ok }
theorem SharedOk.setGroup {p : Prog} {s : State} (h : SharedOk p s) {i : Nat} {x' : Group} (ok : eY x') : SharedOk p { s with groups := s.groups.set i x' } :=
 { h with lgroups := by simpa using h.lgroups, groups := gF0 h.groups ok }
theorem SharedOk.setBarrier {p : Prog} {s : State} (h : SharedOk p s) {i : Nat} {x x' : Barrier} (hx : s.barriers[i]? = some x) (ok : dO x') (e : x'.parties = x.parties) : SharedOk p { s with barriers := s.barriers.set i x' } :=
 { h with lbarriers := by simpa using h.lbarriers, barriers := bB0 h.barriers ⟨ok, by rw [e]; exact (h.barriers i x hx).2⟩ }
theorem SharedOk.setChan {p : Prog} {s : State} (h : SharedOk p s) {i : Nat} {x x' : Chan} (hx : s.chans[i]? = some x) (ok : x'.valid = true) (e : x'.room = x.room) : SharedOk p { s with chans := s.chans.set i x' } :=
 { h with lchans := by simpa using h.lchans, chans := bB0 h.chans ⟨ok, by rw [e]; exact (h.chans i x hx).2⟩ }
def Th (p : Prog) (s s' : State) (ops : List Op) (u : Nat) (a st a' st' : Int) : Prop :=
 (a' = a ∧ st' = st ∧ aN (bH s') u = aN (bH s) u ∧ aN (cD s') u = aN (cD s) u) ∨
 (a' = a + 1 ∧ st' = lW p u (a + 1) ∧ a < ops.length ∧ aN (bH s') u = [] ∧ aN (cD s') u = []) ∨
 ∃ op, ops[a.toNat]? = some op ∧ a' = a ∧ ((st' = 1 ∧ aN (bH s') u = [jW op] ∧ aN (cD s') u = []) ∨ (st' = 2 ∧ aN (bH s') u = [] ∧ op.kind = 4 ∧ aN (cD s') u = [op.on]))
theorem Th.ok {p : Prog} {s s' : State} {ops : List Op} {u : Nat} {a st a' st' : Int} (h : Th p s s' ops u a st a' st') (hp : p.threads[u]? = some ops) (h0 : lI ops a st (aN (bH s) u) (aN (cD s) u)) : lI ops a' st' (aN (bH s') u) (aN (cD s') u) := by
 rcases h with ⟨rfl, rfl, e1, e2⟩ | ⟨rfl, rfl, hl, e1, e2⟩ | ⟨op, ho, rfl, h⟩
 · rw [e1, e2]; exact h0
 · obtain ⟨a0, a1, _⟩ := h0
   have hg : p.threads.getD u [] = ops := by rw [List.getD_eq_getElem?_getD, hp]; rfl
   rw [e1, e2]
   refine ⟨by omega, by omega, ?_⟩
   by_cases e : a + 1 = (ops.length : Int)
   · exact .inl ⟨e, by rw [lW, hg, if_pos e], rfl, rfl⟩
   · refine .inr ⟨ops[(a + 1).toNat]'(by omega), List.getElem?_eq_getElem _, .inl ⟨by rw [lW, hg, if_neg e], rfl, rfl⟩⟩
 · obtain ⟨a0, a1, _⟩ := h0
   refine ⟨a0, a1, .inr ⟨op, ho, ?_⟩⟩
   rcases h with ⟨rfl, e1, e2⟩ | ⟨rfl, e1, e2, e3⟩
   · exact .inr (.inl ⟨rfl, e2, e1⟩)
   · exact .inr (.inr ⟨rfl, e1, e2, e3⟩)
theorem Fits.len1 {p : Prog} {s : State} (ft : Fits p s) (u : Nat) (hu : u < p.threads.length) : (aN (bH s) u).length ≤ 1 := by
 obtain ⟨a0, a1, h⟩ := ft.threads u _ _ _ (List.getElem?_eq_getElem hu) (List.getElem?_eq_getElem (by rw [ft.np]; exact hu)) (List.getElem?_eq_getElem (by rw [ft.ns]; exact hu))
 rcases h with ⟨_, _, e, _⟩ | ⟨op, _, ⟨_, e, _⟩ | ⟨_, _, e⟩ | ⟨_, e, _⟩⟩ <;> rw [e] <;> simp
theorem Fits.isIn {p : Prog} {s : State} (ft : Fits p s) {u : Int} (h : aN (bH s) u ≠ []) : 0 ≤ u ∧ u < p.threads.length := by
 match hc : aN (bH s) u with
 | [] => exact (h hc).elim
 | x :: r =>
   have hm : x ∈ aN (bH s) u := by rw [hc]; simp
   exact ft.ev _ (jR.1 hm)
theorem Fits.waiting {p : Prog} {s : State} (ft : Fits p s) {u : Nat} {ops : List Op} {a st : Int} (h1 : p.threads[u]? = some ops) (h2 : s.places[u]? = some a) (h3 : s.status[u]? = some st) (h : aN (bH s) u ≠ []) : a < ops.length ∧ aN (cD s) u = [] ∧ st = 1 := by
 obtain ⟨a0, a1, h4⟩ := ft.threads u ops a st h1 h2 h3
 rcases h4 with ⟨_, _, e, _⟩ | ⟨op, h5, ⟨_, e, _⟩ | ⟨e1, e2, _⟩ | ⟨_, e, _⟩⟩
 · exact (h e).elim
 · exact (h e).elim
 · have := (List.getElem?_eq_some_iff.1 h5).1
   exact ⟨by omega, e2, e1⟩
 · exact (h e).elim
theorem Fits.move {p : Prog} {s s' : State} (ft : Fits p s) {t : Nat} {who : List Int} {fx fx' : List (Int × Waiting)} (sh : SharedOk p s')
   (lp : s'.places.length = s.places.length) (ls : s'.status.length = s.status.length)
   (lsaid : s'.said.length ≤ 64) (said : ∀ v ∈ s'.said, aW v = true) (f0 : 0 ≤ s'.fault) (f4 : s'.fault ≤ 4)
   (sw : Swap (bH s) (bH s') fx fx') (ow : ∀ u : Int, u ≠ t → aN (cD s') u = aN (cD s) u)
   (hw : ∀ u ∈ who, u ≠ t → aN fx u ≠ [] ∧ aN fx' u = []) (ho : ∀ u, u ∉ who → u ≠ t → aN fx' u = aN fx u)
   (pl : ∀ u : Nat, u ≠ t → s'.places[u]? = if (u : Int) ∈ who then s.places[u]?.map (· + 1) else s.places[u]?)
   (st : ∀ u : Nat, u ≠ t → s'.status[u]? = if (u : Int) ∈ who then s.status[u]?.map (fun _ => lW p u (s.places.getD u 0 + 1)) else s.status[u]?)
   (ht : ∀ ops a st, p.threads[t]? = some ops → s.places[t]? = some a → s.status[t]? = some st → ∃ a' st', s'.places[t]? = some a' ∧ s'.status[t]? = some st' ∧ Th p s s' ops t a st a' st') (tn : t < p.threads.length) : Fits p s' := by
 have key : ∀ u : Int, u ≠ t → aN fx u = [] → aN fx' u = [] := fun u hu h0 => by
   by_cases hm : u ∈ who
   · exact (hw u hm hu).2
   · rw [ho u hm hu, h0]
 have hev : ∀ e ∈ bH s', 0 ≤ e.1 ∧ e.1 < (p.threads.length : Int) := fun e he => by
   rcases sw.from key e he with h | ⟨e2, h2, h3⟩
   · rw [h]; omega
   · rw [← h3]; exact ft.ev _ h2
 have how : ∀ e ∈ cD s', 0 ≤ e.1 ∧ e.1 < (p.threads.length : Int) := fun e he => by
   by_cases hu : e.1 = t
   · rw [hu]; omega
   · have hm : e.2 ∈ aN (cD s') e.1 := jR.2 he
     rw [ow e.1 hu] at hm
     exact ft.ow _ (jR.1 hm)
 refine ⟨ft.prog, by rw [lp, ft.np], by rw [ls, ft.ns], sh.lsems, sh.lgroups, sh.lbarriers, sh.lchans, sh.lonces, lsaid, f0, f4, sh.sems, sh.groups, sh.barriers, sh.chans, sh.onces, said, fun u ops a' st' h1 h2 h3 => ?_, hev, how⟩
 have hu : u < p.threads.length := (List.getElem?_eq_some_iff.1 h1).1
 have hup : u < s.places.length := by rw [ft.np]; exact hu
 have hus : u < s.status.length := by rw [ft.ns]; exact hu
 have g2 : s.places[u]? = some s.places[u] := List.getElem?_eq_getElem hup
 have g3 : s.status[u]? = some s.status[u] := List.getElem?_eq_getElem hus
 have h0 := ft.threads u ops _ _ h1 g2 g3
 by_cases e : u = t
 · subst e
   obtain ⟨a2, st2, k1, k2, k3⟩ := ht ops _ _ h1 g2 g3
   rw [h2] at k1; rw [h3] at k2
   injection k1 with k1; injection k2 with k2
   subst k1; subst k2
   exact k3.ok h1 h0
 · have e' : (u : Int) ≠ t := by omega
   have p1 := pl u e
   have p2 := st u e
   rw [h2, g2] at p1
   rw [h3, g3] at p2
   by_cases hm : (u : Int) ∈ who
   · rw [if_pos hm] at p1 p2
     simp only [Option.map_some, Option.some.injEq] at p1 p2
     obtain ⟨w1, w2⟩ := hw u hm e'
     have hne : aN (bH s) u ≠ [] := fun h => w1 (sw.none h)
     obtain ⟨q1, q2, q3⟩ := ft.waiting h1 g2 g3 hne
     refine Th.ok (s := s) (a := s.places[u]) (st := s.status[u]) (.inr (.inl ⟨p1, ?_, q1, sw.gone w1 w2 (ft.len1 u hu), by rw [ow u e', q2]⟩)) h1 h0
     rw [p2, List.getD_eq_getElem?_getD, g2]; rfl
   · rw [if_neg hm] at p1 p2
     injection p1 with p1; injection p2 with p2
     exact Th.ok (s := s) (a := s.places[u]) (st := s.status[u]) (.inl ⟨p1, p2, sw.same (ho u hm e'), ow u e'⟩) h1 h0
def Sem.acquire (m : Sem) (t n : Int) : Sem × Bool :=
 if m.queue = [] ∧ n ≤ m.free then ({ m with free := m.free - n }, true) else ({ m with queue := m.queue ++ [⟨t, n⟩] }, false)
def dV : Int → List Waiter → Int × List Int × List Waiter
 | f, [] => (f, [], [])
 | f, w :: r => if w.n ≤ f then ((dV (f - w.n) r).1, w.t :: (dV (f - w.n) r).2.1, (dV (f - w.n) r).2.2) else (f, [], w :: r)
def Sem.release (m : Sem) (n : Int) : Option (Sem × List Int) :=
 if n ≤ m.limit - m.free then some (⟨(dV (m.free + n) m.queue).1, m.limit, (dV (m.free + n) m.queue).2.2⟩, (dV (m.free + n) m.queue).2.1) else none
def Once.enter (m : Once) (t : Int) : Once × Int :=
 if m.state = 0 then (⟨1, t, 0, []⟩, 0) else if m.state = 1 then ({ m with waits := m.waits ++ [t] }, 1) else (m, 2)
def Once.finish (m : Once) (t v : Int) : Once × List Int := (⟨2, t, v, []⟩, m.waits)
def Group.add (m : Group) (n : Int) : Option (Group × List Int) :=
 if aW (m.count + n) = true then (if m.count + n = 0 then some (⟨0, []⟩, m.waits) else some (⟨m.count + n, m.waits⟩, [])) else none
def Group.wait (m : Group) (t : Int) : Group × Bool := if m.count = 0 then (⟨0, []⟩, true) else (⟨m.count, m.waits ++ [t]⟩, false)
def Barrier.arrive (m : Barrier) (t : Int) : Option (Barrier × List Int) :=
 if (m.waits.length : Int) + 1 < m.parties then some (⟨m.parties, m.round, m.waits ++ [t]⟩, [])
 else if m.round = 9999 then none else some (⟨m.parties, m.round + 1, []⟩, m.waits ++ [t])
def hG0 (p : Prog) (s : State) (t : Int) : Op := (p.threads.getD t.toNat []).getD (s.places.getD t.toNat 0).toNat Op0
def zH (s : State) (o : Op) : Sem := s.sems.getD o.on.toNat ⟨0, 0, []⟩
def pC (s : State) (o : Op) : Once := s.onces.getD o.on.toNat ⟨0, 0, 0, []⟩
def rB (s : State) (o : Op) : Group := s.groups.getD o.on.toNat ⟨0, []⟩
def iQ (s : State) (o : Op) : Barrier := s.barriers.getD o.on.toNat ⟨0, 0, []⟩
def gO (s : State) (o : Op) : Chan := s.chans.getD o.on.toNat .zero
def setSem (s : State) (o : Op) (x : Sem) : State := { s with sems := s.sems.set o.on.toNat x }
def setOnce (s : State) (o : Op) (x : Once) : State := { s with onces := s.onces.set o.on.toNat x }
def setGroup (s : State) (o : Op) (x : Group) : State := { s with groups := s.groups.set o.on.toNat x }
def setBarrier (s : State) (o : Op) (x : Barrier) : State := { s with barriers := s.barriers.set o.on.toNat x }
def setChan (s : State) (o : Op) (x : Chan) : State := { s with chans := s.chans.set o.on.toNat x }
def jX (s : State) (v : Int) : State := { s with said := s.said ++ [v] }
def fZ (s : State) (f : Int) : State := { s with fault := f }
def jS (p : Prog) (s : State) (t : Int) (o : Op) : State :=
 if ((zH s o).acquire t o.arg).2 = true then onM p [t] (setSem s o ((zH s o).acquire t o.arg).1) else bB (setSem s o ((zH s o).acquire t o.arg).1) t 1
def iR (p : Prog) (s : State) (t : Int) (o : Op) : State :=
 match (zH s o).release o.arg with
 | none => fZ s 1
 | some r => onM p (r.2 ++ [t]) (setSem s o r.1)
def kJ (p : Prog) (s : State) (t : Int) (o : Op) : State :=
 if s.status.getD t.toNat 0 = 2 then onM p (((pC s o).finish t o.arg).2 ++ [t]) (setOnce s o ((pC s o).finish t o.arg).1)
 else if ((pC s o).enter t).2 = 0 then bB (setOnce s o ((pC s o).enter t).1) t 2
 else if ((pC s o).enter t).2 = 1 then bB (setOnce s o ((pC s o).enter t).1) t 1
 else onM p [t] (setOnce s o ((pC s o).enter t).1)
def tQ (p : Prog) (s : State) (t : Int) (o : Op) : State :=
 match (rB s o).add o.arg with
 | none => fZ s 2
 | some r => onM p (r.2 ++ [t]) (setGroup s o r.1)
def qF (p : Prog) (s : State) (t : Int) (o : Op) : State :=
 if ((rB s o).wait t).2 = true then onM p [t] (setGroup s o ((rB s o).wait t).1) else bB (setGroup s o ((rB s o).wait t).1) t 1
def gT (p : Prog) (s : State) (t : Int) (o : Op) : State :=
 match (iQ s o).arrive t with
 | none => bB (setBarrier s o ⟨0, 0, []⟩) t 1
 | some r => if r.2 = [] then bB (setBarrier s o r.1) t 1 else onM p r.2 (setBarrier s o r.1)
def lR (p : Prog) (s : State) (t : Int) (o : Op) : State :=
 if ((gO s o).send t o.arg).2.2.2 = true then
   if ((gO s o).send t o.arg).2.2.1 = true then
     onM p (((gO s o).send t o.arg).2.1 ++ [t]) (if ((gO s o).send t o.arg).2.1 = [] then setChan s o ((gO s o).send t o.arg).1 else jX (setChan s o ((gO s o).send t o.arg).1) o.arg)
   else bB (setChan s o ((gO s o).send t o.arg).1) t 1
 else fZ s 3
def rX (p : Prog) (s : State) (t : Int) (o : Op) : State :=
 if ((gO s o).get t).2.2.1 = 0 then bB (setChan s o ((gO s o).get t).1) t 1
 else onM p (((gO s o).get t).2.2.2.1 ++ [t]) (if ((gO s o).get t).2.2.1 = 1 then jX (setChan s o ((gO s o).get t).1) ((gO s o).get t).2.1 else setChan s o ((gO s o).get t).1)
def mC (p : Prog) (s : State) (t : Int) (o : Op) : State :=
 if (gO s o).close.2.2 = true then onM p ((gO s o).close.2.1 ++ [t]) (setChan s o (gO s o).close.1) else fZ s 4
def dD (p : Prog) (s : State) (t : Int) (o : Op) : State :=
 if o.kind = 1 then onM p [t] (jX s o.arg)
 else if o.kind = 2 then jS p s t o
 else if o.kind = 3 then iR p s t o
 else if o.kind = 4 then kJ p s t o
 else if o.kind = 5 then tQ p s t o
 else if o.kind = 6 then qF p s t o
 else if o.kind = 7 then gT p s t o
 else if o.kind = 8 then lR p s t o
 else if o.kind = 9 then rX p s t o
 else mC p s t o
def doM (p : Prog) (s : State) (t : Int) : State := dD p s t (hG0 p s t)
def rL (p : Prog) (s : State) (t : Int) : Prop := (hG0 p s t).kind = 7 ∧ (iQ s (hG0 p s t)).arrive t = none
structure Rdy (p : Prog) (s : State) (k : Nat) (ops : List Op) (a st : Int) (op : Op) : Prop where
 ft : Fits p s
 f : s.fault = 0
 kn : k < p.threads.length
 h1 : p.threads[k]? = some ops
 h2 : s.places[k]? = some a
 h3 : s.status[k]? = some st
 a0 : 0 ≤ a
 ho : ops[a.toNat]? = some op
 ev : aN (bH s) k = []
 ow : (st = 0 ∧ aN (cD s) k = []) ∨ (st = 2 ∧ op.kind = 4 ∧ aN (cD s) k = [op.on])
 ok : OpOk p op
 at_ : hG0 p s k = op
theorem xL {s : State} {t : Int} (h : t ∈ cQ s) : s.fault = 0 ∧ ∃ (k : Nat) (st : Int), t = k ∧ s.status[k]? = some st ∧ (st = 0 ∨ st = 2) := by
 rw [cQ] at h
 split at h
 · rename_i hf
   obtain ⟨k, st, h1, h2⟩ := xI.1 h
   rw [gB] at h2
   split at h2
   · rename_i h3
     exact ⟨hf, k, st, by simpa using h2, h1, h3⟩
   · cases h2
 · cases h
theorem rdy {p : Prog} {s : State} (ft : Fits p s) {t : Int} (h : t ∈ cQ s) : ∃ (k : Nat) (ops : List Op) (a st : Int) (op : Op), t = k ∧ Rdy p s k ops a st op := by
 obtain ⟨hf, k, st, rfl, h3, h4⟩ := xL h
 have hs : k < s.status.length := (List.getElem?_eq_some_iff.1 h3).1
 have hk : k < p.threads.length := by rw [← ft.ns]; exact hs
 have hp : k < s.places.length := by rw [ft.np]; exact hk
 have h1 : p.threads[k]? = some p.threads[k] := List.getElem?_eq_getElem hk
 have h2 : s.places[k]? = some s.places[k] := List.getElem?_eq_getElem hp
 obtain ⟨a0, a1, h5⟩ := ft.threads k _ _ _ h1 h2 h3
 rcases h5 with ⟨_, e, _⟩ | ⟨op, ho, h5⟩
 · omega
 · have hok : OpOk p op := (ft.prog.ops _ (List.mem_of_getElem? h1)).2 _ (List.mem_of_getElem? ho)
   have hat : hG0 p s (k : Int) = op := by
     simp only [hG0, Int.toNat_natCast, List.getD_eq_getElem?_getD, h1, h2, Option.getD_some, ho]
   refine ⟨k, p.threads[k], s.places[k], st, op, rfl, ft, hf, hk, h1, h2, h3, a0, ho, ?_, ?_, hok, hat⟩
   · rcases h5 with ⟨_, e, _⟩ | ⟨e, _, _⟩ | ⟨_, e, _⟩
     · exact e
     · omega
     · exact e
   · rcases h5 with ⟨e1, _, e⟩ | ⟨e, _, _⟩ | ⟨e1, _, e2, e3⟩
     · exact .inl ⟨e1, e⟩
     · omega
     · exact .inr ⟨e1, e2, e3⟩
theorem Rdy.own0 {p : Prog} {s : State} {k : Nat} {ops : List Op} {a st : Int} {op : Op} (r : Rdy p s k ops a st op) (h : op.kind ≠ 4) : aN (cD s) k = [] := by
 rcases r.ow with ⟨_, e⟩ | ⟨_, e, _⟩
 · exact e
 · exact (h e).elim
theorem Rdy.thr {p : Prog} {s : State} {k : Nat} {ops : List Op} {a st : Int} {op : Op} (r : Rdy p s k ops a st op) : bA (k : Int) = true := by
 have := r.ft.prog.n4
 have := r.kn
 simp [bA]; omega
theorem Rdy.alt {p : Prog} {s : State} {k : Nat} {ops : List Op} {a st : Int} {op : Op} (r : Rdy p s k ops a st op) : a < ops.length := by
 have h := (List.getElem?_eq_some_iff.1 r.ho).1
 have := r.a0
 omega
theorem Rdy.onFits {p : Prog} {s : State} {k : Nat} {ops : List Op} {a st : Int} {op : Op} (r : Rdy p s k ops a st op) {s1 : State} {who : List Int} {fx fx' : List (Int × Waiting)} (sh : SharedOk p s1)
   (e1 : s1.places = s.places) (e2 : s1.status = s.status) (e3 : s1.fault = s.fault) (lsaid : s1.said.length ≤ 64) (said : ∀ v ∈ s1.said, aW v = true)
   (sw : Swap (bH s) (bH s1) fx fx') (ow : ∀ u : Int, u ≠ k → aN (cD s1) u = aN (cD s) u) (owk : aN (cD s1) k = [])
   (hd : who.Nodup) (hw : ∀ u ∈ who, aN fx u ≠ [] ∧ aN fx' u = []) (ho : ∀ u, u ∉ who → u ≠ k → aN fx' u = aN fx u) (hk : aN fx' k = []) : Fits p (onM p (who ++ [(k : Int)]) s1) := by
 have hkw : (k : Int) ∉ who := fun hm => (hw _ hm).1 (sw.none r.ev)
 have hd2 : (who ++ [(k : Int)]).Nodup := by
   rw [List.nodup_append]
   exact ⟨hd, by simp, fun x hx y hy => by simp at hy; subst hy; rintro rfl; exact hkw hx⟩
 have hpos : ∀ x ∈ who ++ [(k : Int)], 0 ≤ x := fun x hx => by
   rcases List.mem_append.1 hx with hx | hx
   · exact (r.ft.isIn fun h0 => (hw x hx).1 (sw.none h0)).1
   · simp at hx; omega
 have P := mX p (who ++ [(k : Int)]) s1 hd2 hpos
 have S := pB p (who ++ [(k : Int)]) s1 hd2 hpos
 obtain ⟨pl, st', hE, l1, l2⟩ := mY p (who ++ [(k : Int)]) s1
 rw [hE] at P S ⊢
 have hmem : ∀ u : Nat, u ≠ k → (((u : Int) ∈ who ++ [(k : Int)]) ↔ (u : Int) ∈ who) := fun u hu => by
   have : ¬ (u : Int) = k := by omega
   simp [this]
 refine r.ft.move (t := k) (who := who) (fx := fx) (fx' := fx') (sh.of rfl rfl rfl rfl rfl) (by rw [← e1]; exact l1) (by rw [← e2]; exact l2) lsaid said (by show 0 ≤ s1.fault; rw [e3]; exact r.ft.f0) (by show s1.fault ≤ 4; rw [e3]; exact r.ft.f4) sw ow (fun u hu _ => hw u hu) ho ?_ ?_ ?_ r.kn
 · intro u hu
   have := P u
   simp only [hmem u hu, e1] at this
   exact this
 · intro u hu
   have := S u
   simp only [hmem u hu, e1, e2] at this
   exact this
 · intro ops' a' st2 h1 h2 h3
   rw [r.h1] at h1; rw [r.h2] at h2; rw [r.h3] at h3
   injection h1 with h1; injection h2 with h2; injection h3 with h3
   subst h1; subst h2; subst h3
   have P' := P k
   have S' := S k
   rw [if_pos (by simp), e1, r.h2] at P'
   rw [if_pos (by simp), e2, e1, r.h3, List.getD_eq_getElem?_getD, r.h2] at S'
   exact ⟨_, _, P', S', .inr (.inl ⟨rfl, rfl, r.alt, (sw.come r.ev).trans hk, owk⟩)⟩
theorem Rdy.waitFits {p : Prog} {s : State} {k : Nat} {ops : List Op} {a st : Int} {op : Op} (r : Rdy p s k ops a st op) {s1 : State} {fx fx' : List (Int × Waiting)} {b : Int} (sh : SharedOk p s1)
   (e1 : s1.places = s.places) (e2 : s1.status = s.status) (e3 : s1.fault = s.fault) (e4 : s1.said = s.said)
   (sw : Swap (bH s) (bH s1) fx fx') (ow : ∀ u : Int, u ≠ k → aN (cD s1) u = aN (cD s) u)
   (ho : ∀ u : Int, u ≠ k → aN fx' u = aN fx u) (hk : (b = 1 ∧ aN fx' k = [jW op] ∧ aN (cD s1) k = []) ∨ (b = 2 ∧ aN fx' k = [] ∧ op.kind = 4 ∧ aN (cD s1) k = [op.on])) : Fits p (bB s1 k b) := by
 have hlen : k < s1.status.length := by rw [e2]; exact (List.getElem?_eq_some_iff.1 r.h3).1
 refine r.ft.move (t := k) (who := []) (fx := fx) (fx' := fx') (sh.of rfl rfl rfl rfl rfl) (by show s1.places.length = _; rw [e1]) (by simp [bB, e2]) (by show s1.said.length ≤ 64; rw [e4]; exact r.ft.lsaid) (by show ∀ v ∈ s1.said, _; rw [e4]; exact r.ft.said) (by show 0 ≤ s1.fault; rw [e3]; exact r.ft.f0) (by show s1.fault ≤ 4; rw [e3]; exact r.ft.f4) sw ow (fun u hu _ => by simp at hu) (fun u _ hu => ho u hu) ?_ ?_ ?_ r.kn
 · intro u hu
   simp [bB, e1]
 · intro u hu
   have : ¬ k = u := fun h => hu h.symm
   simp [bB, e2, this]
 · intro ops' a' st2 h1 h2 h3
   rw [r.h1] at h1; rw [r.h2] at h2
   injection h1 with h1; injection h2 with h2
   subst h1; subst h2
   refine ⟨a, b, by show s1.places[k]? = _; rw [e1, r.h2], by simp [bB, hlen], .inr (.inr ⟨op, r.ho, rfl, ?_⟩)⟩
   have hc := sw.come r.ev
   rcases hk with ⟨rfl, k1, k2⟩ | ⟨rfl, k1, k2, k3⟩
   · exact .inl ⟨rfl, hc.trans k1, k2⟩
   · exact .inr ⟨rfl, hc.trans k1, k2, k3⟩
theorem Fits.fault {p : Prog} {s : State} (ft : Fits p s) {f : Int} (h0 : 0 ≤ f) (h4 : f ≤ 4) : Fits p (fZ s f) :=
 ⟨ft.prog, ft.np, ft.ns, ft.lsems, ft.lgroups, ft.lbarriers, ft.lchans, ft.lonces, ft.lsaid, h0, h4, ft.sems, ft.groups, ft.barriers, ft.chans, ft.onces, ft.said, ft.threads, ft.ev, ft.ow⟩
end Go.Proofs.YtijmjecehppbfaaGreat
