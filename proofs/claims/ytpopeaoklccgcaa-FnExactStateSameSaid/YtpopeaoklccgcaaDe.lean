/- The exact laws' helpers for Group. -/
import Derived.Test.YtpopeaoklccgcaaEa
import Derived.Test.YtpopeaoklccgcaaDa
namespace Go.Proofs.Ytpopeaoklccgcaa

open Go Go.Sx Go.RowKit

def Group.small20 (m : Group) : Prop := m.waits.length ≤ 1048576

def szGroupM (m : Group) (left : Int) : Int := szStep m.waits.length left fun a0 => a0

theorem szGroupM_ok {m : Group} (h : ¬ szGroupM m 1048576 < 0) : m.small20 := by
  simp only [szGroupM, szStep, szN] at h
  simp only [Group.small20]
  omega

theorem szGroupM_gen (m : Group) (l : Int) (hl : l ≤ 1048576) (h : ¬ szGroupM m l < 0) : m.small20 ∧ szGroupM m l ≤ l := by
  simp only [szGroupM, szStep, szN] at h ⊢
  simp only [Group.small20]
  omega

set_option maxRecDepth 100000 in
theorem szGroup_c (m : Group) (s0 : Sl) (left : Int) (w : World) (h : At w [slo s0 cInt 1 m.waits]) (h0 : -1 ≤ left) (h1 : left ≤ 1048576) :
    Calls Try.prog 91 #[groupV m s0, .int .i64 left] w (Ret w fun v L => v = .int .i64 (szGroupM m left) ∧ L = []) := by
  refine calls2 Try.func91 rfl tabOk w _ rfl _ rfl _ h ⟨rfl, rfl, trivial⟩ _ _ (by decide) ?_
  refine stop_call _ cl24 rfl rfl rfl rfl ⟨rfl, rfl⟩ (fun A w hW => szIntS_c s0 m.waits left w ⟨(by first | exact hW.rd 0 rfl | exact hW.rdOwn 0 rfl | exact hW.rd 1 rfl | exact hW.rdOwn 1 rfl | exact hW.rd 2 rfl | exact hW.rdOwn 2 rfl | exact hW.rd 3 rfl | exact hW.rdOwn 3 rfl | exact hW.rd 4 rfl | exact hW.rdOwn 4 rfl | exact hW.rd 5 rfl | exact hW.rdOwn 5 rfl | exact hW.rd 6 rfl | exact hW.rdOwn 6 rfl | exact hW.rd 7 rfl | exact hW.rdOwn 7 rfl | exact hW.rd 8 rfl | exact hW.rdOwn 8 rfl | exact hW.rd 9 rfl | exact hW.rdOwn 9 rfl | exact hW.rd 10 rfl | exact hW.rdOwn 10 rfl | exact hW.rd 11 rfl | exact hW.rdOwn 11 rfl | exact hW.rd 12 rfl | exact hW.rdOwn 12 rfl | exact hW.rd 13 rfl | exact hW.rdOwn 13 rfl | exact hW.rd 14 rfl | exact hW.rdOwn 14 rfl | exact hW.rd 15 rfl | exact hW.rdOwn 15 rfl | exact hW.rd 16 rfl | exact hW.rdOwn 16 rfl | exact hW.rd 17 rfl | exact hW.rdOwn 17 rfl | exact hW.rd 18 rfl | exact hW.rdOwn 18 rfl | exact hW.rd 19 rfl | exact hW.rdOwn 19 rfl | exact hW.rd 20 rfl | exact hW.rdOwn 20 rfl | exact hW.rd 21 rfl | exact hW.rdOwn 21 rfl | exact hW.rd 22 rfl | exact hW.rdOwn 22 rfl | exact hW.rd 23 rfl | exact hW.rdOwn 23 rfl), trivial⟩ h0 h1) ?_
  rintro v L ⟨rfl, rfl⟩
  refine CaseB.mk (fun g0 => ?_) (fun g0 => ?_)
  · have q : szN m.waits.length (left) < 0 := by simpa using g0
    refine retw [] ⟨?_, rfl⟩ trivial rfl trivial (fun _ => rfl)
    simp [szGroupM, szStep, q]
  have q0 : ¬ szN m.waits.length (left) < 0 := by simpa using g0
  refine retw [] ⟨?_, rfl⟩ trivial rfl trivial (fun _ => rfl)
  simp [szGroupM, szStep, q0]

set_option maxRecDepth 100000 in
theorem toGroup_c (m : Group) (s0 : Sl) (w : World) (h : At w [slo s0 cInt 1 m.waits]) (hb : m.small20) :
    Calls Try.prog 100 #[groupV m s0] w (Ret w fun v L => ∃ y0 : Sl, v = groupV m y0 ∧ L = [own y0 3 cInt 1 m.waits]) := by
  have b0 := hb
  unfold Group.small20 at b0
  refine calls1 Try.func100 rfl tabOk w _ rfl _ rfl _ h ⟨rfl, rfl, trivial⟩ _ (by decide) ?_
  refine stop_call _ cl33 rfl rfl rfl rfl ⟨rfl, rfl⟩ (fun A w hW => toIntS_c s0 m.waits w ⟨(by first | exact hW.rd 0 rfl | exact hW.rdOwn 0 rfl | exact hW.rd 1 rfl | exact hW.rdOwn 1 rfl | exact hW.rd 2 rfl | exact hW.rdOwn 2 rfl | exact hW.rd 3 rfl | exact hW.rdOwn 3 rfl | exact hW.rd 4 rfl | exact hW.rdOwn 4 rfl | exact hW.rd 5 rfl | exact hW.rdOwn 5 rfl | exact hW.rd 6 rfl | exact hW.rdOwn 6 rfl | exact hW.rd 7 rfl | exact hW.rdOwn 7 rfl | exact hW.rd 8 rfl | exact hW.rdOwn 8 rfl | exact hW.rd 9 rfl | exact hW.rdOwn 9 rfl | exact hW.rd 10 rfl | exact hW.rdOwn 10 rfl | exact hW.rd 11 rfl | exact hW.rdOwn 11 rfl | exact hW.rd 12 rfl | exact hW.rdOwn 12 rfl | exact hW.rd 13 rfl | exact hW.rdOwn 13 rfl | exact hW.rd 14 rfl | exact hW.rdOwn 14 rfl | exact hW.rd 15 rfl | exact hW.rdOwn 15 rfl | exact hW.rd 16 rfl | exact hW.rdOwn 16 rfl | exact hW.rd 17 rfl | exact hW.rdOwn 17 rfl | exact hW.rd 18 rfl | exact hW.rdOwn 18 rfl | exact hW.rd 19 rfl | exact hW.rdOwn 19 rfl | exact hW.rd 20 rfl | exact hW.rdOwn 20 rfl | exact hW.rd 21 rfl | exact hW.rdOwn 21 rfl | exact hW.rd 22 rfl | exact hW.rdOwn 22 rfl | exact hW.rd 23 rfl | exact hW.rdOwn 23 rfl), trivial⟩ b0) ?_
  rintro v L ⟨y0, rfl, rfl⟩
  exact retw [0] ⟨y0, rfl, rfl⟩ ⟨.inl ⟨_, rfl, rfl⟩, trivial⟩ rfl ⟨rfl, trivial⟩ (fun _ => rfl)

set_option maxRecDepth 100000 in
theorem eqGroup_c (m m2 : Group) (s0 u0 : Sl) (w : World) (h : At w [slo s0 cInt 1 m.waits, slo u0 cInt 1 m2.waits]) (hb : m.small20) (hb2 : m2.small20) :
    Calls Try.prog 107 #[groupV m s0, groupV m2 u0] w (Ret w fun v L => v = .bool (decide (m = m2)) ∧ L = []) := by
  have hx : ∀ {a b : Group}, a = b ↔ a.count = b.count ∧ a.waits = b.waits := fun {a b} => ⟨fun h => by subst h; exact ⟨rfl, rfl⟩, fun h => by cases a; cases b; simp_all⟩
  have b0 := hb
  unfold Group.small20 at b0
  have c0 := hb2
  unfold Group.small20 at c0
  refine calls2 Try.func107 rfl tabOk w _ rfl _ rfl _ h ⟨rfl, rfl, rfl, rfl, trivial⟩ _ _ (by decide) ?_
  refine CaseB.mk (fun h0 => ?_) (fun h0 => ?_)
  · have g : ¬ m = m2 := fun e => by subst e; simp at h0
    exact retw [] ⟨by simp [g], rfl⟩ trivial rfl trivial (fun _ => rfl)
  refine stop_call _ cl50 rfl rfl rfl rfl ⟨rfl, rfl⟩ (fun A w hW => eqIntS_c s0 u0 m.waits m2.waits w ⟨(by first | exact hW.rd 0 rfl | exact hW.rdOwn 0 rfl | exact hW.rd 1 rfl | exact hW.rdOwn 1 rfl | exact hW.rd 2 rfl | exact hW.rdOwn 2 rfl | exact hW.rd 3 rfl | exact hW.rdOwn 3 rfl | exact hW.rd 4 rfl | exact hW.rdOwn 4 rfl | exact hW.rd 5 rfl | exact hW.rdOwn 5 rfl | exact hW.rd 6 rfl | exact hW.rdOwn 6 rfl | exact hW.rd 7 rfl | exact hW.rdOwn 7 rfl | exact hW.rd 8 rfl | exact hW.rdOwn 8 rfl | exact hW.rd 9 rfl | exact hW.rdOwn 9 rfl | exact hW.rd 10 rfl | exact hW.rdOwn 10 rfl | exact hW.rd 11 rfl | exact hW.rdOwn 11 rfl | exact hW.rd 12 rfl | exact hW.rdOwn 12 rfl | exact hW.rd 13 rfl | exact hW.rdOwn 13 rfl | exact hW.rd 14 rfl | exact hW.rdOwn 14 rfl | exact hW.rd 15 rfl | exact hW.rdOwn 15 rfl | exact hW.rd 16 rfl | exact hW.rdOwn 16 rfl | exact hW.rd 17 rfl | exact hW.rdOwn 17 rfl | exact hW.rd 18 rfl | exact hW.rdOwn 18 rfl | exact hW.rd 19 rfl | exact hW.rdOwn 19 rfl | exact hW.rd 20 rfl | exact hW.rdOwn 20 rfl | exact hW.rd 21 rfl | exact hW.rdOwn 21 rfl | exact hW.rd 22 rfl | exact hW.rdOwn 22 rfl | exact hW.rd 23 rfl | exact hW.rdOwn 23 rfl), (by first | exact hW.rd 0 rfl | exact hW.rdOwn 0 rfl | exact hW.rd 1 rfl | exact hW.rdOwn 1 rfl | exact hW.rd 2 rfl | exact hW.rdOwn 2 rfl | exact hW.rd 3 rfl | exact hW.rdOwn 3 rfl | exact hW.rd 4 rfl | exact hW.rdOwn 4 rfl | exact hW.rd 5 rfl | exact hW.rdOwn 5 rfl | exact hW.rd 6 rfl | exact hW.rdOwn 6 rfl | exact hW.rd 7 rfl | exact hW.rdOwn 7 rfl | exact hW.rd 8 rfl | exact hW.rdOwn 8 rfl | exact hW.rd 9 rfl | exact hW.rdOwn 9 rfl | exact hW.rd 10 rfl | exact hW.rdOwn 10 rfl | exact hW.rd 11 rfl | exact hW.rdOwn 11 rfl | exact hW.rd 12 rfl | exact hW.rdOwn 12 rfl | exact hW.rd 13 rfl | exact hW.rdOwn 13 rfl | exact hW.rd 14 rfl | exact hW.rdOwn 14 rfl | exact hW.rd 15 rfl | exact hW.rdOwn 15 rfl | exact hW.rd 16 rfl | exact hW.rdOwn 16 rfl | exact hW.rd 17 rfl | exact hW.rdOwn 17 rfl | exact hW.rd 18 rfl | exact hW.rdOwn 18 rfl | exact hW.rd 19 rfl | exact hW.rdOwn 19 rfl | exact hW.rd 20 rfl | exact hW.rdOwn 20 rfl | exact hW.rd 21 rfl | exact hW.rdOwn 21 rfl | exact hW.rd 22 rfl | exact hW.rdOwn 22 rfl | exact hW.rd 23 rfl | exact hW.rdOwn 23 rfl), trivial⟩ (by omega) (by omega)) ?_
  rintro v L ⟨rfl, rfl⟩
  refine CaseB.mk (fun h1 => ?_) (fun h1 => ?_)
  · have g : ¬ m = m2 := fun e => by subst e; simp at h1
    exact retw [] ⟨by simp [g], rfl⟩ trivial rfl trivial (fun _ => rfl)
  have g : m = m2 := hx.2 ⟨by simpa using h0, by simpa using h1⟩
  exact retw [] ⟨by simp [g], rfl⟩ trivial rfl trivial (fun _ => rfl)

end Go.Proofs.Ytpopeaoklccgcaa
