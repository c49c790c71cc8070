/- THE FRAMEWORK 'Sx', PART 19: bundles of readings (the inner rows of nested data). No project text. -/
import Derived.Test.YtpopeaoklccgcaaSxr
namespace Go.Sx
open Go Go.RowKit

theorem bundle_st (G : List Fct) (w w' : World) (hb : ∀ b, (∃ f ∈ G, f.foot b) → w'.heap[b]? = w.heap[b]?) (h : ∀ f ∈ G, f.P w) : ∀ f ∈ G, f.P w' :=
  fun f hf => f.st w w' (fun b hfb => hb b ⟨f, hf, hfb⟩) (h f hf)
/-- All of G hold; nobody writes what they read. -/
abbrev fB (old : Bool) (G : List Fct) : Fct := .other old false (fun b => ∃ f ∈ G, f.foot b) (fun w => ∀ f ∈ G, f.P w) (bundle_st G)
/-- A reading alone, as old as said. -/
def rdOk (o : Bool) (g : Fct) : Prop := g.isOwn = false ∧ g.old = o

section
variable {E : Env} {A : Nat → Nat} {T : List (Nat × SV)} {n c : Nat} {B : List (Nat × TypeId × Nat)} {M Ms : List ((Nat × Nat) × SV)} {F Fs : List Fct} {o : Oper} {next : St → Prop} {w : World}

/-- One of a bundle's readings, laid beside it. -/
theorem WD.openB (h : WD E A n B M F w) (k : Nat) {old : Bool} {G : List Fct} (hk : F[k]? = some (fB old G)) {g : Fct} (hg : g ∈ G) (hr : rdOk old g) : WD E A n B M (g :: F) w := by
  obtain ⟨h1, h2, h3⟩ := h.fct _ (List.mem_of_getElem? hk)
  refine ⟨h.key, h.inj, h.mem, h.a0, h.n0, h.ext, fun f hf => ?_, ?_⟩
  · rcases List.mem_cons.1 hf with rfl | hf
    · exact ⟨h1 f hg, fun b hb => h2 b ⟨f, hg, hb⟩, fun ho b hb => h3 (show old = false from hr.2.symm.trans ho) b ⟨f, hg, hb⟩⟩
    · exact h.fct f hf
  · rw [List.pairwise_cons]
    refine ⟨fun f hf ho b hb hb' => ?_, h.dj⟩
    obtain ⟨j, hj, rfl⟩ := List.getElem_of_mem hf
    have hj' : F[j]? = some F[j] := List.getElem?_eq_getElem hj
    by_cases e : j = k
    · subst e
      rw [hk] at hj'
      injection hj' with hj'
      rw [← hj', hr.1] at ho
      rcases ho with ho | ho <;> cases ho
    · have := pairwise_pick h.dj (fun e' => e e'.symm) hk hj'
      rw [hr.1] at ho
      exact this (ho.imp (fun h => by cases h) id) b ⟨g, hg, hb⟩ hb'

/-- What goes into a bundle: a fresh row's reading, a fresh reading, a fresh bundle. -/
inductive DerB : Fct → List Fct → Prop
  | own {i : Sl} {e sz n : Nat} {cs : List Value} : DerB (fOwn false i e sz cs n) [fSl false i sz cs n]
  | sl {i : Sl} {sz n : Nat} {cs : List Value} : DerB (fSl false i sz cs n) [fSl false i sz cs n]
  | b {G : List Fct} : DerB (fB false G) G
theorem DerB.out {f : Fct} {G : List Fct} (h : DerB f G) : f.old = false ∧ (∀ w, f.P w → ∀ g ∈ G, g.P w) ∧ ∀ g ∈ G, ∀ b, g.foot b → f.foot b := by
  cases h with
  | own => exact ⟨rfl, fun w h g hg => by obtain rfl := List.mem_singleton.1 hg; exact own_rd h, fun g hg b hb => by obtain rfl := List.mem_singleton.1 hg; exact hb.2⟩
  | sl => exact ⟨rfl, fun w h g hg => by obtain rfl := List.mem_singleton.1 hg; exact h, fun g hg b hb => by obtain rfl := List.mem_singleton.1 hg; exact hb⟩
  | b => exact ⟨rfl, fun w h g hg => h g hg, fun g hg b hb => ⟨g, hg, hb⟩⟩
def FB (F : List Fct) : List Nat → List (List Fct) → Prop
  | [], [] => True
  | j :: jx, G :: r => (∃ f, F[j]? = some f ∧ DerB f G) ∧ FB F jx r
  | _, _ => False
theorem FB_at {F : List Fct} : ∀ {ix : List Nat} {Gs : List (List Fct)}, FB F ix Gs → ∀ g ∈ Gs.flatten, ∃ i ∈ ix, ∃ f G, F[i]? = some f ∧ DerB f G ∧ g ∈ G
  | [], [], _, g, hg => by simp at hg
  | [], _ :: _, h, _, _ => h.elim
  | _ :: _, [], h, _, _ => h.elim
  | i :: ix, G :: r, h, g, hg => by
    rw [List.flatten_cons] at hg
    rcases List.mem_append.1 hg with hg | hg
    · obtain ⟨f, h1, h2⟩ := h.1
      exact ⟨i, by simp, f, G, h1, h2, hg⟩
    · obtain ⟨j, h1, f, G, h2, h3, h4⟩ := FB_at h.2 g hg
      exact ⟨j, by simp [h1], f, G, h2, h3, h4⟩
/-- Rows and readings become one bundle. -/
theorem WD.packB (h : WD E A n B M F w) (ix : List Nat) {Gs : List (List Fct)} (hG : FB F ix Gs) {G : List Fct} (he : Gs.flatten = G) : WD E A n B M (fB false G :: dropAt ix 0 F) w := by
  subst he
  have hsub := h.sub (dropAt_sub ix F 0)
  refine ⟨hsub.key, hsub.inj, hsub.mem, hsub.a0, hsub.n0, hsub.ext, fun f hf => ?_, ?_⟩
  · rcases List.mem_cons.1 hf with rfl | hf
    · refine ⟨fun g hg => ?_, ?_, ?_⟩
      · obtain ⟨i, _, f, G, h1, h2, h3⟩ := FB_at hG g hg
        exact h2.out.2.1 w (h.nth i h1).1 g h3
      · rintro b ⟨g, hg, hb⟩
        obtain ⟨i, _, f, G, h1, h2, h3⟩ := FB_at hG g hg
        exact (h.fct _ (List.mem_of_getElem? h1)).2.1 b (h2.out.2.2 g h3 b hb)
      · rintro _ b ⟨g, hg, hb⟩
        obtain ⟨i, _, f, G, h1, h2, h3⟩ := FB_at hG g hg
        exact (h.fct _ (List.mem_of_getElem? h1)).2.2 h2.out.1 b (h2.out.2.2 g h3 b hb)
    · exact hsub.fct f hf
  · rw [List.pairwise_cons]
    refine ⟨fun r hr ho b hb hb' => ?_, hsub.dj⟩
    obtain ⟨g, hg, hgb⟩ := hb
    obtain ⟨i, hi, f, G, h1, h2, h3⟩ := FB_at hG g hg
    obtain ⟨j, hj1, hj2⟩ := dropAt_at ix F 0 r hr
    rw [Nat.zero_add] at hj2
    have := pairwise_pick h.dj (fun e => hj2 (by rw [← e]; exact hi)) h1 hj1
    exact this (.inr (ho.elim (fun h => by cases h) id)) b (h2.out.2.2 g h3 b hgb) hb'

theorem stop_openB (k : Nat) {old : Bool} {G : List Fct} (hk : F[k]? = some (fB old G)) (g : Fct) (hg : g ∈ G) (hr : rdOk old g) (h : OpW (opStop E o next T n c B M (g :: F))) : OpW (opStop E o next T n c B M F) :=
  ⟨fun A a w hW hT => h.out A a w (hW.openB k hk hg hr) hT⟩
theorem stop_packB (ix : List Nat) {Gs : List (List Fct)} (hG : FB F ix Gs) {G : List Fct} (he : Gs.flatten = G) (h : OpW (opStop E o next T n c B M (fB false G :: dropAt ix 0 F))) : OpW (opStop E o next T n c B M F) :=
  ⟨fun A a w hW hT => h.out A a w (hW.packB ix hG he) hT⟩
theorem d_openB (k : Nat) {old : Bool} {G : List Fct} (hk : F[k]? = some (fB old G)) (g : Fct) (hg : g ∈ G) (hr : rdOk old g) (h : OpW (opD E o Ms Fs next T n c B M (g :: F))) : OpW (opD E o Ms Fs next T n c B M F) :=
  ⟨fun hm hf A a w hW hT => h.out hm (fun f hfs => List.mem_cons_of_mem _ (hf f hfs)) A a w (hW.openB k hk hg hr) hT⟩
theorem d_packB (ix : List Nat) {Gs : List (List Fct)} (hG : FB F ix Gs) {G : List Fct} (he : Gs.flatten = G) (hkeep : keepF Fs F → keepF Fs (fB false G :: dropAt ix 0 F)) (h : OpW (opD E o Ms Fs next T n c B M (fB false G :: dropAt ix 0 F))) : OpW (opD E o Ms Fs next T n c B M F) :=
  ⟨fun hm hf A a w hW hT => h.out hm (hkeep hf) A a w (hW.packB ix hG he) hT⟩

/-- A reading as a callee takes it. -/
def Fct.aged : Fct → Fct
  | .sl _ i sz cs n => .sl true i sz cs n
  | .own _ i _ sz cs n => .sl true i sz cs n
  | .other _ _ foot P st => .other true false foot P st
theorem Fct.aged_out : ∀ (f : Fct), (∀ w, f.P w → f.aged.P w) ∧ ∀ b, f.aged.foot b → f.foot b
  | .sl .. => ⟨fun _ h => h, fun _ h => h⟩
  | .own .. => ⟨fun _ h => own_rd h, fun _ h => h.2⟩
  | .other .. => ⟨fun _ h => h, fun _ h => h⟩
/-- A bundle as a callee takes it. -/
theorem WD.rdB (h : WD E A n B M F w) (k : Nat) {old : Bool} {G G' : List Fct} (hk : F[k]? = some (fB old G)) (hG : G.map Fct.aged = G') : (fB true G').P w ∧ ∀ b, (fB true G').foot b → b < w.heap.size := by
  subst hG
  obtain ⟨h1, h2⟩ := h.nth k hk
  refine ⟨fun g hg => ?_, ?_⟩
  · obtain ⟨f, hf, rfl⟩ := List.mem_map.1 hg
    exact f.aged_out.1 w (h1 f hf)
  · rintro b ⟨g, hg, hb⟩
    obtain ⟨f, hf, rfl⟩ := List.mem_map.1 hg
    exact h2 b ⟨f, hf, f.aged_out.2 b hb⟩
end
end Go.Sx
