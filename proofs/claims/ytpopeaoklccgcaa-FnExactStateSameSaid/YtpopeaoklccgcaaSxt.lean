/- THE FRAMEWORK 'Sx', PART 20: bundles of rows of the call's own; changes of view. No project text. -/
import Derived.Test.YtpopeaoklccgcaaSxs
namespace Go.Sx
open Go Go.RowKit

/-- Who knows f may read g. -/
structure Rd (f g : Fct) : Prop where
  p : ∀ w, f.P w → g.P w
  foot : ∀ b, g.foot b → f.foot b
theorem Rd.refl (f : Fct) : Rd f f := ⟨fun _ h => h, fun _ h => h⟩
theorem Rd.trans {f g e : Fct} (h : Rd f g) (k : Rd g e) : Rd f e := ⟨fun w x => k.p w (h.p w x), fun b x => h.foot b (k.foot b x)⟩
theorem Rd.aged (f : Fct) : Rd f f.aged := ⟨f.aged_out.1, f.aged_out.2⟩
theorem Rd.sl {o o' : Bool} {i : Sl} {sz n : Nat} {cs : List Value} : Rd (fSl o i sz cs n) (fSl o' i sz cs n) := ⟨fun _ h => h, fun _ h => h⟩
theorem Rd.own {o o' : Bool} {i : Sl} {e sz n : Nat} {cs : List Value} : Rd (fOwn o i e sz cs n) (fSl o' i sz cs n) := ⟨fun _ h => own_rd h, fun _ h => h.2⟩

theorem ob_st (G : List Fct) (w w' : World) (hb : ∀ b, (∃ f ∈ G, f.foot b) → w'.heap[b]? = w.heap[b]?) (h : (∀ f ∈ G, f.P w ∧ f.isOwn = true ∧ f.old = false) ∧ G.Pairwise Dj) : (∀ f ∈ G, f.P w' ∧ f.isOwn = true ∧ f.old = false) ∧ G.Pairwise Dj :=
  ⟨fun f hf => ⟨f.st w w' (fun b hfb => hb b ⟨f, hf, hfb⟩) (h.1 f hf).1, (h.1 f hf).2⟩, h.2⟩
/-- Rows of the call's own, all of G, no two of which meet. -/
abbrev fO (G : List Fct) : Fct := .other false true (fun b => ∃ f ∈ G, f.foot b) (fun w => (∀ f ∈ G, f.P w ∧ f.isOwn = true ∧ f.old = false) ∧ G.Pairwise Dj) (ob_st G)
/-- The readings of rows, as a callee takes them. -/
abbrev fR (G : List Fct) : Fct := fB true (G.map Fct.aged)
/-- A reading of one of these. -/
def RdIn (G : List Fct) (g : Fct) : Prop := ∃ f ∈ G, Rd f.aged g
theorem RdIn.own {G : List Fct} {o o' : Bool} {i : Sl} {e sz n : Nat} {cs : List Value} (h : fOwn o i e sz cs n ∈ G) : RdIn G (fSl o' i sz cs n) := ⟨_, h, Rd.sl⟩
theorem Rd.ofO {G : List Fct} {g : Fct} (h : RdIn G g) : Rd (fO G) g := by
  obtain ⟨f, hf, h⟩ := h
  exact ⟨fun w hw => h.p w (f.aged_out.1 w (hw.1 f hf).1), fun b hb => ⟨f, hf, f.aged_out.2 b (h.foot b hb)⟩⟩
theorem Rd.ofR {G : List Fct} {g : Fct} (h : RdIn G g) : Rd (fR G) g := by
  obtain ⟨f, hf, h⟩ := h
  exact ⟨fun w hw => h.p w (hw _ (List.mem_map_of_mem hf)), fun b hb => ⟨_, List.mem_map_of_mem hf, h.foot b hb⟩⟩
theorem Rd.O_R {G G' : List Fct} (h : ∀ g ∈ G', g ∈ G) : Rd (fO G) (fR G') := by
  refine ⟨fun w hw g hg => ?_, ?_⟩
  · obtain ⟨f, hf, rfl⟩ := List.mem_map.1 hg
    exact f.aged_out.1 w (hw.1 f (h f hf)).1
  · rintro b ⟨g, hg, hb⟩
    obtain ⟨f, hf, rfl⟩ := List.mem_map.1 hg
    exact ⟨f, h f hf, f.aged_out.2 b hb⟩
theorem Rd.R_R {G G' : List Fct} (h : ∀ g ∈ G', g ∈ G) : Rd (fR G) (fR G') := by
  refine ⟨fun w hw g hg => ?_, ?_⟩
  · obtain ⟨f, hf, rfl⟩ := List.mem_map.1 hg
    exact hw _ (List.mem_map_of_mem (h f hf))
  · rintro b ⟨g, hg, hb⟩
    obtain ⟨f, hf, rfl⟩ := List.mem_map.1 hg
    exact ⟨_, List.mem_map_of_mem (h f hf), hb⟩
/-- One own row is enough for a bundle of one's reading. -/
theorem Rd.own_R {i : Sl} {e sz n : Nat} {cs : List Value} {o o' : Bool} : Rd (fOwn o i e sz cs n) (fR [fOwn o' i e sz cs n]) := by
  refine ⟨fun w hw g hg => ?_, ?_⟩
  · obtain rfl := List.mem_singleton.1 hg
    exact own_rd hw
  · rintro b ⟨g, hg, hb⟩
    obtain rfl := List.mem_singleton.1 hg
    exact hb.2

/-- Wherever F stands, F' stands. -/
def Shift (F F' : List Fct) : Prop := ∀ (E : Env) (A : Nat → Nat) (n : Nat) (B : List (Nat × TypeId × Nat)) (M : List ((Nat × Nat) × SV)) (w : World), WD E A n B M F w → WD E A n B M F' w
theorem Shift.trans {F F' F'' : List Fct} (h : Shift F F') (k : Shift F' F'') : Shift F F'' := fun E A n B M w x => k E A n B M w (h E A n B M w x)

/-- What goes into a bundle of own rows. -/
inductive DerO : Fct → List Fct → Prop
  | own {i : Sl} {e sz n : Nat} {cs : List Value} : DerO (fOwn false i e sz cs n) [fOwn false i e sz cs n]
  | o {G : List Fct} : DerO (fO G) G
theorem DerO.out {f : Fct} {G : List Fct} (h : DerO f G) : (∀ w, f.P w → (∀ g ∈ G, g.P w ∧ g.isOwn = true ∧ g.old = false) ∧ G.Pairwise Dj) ∧ (∀ g ∈ G, ∀ b, g.foot b → f.foot b) ∧ f.isOwn = true ∧ f.old = false := by
  cases h with
  | own => exact ⟨fun w h => ⟨fun g hg => by obtain rfl := List.mem_singleton.1 hg; exact ⟨h, rfl, rfl⟩, List.pairwise_singleton _ _⟩, fun g hg b hb => by obtain rfl := List.mem_singleton.1 hg; exact hb, rfl, rfl⟩
  | o => exact ⟨fun w h => h, fun g hg b hb => ⟨g, hg, hb⟩, rfl, rfl⟩
/-- Each by its number; a number too great by far stands for rows that are nil. -/
def FJ (F : List Fct) : List Nat → List (List Fct) → Prop
  | [], [] => True
  | j :: jx, G :: r => ((∃ f, F[j]? = some f ∧ DerO f G) ∨ (F.length ≤ j ∧ ∀ g ∈ G, nilFact g)) ∧ FJ F jx r
  | _, _ => False
theorem nil_foot {g : Fct} (h : nilFact g) : ∀ b, ¬ g.foot b := by
  cases g with
  | own old i e sz cs n => obtain ⟨_, rfl, _⟩ := h; rintro b ⟨ad, h, _⟩; cases h
  | _ => exact h.elim
theorem nil_own {g : Fct} (h : nilFact g) : g.isOwn = true := by
  cases g with
  | own => rfl
  | _ => exact h.elim
theorem nil_pairwise {G : List Fct} (h : ∀ g ∈ G, nilFact g) : G.Pairwise Dj := by
  rw [List.pairwise_iff_getElem]
  intro i j hi hj _ _ b hb
  exact (nil_foot (h _ (List.getElem_mem hi)) b hb).elim
theorem FJ_len {F : List Fct} : ∀ {ix : List Nat} {Gs : List (List Fct)}, FJ F ix Gs → ix.length = Gs.length
  | [], [], _ => rfl
  | [], _ :: _, h => h.elim
  | _ :: _, [], h => h.elim
  | _ :: _, _ :: _, h => by simp [FJ_len h.2]
theorem FJ_get {F : List Fct} : ∀ {ix : List Nat} {Gs : List (List Fct)}, FJ F ix Gs → ∀ (p j : Nat) (G : List Fct), ix[p]? = some j → Gs[p]? = some G → (∃ f, F[j]? = some f ∧ DerO f G) ∨ ∀ g ∈ G, nilFact g
  | [], _, _, p, j, G, h, _ => by simp at h
  | _ :: _, [], h, _, _, _, _, _ => h.elim
  | i :: ix, G :: r, h, p, j, G', h1, h2 => by
    cases p with
    | zero =>
      simp at h1 h2
      subst h1; subst h2
      exact h.1.imp id (·.2)
    | succ p => exact FJ_get h.2 p j G' (by simpa using h1) (by simpa using h2)

section
variable {E : Env} {A : Nat → Nat} {T : List (Nat × SV)} {n c : Nat} {B : List (Nat × TypeId × Nat)} {M Ms : List ((Nat × Nat) × SV)} {F F' Fs : List Fct} {o : Oper} {next : St → Prop} {w : World}

theorem Shift.splitO (k : Nat) {L G G' : List Fct} (hk : F[k]? = some (fO G)) (hp : G.Perm (L ++ G')) : Shift F (L ++ fO G' :: F.eraseIdx k) := by
  intro E A n B M w h
  obtain ⟨⟨h1, hpw⟩, h2, h3⟩ := h.fct _ (List.mem_of_getElem? hk)
  have hsub := h.sub (eraseIdx_sub F k)
  have hdj := pairwise_nth_erase h.dj hk
  have hpw' := (hp.pairwise_iff (fun h => Dj.symm h)).1 hpw
  rw [List.pairwise_append] at hpw'
  obtain ⟨q1, q2, q3⟩ := hpw'
  have hL : ∀ f ∈ L, f ∈ G := fun f hf => hp.mem_iff.2 (List.mem_append_left _ hf)
  have hG' : ∀ f ∈ G', f ∈ G := fun f hf => hp.mem_iff.2 (List.mem_append_right _ hf)
  refine ⟨h.key, h.inj, h.mem, h.a0, h.n0, h.ext, fun f hf => ?_, ?_⟩
  · rcases List.mem_append.1 hf with hf | hf
    · exact ⟨(h1 f (hL f hf)).1, fun b hb => h2 b ⟨f, hL f hf, hb⟩, fun _ b hb => h3 rfl b ⟨f, hL f hf, hb⟩⟩
    · rcases List.mem_cons.1 hf with rfl | hf
      · refine ⟨⟨fun g hg => h1 g (hG' g hg), q2⟩, ?_, ?_⟩
        · rintro b ⟨g, hg, hb⟩; exact h2 b ⟨g, hG' g hg, hb⟩
        · rintro _ b ⟨g, hg, hb⟩; exact h3 rfl b ⟨g, hG' g hg, hb⟩
      · exact hsub.fct f hf
  · rw [List.pairwise_append]
    refine ⟨q1, ?_, fun f hf g hg ho b hb hb' => ?_⟩
    · rw [List.pairwise_cons]
      refine ⟨fun f hf ho b hb hb' => ?_, hsub.dj⟩
      obtain ⟨g, hg, hgb⟩ := hb
      exact hdj f hf (.inl rfl) b ⟨g, hG' g hg, hgb⟩ hb'
    · rcases List.mem_cons.1 hg with rfl | hg
      · obtain ⟨g, hg, hgb⟩ := hb'
        exact q3 f hf g hg (.inl (h1 f (hL f hf)).2.1) b hb hgb
      · exact hdj g hg (.inl rfl) b ⟨f, hL f hf, hb⟩ hb'

theorem Shift.joinO (ix : List Nat) {Gs : List (List Fct)} (hG : FJ F ix Gs) (hix : nodupB ix = true) {G : List Fct} (hp : Gs.flatten.Perm G) : Shift F (fO G :: dropAt ix 0 F) := by
  intro E A n B M w h
  have hsub := h.sub (dropAt_sub ix F 0)
  have hnd := nodupB_ok hix
  have hlen := FJ_len hG
  have hmem : ∀ g ∈ Gs.flatten, g.isOwn = true ∧ g.old = false ∧ ((∃ i ∈ ix, ∃ f, F[i]? = some f ∧ f.isOwn = true ∧ f.old = false ∧ g.P w ∧ ∀ b, g.foot b → f.foot b) ∨ nilFact g) := by
    intro g hg
    obtain ⟨G0, h0, hg0⟩ := List.mem_flatten.1 hg
    obtain ⟨p, hpp⟩ := List.getElem?_of_mem h0
    have hplt : p < ix.length := by rw [hlen]; exact (List.getElem?_eq_some_iff.1 hpp).1
    rcases FJ_get hG p ix[p] G0 (List.getElem?_eq_getElem hplt) hpp with ⟨f, hf, hd⟩ | hn
    · obtain ⟨d1, d2, d3, d4⟩ := hd.out
      have hfw := (h.nth _ hf).1
      exact ⟨((d1 w hfw).1 g hg0).2.1, ((d1 w hfw).1 g hg0).2.2, .inl ⟨_, List.getElem_mem hplt, f, hf, d3, d4, ((d1 w hfw).1 g hg0).1, d2 g hg0⟩⟩
    · exact ⟨nil_own (hn g hg0), (nilFact_ok (hn g hg0) w).2.2, .inr (hn g hg0)⟩
  have hpw : Gs.flatten.Pairwise Dj := by
    rw [List.pairwise_flatten]
    refine ⟨fun l hl => ?_, ?_⟩
    · obtain ⟨p, hpp⟩ := List.getElem?_of_mem hl
      have hplt : p < ix.length := by rw [hlen]; exact (List.getElem?_eq_some_iff.1 hpp).1
      rcases FJ_get hG p ix[p] l (List.getElem?_eq_getElem hplt) hpp with ⟨f, hf, hd⟩ | hn
      · exact (hd.out.1 w (h.nth _ hf).1).2
      · exact nil_pairwise hn
    · rw [List.pairwise_iff_getElem]
      intro p q hp' hq' hpq x hx y hy _ b hb hb'
      have hpi : p < ix.length := by rw [hlen]; exact hp'
      have hqi : q < ix.length := by rw [hlen]; exact hq'
      rcases FJ_get hG p ix[p] _ (List.getElem?_eq_getElem hpi) (List.getElem?_eq_getElem hp') with ⟨f, hf, hd⟩ | hn
      · rcases FJ_get hG q ix[q] _ (List.getElem?_eq_getElem hqi) (List.getElem?_eq_getElem hq') with ⟨f', hf', hd'⟩ | hn
        · have hne : ix[p] ≠ ix[q] := List.pairwise_iff_getElem.1 hnd p q hpi hqi hpq
          exact pairwise_pick h.dj hne hf hf' (.inl hd.out.2.2.1) b (hd.out.2.1 x hx b hb) (hd'.out.2.1 y hy b hb')
        · exact nil_foot (hn y hy) b hb'
      · exact nil_foot (hn x hx) b hb
  have hm' : ∀ g ∈ G, g ∈ Gs.flatten := fun g hg => hp.mem_iff.2 hg
  refine ⟨hsub.key, hsub.inj, hsub.mem, hsub.a0, hsub.n0, hsub.ext, fun f hf => ?_, ?_⟩
  · rcases List.mem_cons.1 hf with rfl | hf
    · refine ⟨⟨fun g hg => ?_, (hp.pairwise_iff (fun h => Dj.symm h)).1 hpw⟩, ?_, ?_⟩
      · obtain ⟨m1, m2, m3⟩ := hmem g (hm' g hg)
        refine ⟨?_, m1, m2⟩
        rcases m3 with ⟨i, _, f, _, _, _, hgP, _⟩ | hn
        · exact hgP
        · exact (nilFact_ok hn w).1
      · rintro b ⟨g, hg, hb⟩
        rcases (hmem g (hm' g hg)).2.2 with ⟨i, _, f, hf, _, _, _, hfoot⟩ | hn
        · exact (h.fct _ (List.mem_of_getElem? hf)).2.1 b (hfoot b hb)
        · exact (nil_foot hn b hb).elim
      · rintro _ b ⟨g, hg, hb⟩
        rcases (hmem g (hm' g hg)).2.2 with ⟨i, _, f, hf, _, hold, _, hfoot⟩ | hn
        · exact (h.fct _ (List.mem_of_getElem? hf)).2.2 hold b (hfoot b hb)
        · exact (nil_foot hn b hb).elim
    · exact hsub.fct f hf
  · rw [List.pairwise_cons]
    refine ⟨fun r hr ho b hb hb' => ?_, hsub.dj⟩
    obtain ⟨g, hg, hgb⟩ := hb
    rcases (hmem g (hm' g hg)).2.2 with ⟨i, hi, f, hf, hown, _, _, hfoot⟩ | hn
    · obtain ⟨j, hj1, hj2⟩ := dropAt_at ix F 0 r hr
      rw [Nat.zero_add] at hj2
      exact pairwise_pick h.dj (fun e => hj2 (by rw [← e]; exact hi)) hf hj1 (.inl hown) b (hfoot b hgb) hb'
    · exact nil_foot hn b hgb
/-- A reading is laid beside. -/
theorem Shift.read (k : Nat) {f g : Fct} (hk : F[k]? = some f) (hf : f.isOwn = false) (hg : g.isOwn = false) (ho : f.old = g.old) (h : Rd f g) : Shift F (g :: F) := by
  intro E A n B M w hW
  obtain ⟨h1, h2, h3⟩ := hW.fct _ (List.mem_of_getElem? hk)
  refine ⟨hW.key, hW.inj, hW.mem, hW.a0, hW.n0, hW.ext, fun f' hf' => ?_, ?_⟩
  · rcases List.mem_cons.1 hf' with rfl | hf'
    · exact ⟨h.p w h1, fun b hb => h2 b (h.foot b hb), fun e b hb => h3 (ho.trans e) b (h.foot b hb)⟩
    · exact hW.fct f' hf'
  · rw [List.pairwise_cons]
    refine ⟨fun r hr hor b hb hb' => ?_, hW.dj⟩
    rw [hg] at hor
    rcases hor with hor | hor
    · cases hor
    · obtain ⟨j, hj, rfl⟩ := List.getElem_of_mem hr
      have hj' : F[j]? = some F[j] := List.getElem?_eq_getElem hj
      by_cases e : k = j
      · subst e
        rw [hk] at hj'
        injection hj' with hj'
        rw [← hj', hf] at hor
        cases hor
      · exact pairwise_pick hW.dj e hk hj' (.inr hor) b (h.foot b hb) hb'
/-- Facts are dropped. -/
theorem Shift.pick (ix : List Nat) (hF : FW F ix F') (hix : nodupB ix = true) : Shift F F' := fun _ _ _ _ _ _ h => h.pick ix hF hix

theorem stop_shift (h : Shift F F') (k : OpW (opStop E o next T n c B M F')) : OpW (opStop E o next T n c B M F) := ⟨fun A a w hW hT => k.out A a w (h E A n B M w hW) hT⟩
theorem weak_shift {s : St} (h : Shift F F') (k : Weak E (.mk T n c B M F') s) : Weak E (.mk T n c B M F) s := fun a w ⟨A, hW, hT⟩ => k a w ⟨A, h E A n B M w hW, hT⟩
theorem ret_shift {X : (Nat → Nat) → World → Prop} (h : Shift F F') (k : RetW (∀ A w, WD E A n B M F' w → X A w)) : RetW (∀ A w, WD E A n B M F w → X A w) := ⟨fun A w hW => k.out A w (h E A n B M w hW)⟩
theorem draw_shift {X : Act → World → Prop} (h : Shift F F') (k : DrawW (∀ a w, Den E (.mk T n c B M F') a w → X a w)) : DrawW (∀ a w, Den E (.mk T n c B M F) a w → X a w) := ⟨fun a w ⟨A, hW, hT⟩ => k.out a w ⟨A, h E A n B M w hW, hT⟩⟩
theorem d_shift (h : Shift F F') (hkeep : keepF Fs F → keepF Fs F') (k : OpW (opD E o Ms Fs next T n c B M F')) : OpW (opD E o Ms Fs next T n c B M F) :=
  ⟨fun hm hf A a w hW hT => k.out hm (hkeep hf) A a w (h E A n B M w hW) hT⟩

/-- A fact for a call, read out of fact k. -/
theorem WD.get (h : WD E A n B M F w) (k : Nat) {f g : Fct} (hk : F[k]? = some f) (r : Rd f g) : g.P w ∧ ∀ b, g.foot b → b < w.heap.size :=
  ⟨r.p w (h.nth k hk).1, fun b hb => (h.nth k hk).2 b (r.foot b hb)⟩
theorem WD.getP (h : WD E A n B M F w) (ga : Nat) {k ty sz : Nat} (hg : ga = A k) (hB : lookBT B k = some (ty, sz)) (j : Nat) {f g : Fct} (hj : F[j]? = some f) (r : Rd f g) : g.P w ∧ ∀ b, g.foot b → b < w.heap.size ∧ b ≠ ga := by
  subst hg
  refine ⟨r.p w (h.nth j hj).1, fun b hb => ?_⟩
  exact ⟨((h.fct _ (List.mem_of_getElem? hj)).2.1 b (r.foot b hb)).1, fun e => ((h.fct _ (List.mem_of_getElem? hj)).2.1 b (r.foot b hb)).2 k ty sz (lookBT_mem hB) e.symm⟩
theorem rdVia {F : List Fct} (k : Nat) {f : Fct} (hk : F[k]? = some f) {o : Bool} {i : Sl} {sz m : Nat} {cs : List Value} (r : Rd f (fSl o i sz cs m)) : ∀ w, (∀ f ∈ F, f.P w) → RdS w i sz cs m :=
  fun w h => r.p w (h f (List.mem_of_getElem? hk))
end
end Go.Sx
