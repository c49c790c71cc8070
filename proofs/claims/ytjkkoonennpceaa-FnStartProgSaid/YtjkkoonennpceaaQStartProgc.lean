/- FnStartProg: texts that its proof stands on, part 3. -/
import Derived.Laws.StructEq
import Derived.Laws.Strings
import Derived.Laws.IdiomStrings
import Derived.Laws.Strings2
import Derived.Laws.Slices
import Derived.Laws.Concat
import Derived.Test.YtjkkoonennpceaaQStartProgb
namespace Go.Sx

open Go Go.RowKit

/-- Who knows f may read g. -/
structure Rd (f g : Fct) : Prop where
  p : ∀ w, f.P w → g.P w
  foot : ∀ b, g.foot b → f.foot b

theorem Rd.refl (f : Fct) : Rd f f := ⟨fun _ h => h, fun _ h => h⟩

theorem Rd.trans {f g e : Fct} (h : Rd f g) (k : Rd g e) : Rd f e := ⟨fun w x => k.p w (h.p w x), fun b x => h.foot b (k.foot b x)⟩

theorem Rd.aged (f : Fct) : Rd f f.aged := ⟨f.aged_out.1, f.aged_out.2⟩

theorem Rd.sl {o o' : Bool} {i : Sl} {sz n : Nat} {cs : List Value} : Rd (fSl o i sz cs n) (fSl o' i sz cs n) := ⟨fun _ h => h, fun _ h => h⟩

theorem Rd.own {o o' : Bool} {i : Sl} {e sz n : Nat} {cs : List Value} : Rd (fOwn o i e sz cs n) (fSl o' i sz cs n) := ⟨fun _ h => own_rd h, fun _ h => h.2⟩

theorem ob_st (G : List Fct) (w w' : World) (hb : ∀ b, (∃ f ∈ G, f.foot b) → w'.heap[b]? = w.heap[b]?) (h : (∀ f ∈ G, f.P w ∧ f.isOwn = true ∧ f.old = false) ∧ G.Pairwise Dj) : (∀ f ∈ G, f.P w' ∧ f.isOwn = true ∧ f.old = false) ∧ G.Pairwise Dj :=
  ⟨fun f hf => ⟨f.st w w' (fun b hfb => hb b ⟨f, hf, hfb⟩) (h.1 f hf).1, (h.1 f hf).2⟩, h.2⟩

/-- Rows of the call's own, all of G, no two of which meet. -/
abbrev fO (G : List Fct) : Fct := .other false true (fun b => ∃ f ∈ G, f.foot b) (fun w => (∀ f ∈ G, f.P w ∧ f.isOwn = true ∧ f.old = false) ∧ G.Pairwise Dj) (ob_st G)

/-- The readings of rows, as a callee takes them. -/
abbrev fR (G : List Fct) : Fct := fB true (G.map Fct.aged)

/-- A reading of one of these. -/
def RdIn (G : List Fct) (g : Fct) : Prop := ∃ f ∈ G, Rd f.aged g

theorem RdIn.own {G : List Fct} {o o' : Bool} {i : Sl} {e sz n : Nat} {cs : List Value} (h : fOwn o i e sz cs n ∈ G) : RdIn G (fSl o' i sz cs n) := ⟨_, h, Rd.sl⟩

theorem Rd.ofO {G : List Fct} {g : Fct} (h : RdIn G g) : Rd (fO G) g := by
  obtain ⟨f, hf, h⟩ := h
  exact ⟨fun w hw => h.p w (f.aged_out.1 w (hw.1 f hf).1), fun b hb => ⟨f, hf, f.aged_out.2 b (h.foot b hb)⟩⟩

theorem Rd.ofR {G : List Fct} {g : Fct} (h : RdIn G g) : Rd (fR G) g := by
  obtain ⟨f, hf, h⟩ := h
  exact ⟨fun w hw => h.p w (hw _ (List.mem_map_of_mem hf)), fun b hb => ⟨_, List.mem_map_of_mem hf, h.foot b hb⟩⟩

theorem Rd.O_R {G G' : List Fct} (h : ∀ g ∈ G', g ∈ G) : Rd (fO G) (fR G') := by
  refine ⟨fun w hw g hg => ?_, ?_⟩
  · obtain ⟨f, hf, rfl⟩ := List.mem_map.1 hg
    exact f.aged_out.1 w (hw.1 f (h f hf)).1
  · rintro b ⟨g, hg, hb⟩
    obtain ⟨f, hf, rfl⟩ := List.mem_map.1 hg
    exact ⟨f, h f hf, f.aged_out.2 b hb⟩

theorem Rd.R_R {G G' : List Fct} (h : ∀ g ∈ G', g ∈ G) : Rd (fR G) (fR G') := by
  refine ⟨fun w hw g hg => ?_, ?_⟩
  · obtain ⟨f, hf, rfl⟩ := List.mem_map.1 hg
    exact hw _ (List.mem_map_of_mem (h f hf))
  · rintro b ⟨g, hg, hb⟩
    obtain ⟨f, hf, rfl⟩ := List.mem_map.1 hg
    exact ⟨_, List.mem_map_of_mem (h f hf), hb⟩

/-- Wherever F stands, F' stands. -/
def Shift (F F' : List Fct) : Prop := ∀ (E : Env) (A : Nat → Nat) (n : Nat) (B : List (Nat × TypeId × Nat)) (M : List ((Nat × Nat) × SV)) (w : World), WD E A n B M F w → WD E A n B M F' w

theorem Shift.trans {F F' F'' : List Fct} (h : Shift F F') (k : Shift F' F'') : Shift F F'' := fun E A n B M w x => k E A n B M w (h E A n B M w x)

/-- What goes into a bundle of own rows. -/
inductive DerO : Fct → List Fct → Prop
  | own {i : Sl} {e sz n : Nat} {cs : List Value} : DerO (fOwn false i e sz cs n) [fOwn false i e sz cs n]
  | o {G : List Fct} : DerO (fO G) G

theorem DerO.out {f : Fct} {G : List Fct} (h : DerO f G) : (∀ w, f.P w → (∀ g ∈ G, g.P w ∧ g.isOwn = true ∧ g.old = false) ∧ G.Pairwise Dj) ∧ (∀ g ∈ G, ∀ b, g.foot b → f.foot b) ∧ f.isOwn = true ∧ f.old = false := by
  cases h with
  | own => exact ⟨fun w h => ⟨fun g hg => by obtain rfl := List.mem_singleton.1 hg; exact ⟨h, rfl, rfl⟩, List.pairwise_singleton _ _⟩, fun g hg b hb => by obtain rfl := List.mem_singleton.1 hg; exact hb, rfl, rfl⟩
  | o => exact ⟨fun w h => h, fun g hg b hb => ⟨g, hg, hb⟩, rfl, rfl⟩

/-- Each by its number; a number too great by far stands for rows that are nil. -/
def FJ (F : List Fct) : List Nat → List (List Fct) → Prop
  | [], [] => True
  | j :: jx, G :: r => ((∃ f, F[j]? = some f ∧ DerO f G) ∨ (F.length ≤ j ∧ ∀ g ∈ G, nilFact g)) ∧ FJ F jx r
  | _, _ => False

theorem nil_foot {g : Fct} (h : nilFact g) : ∀ b, ¬ g.foot b := by
  cases g with
  | own old i e sz cs n => obtain ⟨_, rfl, _⟩ := h; rintro b ⟨ad, h, _⟩; cases h
  | _ => exact h.elim

theorem nil_own {g : Fct} (h : nilFact g) : g.isOwn = true := by
  cases g with
  | own => rfl
  | _ => exact h.elim

theorem nil_pairwise {G : List Fct} (h : ∀ g ∈ G, nilFact g) : G.Pairwise Dj := by
  rw [List.pairwise_iff_getElem]
  intro i j hi hj _ _ b hb
  exact (nil_foot (h _ (List.getElem_mem hi)) b hb).elim

theorem FJ_len {F : List Fct} : ∀ {ix : List Nat} {Gs : List (List Fct)}, FJ F ix Gs → ix.length = Gs.length
  | [], [], _ => rfl
  | [], _ :: _, h => h.elim
  | _ :: _, [], h => h.elim
  | _ :: _, _ :: _, h => by simp [FJ_len h.2]

theorem FJ_get {F : List Fct} : ∀ {ix : List Nat} {Gs : List (List Fct)}, FJ F ix Gs → ∀ (p j : Nat) (G : List Fct), ix[p]? = some j → Gs[p]? = some G → (∃ f, F[j]? = some f ∧ DerO f G) ∨ ∀ g ∈ G, nilFact g
  | [], _, _, p, j, G, h, _ => by simp at h
  | _ :: _, [], h, _, _, _, _, _ => h.elim
  | i :: ix, G :: r, h, p, j, G', h1, h2 => by
    cases p with
    | zero =>
      simp at h1 h2
      subst h1; subst h2
      exact h.1.imp id (·.2)
    | succ p => exact FJ_get h.2 p j G' (by simpa using h1) (by simpa using h2)

section

variable {E : Env} {A : Nat → Nat} {T : List (Nat × SV)} {n c : Nat} {B : List (Nat × TypeId × Nat)} {M Ms : List ((Nat × Nat) × SV)} {F F' Fs : List Fct} {o : Oper} {next : St → Prop} {w : World}

theorem Shift.splitO (k : Nat) {L G G' : List Fct} (hk : F[k]? = some (fO G)) (hp : G.Perm (L ++ G')) : Shift F (L ++ fO G' :: F.eraseIdx k) := by
  intro E A n B M w h
  obtain ⟨⟨h1, hpw⟩, h2, h3⟩ := h.fct _ (List.mem_of_getElem? hk)
  have hsub := h.sub (eraseIdx_sub F k)
  have hdj := pairwise_nth_erase h.dj hk
  have hpw' := (hp.pairwise_iff (fun h => Dj.symm h)).1 hpw
  rw [List.pairwise_append] at hpw'
  obtain ⟨q1, q2, q3⟩ := hpw'
  have hL : ∀ f ∈ L, f ∈ G := fun f hf => hp.mem_iff.2 (List.mem_append_left _ hf)
  have hG' : ∀ f ∈ G', f ∈ G := fun f hf => hp.mem_iff.2 (List.mem_append_right _ hf)
  refine ⟨h.key, h.inj, h.mem, h.a0, h.n0, h.ext, fun f hf => ?_, ?_⟩
  · rcases List.mem_append.1 hf with hf | hf
    · exact ⟨(h1 f (hL f hf)).1, fun b hb => h2 b ⟨f, hL f hf, hb⟩, fun _ b hb => h3 rfl b ⟨f, hL f hf, hb⟩⟩
    · rcases List.mem_cons.1 hf with rfl | hf
      · refine ⟨⟨fun g hg => h1 g (hG' g hg), q2⟩, ?_, ?_⟩
        · rintro b ⟨g, hg, hb⟩; exact h2 b ⟨g, hG' g hg, hb⟩
        · rintro _ b ⟨g, hg, hb⟩; exact h3 rfl b ⟨g, hG' g hg, hb⟩
      · exact hsub.fct f hf
  · rw [List.pairwise_append]
    refine ⟨q1, ?_, fun f hf g hg ho b hb hb' => ?_⟩
    · rw [List.pairwise_cons]
      refine ⟨fun f hf ho b hb hb' => ?_, hsub.dj⟩
      obtain ⟨g, hg, hgb⟩ := hb
      exact hdj f hf (.inl rfl) b ⟨g, hG' g hg, hgb⟩ hb'
    · rcases List.mem_cons.1 hg with rfl | hg
      · obtain ⟨g, hg, hgb⟩ := hb'
        exact q3 f hf g hg (.inl (h1 f (hL f hf)).2.1) b hb hgb
      · exact hdj g hg (.inl rfl) b ⟨f, hL f hf, hb⟩ hb'

theorem Shift.joinO (ix : List Nat) {Gs : List (List Fct)} (hG : FJ F ix Gs) (hix : nodupB ix = true) {G : List Fct} (hp : Gs.flatten.Perm G) : Shift F (fO G :: dropAt ix 0 F) := by
  intro E A n B M w h
  have hsub := h.sub (dropAt_sub ix F 0)
  have hnd := nodupB_ok hix
  have hlen := FJ_len hG
  have hmem : ∀ g ∈ Gs.flatten, g.isOwn = true ∧ g.old = false ∧ ((∃ i ∈ ix, ∃ f, F[i]? = some f ∧ f.isOwn = true ∧ f.old = false ∧ g.P w ∧ ∀ b, g.foot b → f.foot b) ∨ nilFact g) := by
    intro g hg
    obtain ⟨G0, h0, hg0⟩ := List.mem_flatten.1 hg
    obtain ⟨p, hpp⟩ := List.getElem?_of_mem h0
    have hplt : p < ix.length := by rw [hlen]; exact (List.getElem?_eq_some_iff.1 hpp).1
    rcases FJ_get hG p ix[p] G0 (List.getElem?_eq_getElem hplt) hpp with ⟨f, hf, hd⟩ | hn
    · obtain ⟨d1, d2, d3, d4⟩ := hd.out
      have hfw := (h.nth _ hf).1
      exact ⟨((d1 w hfw).1 g hg0).2.1, ((d1 w hfw).1 g hg0).2.2, .inl ⟨_, List.getElem_mem hplt, f, hf, d3, d4, ((d1 w hfw).1 g hg0).1, d2 g hg0⟩⟩
    · exact ⟨nil_own (hn g hg0), (nilFact_ok (hn g hg0) w).2.2, .inr (hn g hg0)⟩
  have hpw : Gs.flatten.Pairwise Dj := by
    rw [List.pairwise_flatten]
    refine ⟨fun l hl => ?_, ?_⟩
    · obtain ⟨p, hpp⟩ := List.getElem?_of_mem hl
      have hplt : p < ix.length := by rw [hlen]; exact (List.getElem?_eq_some_iff.1 hpp).1
      rcases FJ_get hG p ix[p] l (List.getElem?_eq_getElem hplt) hpp with ⟨f, hf, hd⟩ | hn
      · exact (hd.out.1 w (h.nth _ hf).1).2
      · exact nil_pairwise hn
    · rw [List.pairwise_iff_getElem]
      intro p q hp' hq' hpq x hx y hy _ b hb hb'
      have hpi : p < ix.length := by rw [hlen]; exact hp'
      have hqi : q < ix.length := by rw [hlen]; exact hq'
      rcases FJ_get hG p ix[p] _ (List.getElem?_eq_getElem hpi) (List.getElem?_eq_getElem hp') with ⟨f, hf, hd⟩ | hn
      · rcases FJ_get hG q ix[q] _ (List.getElem?_eq_getElem hqi) (List.getElem?_eq_getElem hq') with ⟨f', hf', hd'⟩ | hn
        · have hne : ix[p] ≠ ix[q] := List.pairwise_iff_getElem.1 hnd p q hpi hqi hpq
          exact pairwise_pick h.dj hne hf hf' (.inl hd.out.2.2.1) b (hd.out.2.1 x hx b hb) (hd'.out.2.1 y hy b hb')
        · exact nil_foot (hn y hy) b hb'
      · exact nil_foot (hn x hx) b hb
  have hm' : ∀ g ∈ G, g ∈ Gs.flatten := fun g hg => hp.mem_iff.2 hg
  refine ⟨hsub.key, hsub.inj, hsub.mem, hsub.a0, hsub.n0, hsub.ext, fun f hf => ?_, ?_⟩
  · rcases List.mem_cons.1 hf with rfl | hf
    · refine ⟨⟨fun g hg => ?_, (hp.pairwise_iff (fun h => Dj.symm h)).1 hpw⟩, ?_, ?_⟩
      · obtain ⟨m1, m2, m3⟩ := hmem g (hm' g hg)
        refine ⟨?_, m1, m2⟩
        rcases m3 with ⟨i, _, f, _, _, _, hgP, _⟩ | hn
        · exact hgP
        · exact (nilFact_ok hn w).1
      · rintro b ⟨g, hg, hb⟩
        rcases (hmem g (hm' g hg)).2.2 with ⟨i, _, f, hf, _, _, _, hfoot⟩ | hn
        · exact (h.fct _ (List.mem_of_getElem? hf)).2.1 b (hfoot b hb)
        · exact (nil_foot hn b hb).elim
      · rintro _ b ⟨g, hg, hb⟩
        rcases (hmem g (hm' g hg)).2.2 with ⟨i, _, f, hf, _, hold, _, hfoot⟩ | hn
        · exact (h.fct _ (List.mem_of_getElem? hf)).2.2 hold b (hfoot b hb)
        · exact (nil_foot hn b hb).elim
    · exact hsub.fct f hf
  · rw [List.pairwise_cons]
    refine ⟨fun r hr ho b hb hb' => ?_, hsub.dj⟩
    obtain ⟨g, hg, hgb⟩ := hb
    rcases (hmem g (hm' g hg)).2.2 with ⟨i, hi, f, hf, hown, _, _, hfoot⟩ | hn
    · obtain ⟨j, hj1, hj2⟩ := dropAt_at ix F 0 r hr
      rw [Nat.zero_add] at hj2
      exact pairwise_pick h.dj (fun e => hj2 (by rw [← e]; exact hi)) hf hj1 (.inl hown) b (hfoot b hgb) hb'
    · exact nil_foot hn b hgb

/-- Facts are dropped. -/
theorem Shift.pick (ix : List Nat) (hF : FW F ix F') (hix : nodupB ix = true) : Shift F F' := fun _ _ _ _ _ _ h => h.pick ix hF hix

theorem stop_shift (h : Shift F F') (k : OpW (opStop E o next T n c B M F')) : OpW (opStop E o next T n c B M F) := ⟨fun A a w hW hT => k.out A a w (h E A n B M w hW) hT⟩

theorem weak_shift {s : St} (h : Shift F F') (k : Weak E (.mk T n c B M F') s) : Weak E (.mk T n c B M F) s := fun a w ⟨A, hW, hT⟩ => k a w ⟨A, h E A n B M w hW, hT⟩

theorem ret_shift {X : (Nat → Nat) → World → Prop} (h : Shift F F') (k : RetW (∀ A w, WD E A n B M F' w → X A w)) : RetW (∀ A w, WD E A n B M F w → X A w) := ⟨fun A w hW => k.out A w (h E A n B M w hW)⟩

theorem draw_shift {X : Act → World → Prop} (h : Shift F F') (k : DrawW (∀ a w, Den E (.mk T n c B M F') a w → X a w)) : DrawW (∀ a w, Den E (.mk T n c B M F) a w → X a w) := ⟨fun a w ⟨A, hW, hT⟩ => k.out a w ⟨A, h E A n B M w hW, hT⟩⟩

/-- A fact for a call, read out of fact k. -/
theorem WD.get (h : WD E A n B M F w) (k : Nat) {f g : Fct} (hk : F[k]? = some f) (r : Rd f g) : g.P w ∧ ∀ b, g.foot b → b < w.heap.size :=
  ⟨r.p w (h.nth k hk).1, fun b hb => (h.nth k hk).2 b (r.foot b hb)⟩

theorem WD.getP (h : WD E A n B M F w) (ga : Nat) {k ty sz : Nat} (hg : ga = A k) (hB : lookBT B k = some (ty, sz)) (j : Nat) {f g : Fct} (hj : F[j]? = some f) (r : Rd f g) : g.P w ∧ ∀ b, g.foot b → b < w.heap.size ∧ b ≠ ga := by
  subst hg
  refine ⟨r.p w (h.nth j hj).1, fun b hb => ?_⟩
  exact ⟨((h.fct _ (List.mem_of_getElem? hj)).2.1 b (r.foot b hb)).1, fun e => ((h.fct _ (List.mem_of_getElem? hj)).2.1 b (r.foot b hb)).2 k ty sz (lookBT_mem hB) e.symm⟩

theorem rdVia {F : List Fct} (k : Nat) {f : Fct} (hk : F[k]? = some f) {o : Bool} {i : Sl} {sz m : Nat} {cs : List Value} (r : Rd f (fSl o i sz cs m)) : ∀ w, (∀ f ∈ F, f.P w) → RdS w i sz cs m :=
  fun w h => r.p w (h f (List.mem_of_getElem? hk))

end

end Go.Sx

namespace Go.Proofs.Ytjkkoonennpceaa

open Go Go.Sx Go.RowKit

structure Waiter where
  t : Int
  n : Int
  deriving DecidableEq

def cWaiter (l : Waiter) : List Value := [.int .i64 l.t, .int .i64 l.n]

theorem encWaiter : Enc cWaiter 2 := ⟨fun _ => rfl, fun _ u hu => by simp [cWaiter] at hu; rcases hu with rfl | rfl <;> rfl⟩

structure Sem where
  free : Int
  limit : Int
  queue : List Waiter
  deriving DecidableEq

structure Once where
  state : Int
  owner : Int
  value : Int
  waits : List Int
  deriving DecidableEq

structure Group where
  count : Int
  waits : List Int
  deriving DecidableEq

structure Barrier where
  parties : Int
  round : Int
  waits : List Int
  deriving DecidableEq

def semV (m : Sem) (q : Sl) : Value := .agg #[.int .i64 m.free, .int .i64 m.limit, q.val m.queue.length]

def onceV (m : Once) (q : Sl) : Value := .agg #[.int .i64 m.state, .int .i64 m.owner, .int .i64 m.value, q.val m.waits.length]

def groupV (m : Group) (q : Sl) : Value := .agg #[.int .i64 m.count, q.val m.waits.length]

def barrierV (m : Barrier) (q : Sl) : Value := .agg #[.int .i64 m.parties, .int .i64 m.round, q.val m.waits.length]

/-- A row and the rows of its elements. -/
def nestO {α : Type} (h : Sl) (ty : TypeId) (enc : α → List Value) (sz : Nat) (inner : α → List Fct) (xs : List α) : List Fct := own h ty enc sz xs :: xs.flatMap inner

theorem nest_in {α : Type} {h : Sl} {ty : TypeId} {enc : α → List Value} {sz : Nat} {inner : α → List Fct} {xs : List α} {j : Nat} (hj : j < xs.length) {f : Fct} (hf : f ∈ inner xs[j]) : f ∈ nestO h ty enc sz inner xs :=
  List.mem_cons_of_mem _ (List.mem_flatMap.2 ⟨_, List.getElem_mem hj, hf⟩)

theorem nest_h {α : Type} {h : Sl} {ty : TypeId} {enc : α → List Value} {sz : Nat} {inner : α → List Fct} {xs : List α} : RdIn (nestO h ty enc sz inner xs) (slo h enc sz xs) := RdIn.own (List.mem_cons_self ..)

structure SemH where
  m : Sem
  q : Sl

structure OnceH where
  m : Once
  q : Sl

structure GroupH where
  m : Group
  q : Sl

structure BarrierH where
  m : Barrier
  q : Sl

structure ChanH where
  m : Chan
  q0 : Sl
  q1 : Sl
  q2 : Sl

def cSemH (x : SemH) : List Value := [.int .i64 x.m.free, .int .i64 x.m.limit, x.q.val x.m.queue.length]

def cOnceH (x : OnceH) : List Value := [.int .i64 x.m.state, .int .i64 x.m.owner, .int .i64 x.m.value, x.q.val x.m.waits.length]

def cGroupH (x : GroupH) : List Value := [.int .i64 x.m.count, x.q.val x.m.waits.length]

def cBarrierH (x : BarrierH) : List Value := [.int .i64 x.m.parties, .int .i64 x.m.round, x.q.val x.m.waits.length]

def cChanH (x : ChanH) : List Value := [.int .i64 x.m.room, x.q0.val x.m.items.length, x.q1.val x.m.senders.length, x.q2.val x.m.getters.length, .bool x.m.closed]

theorem encSemH : Enc cSemH 3 := ⟨fun _ => rfl, fun _ u hu => by simp [cSemH] at hu; rcases hu with rfl | rfl | rfl <;> rfl⟩

theorem encOnceH : Enc cOnceH 4 := ⟨fun _ => rfl, fun _ u hu => by simp [cOnceH] at hu; rcases hu with rfl | rfl | rfl | rfl <;> rfl⟩

theorem encGroupH : Enc cGroupH 2 := ⟨fun _ => rfl, fun _ u hu => by simp [cGroupH] at hu; rcases hu with rfl | rfl <;> rfl⟩

theorem encBarrierH : Enc cBarrierH 3 := ⟨fun _ => rfl, fun _ u hu => by simp [cBarrierH] at hu; rcases hu with rfl | rfl | rfl <;> rfl⟩

theorem encChanH : Enc cChanH 5 := ⟨fun _ => rfl, fun _ u hu => by simp [cChanH] at hu; rcases hu with rfl | rfl | rfl | rfl | rfl <;> rfl⟩

def semO (x : SemH) : List Fct := [own x.q 98 cWaiter 2 x.m.queue]

def onceO (x : OnceH) : List Fct := [own x.q 3 cInt 1 x.m.waits]

def groupO (x : GroupH) : List Fct := [own x.q 3 cInt 1 x.m.waits]

def barrierO (x : BarrierH) : List Fct := [own x.q 3 cInt 1 x.m.waits]

def chanO (x : ChanH) : List Fct := [own x.q0 3 cInt 1 x.m.items, own x.q1 101 cLet 2 x.m.senders, own x.q2 3 cInt 1 x.m.getters]

def semsO (h : Sl) (xs : List SemH) : List Fct := nestO h 45 cSemH 3 semO xs

def oncesO (h : Sl) (xs : List OnceH) : List Fct := nestO h 57 cOnceH 4 onceO xs

def groupsO (h : Sl) (xs : List GroupH) : List Fct := nestO h 47 cGroupH 2 groupO xs

def barriersO (h : Sl) (xs : List BarrierH) : List Fct := nestO h 49 cBarrierH 3 barrierO xs

def chansO (h : Sl) (xs : List ChanH) : List Fct := nestO h 52 cChanH 5 chanO xs

theorem semsO_0 (h : Sl) (xs : List SemH) (j : Nat) (hj : j < xs.length) : RdIn (semsO h xs) (slo (xs[j]).q cWaiter 2 (xs[j]).m.queue) := RdIn.own (nest_in hj (List.mem_cons_self ..))

theorem oncesO_0 (h : Sl) (xs : List OnceH) (j : Nat) (hj : j < xs.length) : RdIn (oncesO h xs) (slo (xs[j]).q cInt 1 (xs[j]).m.waits) := RdIn.own (nest_in hj (List.mem_cons_self ..))

theorem groupsO_0 (h : Sl) (xs : List GroupH) (j : Nat) (hj : j < xs.length) : RdIn (groupsO h xs) (slo (xs[j]).q cInt 1 (xs[j]).m.waits) := RdIn.own (nest_in hj (List.mem_cons_self ..))

theorem barriersO_0 (h : Sl) (xs : List BarrierH) (j : Nat) (hj : j < xs.length) : RdIn (barriersO h xs) (slo (xs[j]).q cInt 1 (xs[j]).m.waits) := RdIn.own (nest_in hj (List.mem_cons_self ..))

theorem chansO_0 (h : Sl) (xs : List ChanH) (j : Nat) (hj : j < xs.length) : RdIn (chansO h xs) (slo (xs[j]).q0 cInt 1 (xs[j]).m.items) := RdIn.own (nest_in hj (List.mem_cons_self ..))

theorem chansO_1 (h : Sl) (xs : List ChanH) (j : Nat) (hj : j < xs.length) : RdIn (chansO h xs) (slo (xs[j]).q1 cLet 2 (xs[j]).m.senders) := RdIn.own (nest_in hj (List.mem_cons_of_mem _ (List.mem_cons_self ..)))

theorem chansO_2 (h : Sl) (xs : List ChanH) (j : Nat) (hj : j < xs.length) : RdIn (chansO h xs) (slo (xs[j]).q2 cInt 1 (xs[j]).m.getters) := RdIn.own (nest_in hj (List.mem_cons_of_mem _ (List.mem_cons_of_mem _ (List.mem_cons_self ..))))

theorem map_take_succ {α β : Type} {f : α → β} {xs : List α} {ys : List β} {k : Nat} (hk : k < xs.length) (h : ys = (xs.map f).take k) {y : β} (hy : y = f xs[k]) : ys ++ [y] = (xs.map f).take (k + 1) := by
  subst hy; subst h
  rw [List.take_succ_eq_append_getElem (by simpa using hk), List.getElem_map]

end Go.Proofs.Ytjkkoonennpceaa

namespace Go.Proofs.Ytjkkoonennpceaa

open Go Go.Sx Go.RowKit

theorem e_succ (k n : Nat) (h : k < n) (hn : n ≤ 4611686018427387904) : IntKind.i64.wrap ((k : Int) + 1) = ((k + 1 : Nat) : Int) := by
  rw [IntKind.wrap_i64]; omega

end Go.Proofs.Ytjkkoonennpceaa

namespace Go.Proofs.Ytjkkoonennpceaa

open Go Go.Sx Go.RowKit

structure Op where
  kind : Int
  on : Int
  arg : Int
  deriving DecidableEq

def cOp (l : Op) : List Value := [.int .i64 l.kind, .int .i64 l.on, .int .i64 l.arg]

theorem encOp : Enc cOp 3 := ⟨fun _ => rfl, fun _ u hu => by simp [cOp] at hu; rcases hu with rfl | rfl | rfl <;> rfl⟩

def Op0 : Op := ⟨0, 0, 0⟩

structure OpSH where
  m : List Op
  q : Sl

def cOpSH (x : OpSH) : List Value := [x.q.val x.m.length]

theorem encOpSH : Enc cOpSH 1 := ⟨fun _ => rfl, fun _ u hu => by simp [cOpSH] at hu; subst hu; rfl⟩

def opSO (x : OpSH) : List Fct := [own x.q 75 cOp 3 x.m]

def threadsO (h : Sl) (xs : List OpSH) : List Fct := nestO h 39 cOpSH 1 opSO xs

theorem threadsO_0 (h : Sl) (xs : List OpSH) (j : Nat) (hj : j < xs.length) : RdIn (threadsO h xs) (slo (xs[j]).q cOp 3 (xs[j]).m) := RdIn.own (nest_in hj (List.mem_cons_self ..))

structure Prog where
  sems : List Int
  groups : List Int
  barriers : List Int
  rooms : List Int
  threads : List (List Op)
  deriving DecidableEq

structure ProgH where
  sems : List Int
  groups : List Int
  barriers : List Int
  rooms : List Int
  threads : List OpSH
  h0 : Sl
  h1 : Sl
  h2 : Sl
  h3 : Sl
  h4 : Sl

def ProgH.pure (s : ProgH) : Prog := ⟨s.sems, s.groups, s.barriers, s.rooms, s.threads.map (·.m)⟩

def progV (s : ProgH) : Value := .agg #[s.h0.val s.sems.length, s.h1.val s.groups.length, s.h2.val s.barriers.length, s.h3.val s.rooms.length, s.h4.val s.threads.length]

def progO (s : ProgH) : List Fct := own s.h0 3 cInt 1 s.sems :: own s.h1 3 cInt 1 s.groups :: own s.h2 3 cInt 1 s.barriers :: own s.h3 3 cInt 1 s.rooms :: threadsO s.h4 s.threads

theorem progO_sems (s : ProgH) : RdIn (progO s) (slo s.h0 cInt 1 s.sems) := RdIn.own (o := false) (e := 3) (by simp [progO])

theorem progO_groups (s : ProgH) : RdIn (progO s) (slo s.h1 cInt 1 s.groups) := RdIn.own (o := false) (e := 3) (by simp [progO])

theorem progO_barriers (s : ProgH) : RdIn (progO s) (slo s.h2 cInt 1 s.barriers) := RdIn.own (o := false) (e := 3) (by simp [progO])

theorem progO_rooms (s : ProgH) : RdIn (progO s) (slo s.h3 cInt 1 s.rooms) := RdIn.own (o := false) (e := 3) (by simp [progO])

theorem progO_threads (s : ProgH) : ∀ g ∈ threadsO s.h4 s.threads, g ∈ progO s := fun g hg => by simp [progO, hg]

structure State where
  places : List Int
  status : List Int
  sems : List Sem
  onces : List Once
  groups : List Group
  barriers : List Barrier
  chans : List Chan
  said : List Int
  fault : Int
  deriving DecidableEq

structure StateH where
  places : List Int
  status : List Int
  sems : List SemH
  onces : List OnceH
  groups : List GroupH
  barriers : List BarrierH
  chans : List ChanH
  said : List Int
  fault : Int
  h0 : Sl
  h1 : Sl
  h2 : Sl
  h3 : Sl
  h4 : Sl
  h5 : Sl
  h6 : Sl
  h7 : Sl

def StateH.pure (s : StateH) : State := ⟨s.places, s.status, s.sems.map (·.m), s.onces.map (·.m), s.groups.map (·.m), s.barriers.map (·.m), s.chans.map (·.m), s.said, s.fault⟩

def stateV (s : StateH) : Value := .agg #[s.h0.val s.places.length, s.h1.val s.status.length, s.h2.val s.sems.length, s.h3.val s.onces.length, s.h4.val s.groups.length, s.h5.val s.barriers.length, s.h6.val s.chans.length, s.h7.val s.said.length, .int .i64 s.fault]

def stateO (s : StateH) : List Fct := own s.h0 3 cInt 1 s.places :: own s.h1 3 cInt 1 s.status :: (semsO s.h2 s.sems ++ (oncesO s.h3 s.onces ++ (groupsO s.h4 s.groups ++ (barriersO s.h5 s.barriers ++ (chansO s.h6 s.chans ++ [own s.h7 3 cInt 1 s.said])))))

theorem stateO_places (s : StateH) : RdIn (stateO s) (slo s.h0 cInt 1 s.places) := RdIn.own (o := false) (e := 3) (by simp [stateO])

theorem stateO_status (s : StateH) : RdIn (stateO s) (slo s.h1 cInt 1 s.status) := RdIn.own (o := false) (e := 3) (by simp [stateO])

theorem stateO_said (s : StateH) : RdIn (stateO s) (slo s.h7 cInt 1 s.said) := RdIn.own (o := false) (e := 3) (by simp [stateO])

theorem stateO_sems (s : StateH) : ∀ g ∈ semsO s.h2 s.sems, g ∈ stateO s := fun g hg => by simp [stateO, hg]

theorem stateO_onces (s : StateH) : ∀ g ∈ oncesO s.h3 s.onces, g ∈ stateO s := fun g hg => by simp [stateO, hg]

theorem stateO_groups (s : StateH) : ∀ g ∈ groupsO s.h4 s.groups, g ∈ stateO s := fun g hg => by simp [stateO, hg]

theorem stateO_barriers (s : StateH) : ∀ g ∈ barriersO s.h5 s.barriers, g ∈ stateO s := fun g hg => by simp [stateO, hg]

theorem stateO_chans (s : StateH) : ∀ g ∈ chansO s.h6 s.chans, g ∈ stateO s := fun g hg => by simp [stateO, hg]

/-- A part of a part. -/
theorem RdIn.sub {G G' : List Fct} {g : Fct} (h : RdIn G g) (hs : ∀ f ∈ G, f ∈ G') : RdIn G' g := by
  obtain ⟨f, hf, k⟩ := h
  exact ⟨f, hs f hf, k⟩

/-- A list that is small, and whose elements are. -/
def allS {α : Type} (P : α → Prop) (xs : List α) : Prop := xs.length ≤ 1048576 ∧ ∀ x ∈ xs, P x

theorem allS_map {α β : Type} {P : β → Prop} {f : α → β} {xs : List α} (h : allS P (xs.map f)) : xs.length ≤ 1048576 ∧ ∀ x ∈ xs, P (f x) :=
  ⟨by simpa using h.1, fun x hx => h.2 _ (List.mem_map_of_mem hx)⟩

end Go.Proofs.Ytjkkoonennpceaa

namespace Go.Sx

open Go Go.RowKit

/-- The fields of a struct of n ints: from place k on. -/
def flds (it : TypeId) : Nat → Nat → List (Bool × TypeId × Nat)
  | _, 0 => []
  | k, n + 1 => (false, it, k) :: flds it (k + 1) n

def vInt (x : Int) : Value := .int .i64 x

theorem part_one' {P : Program} {t : TypeId} {d : TypeDesc} (hd : P.underlying t = some d) (ha : isAggD d = false) (cs : Array Value) (off : Nat) (v : Value) (h : cs[off]? = some v) (w : World) : (part t cs off).run P w = .ok v w := by
  unfold part
  rw [Sem.run_bind, run_isAgg hd, ha]
  simp [h]

theorem eqFields_ints {P : Program} (w : World) {it : TypeId} (hI : P.underlying it = some (.int .i64)) (d : Nat) : ∀ (fs : List Field) (us bs : List Int) (p q : List Value), p.length = q.length → us.length = bs.length →
    fs.map (fun f => (f.name == "_", f.type, f.offset)) = flds it p.length us.length →
    (Op.eqFields (d + 1) (p ++ us.map vInt).toArray (q ++ bs.map vInt).toArray fs).run P w = .ok (decide (us = bs)) w
  | [], us, bs, p, q, hp, hl, hf => by
    cases us with
    | nil => cases bs with
      | nil => simp [Op.eqFields]
      | cons _ _ => simp at hl
    | cons _ _ => simp [flds] at hf
  | f :: fs, us, bs, p, q, hp, hl, hf => by
    cases us with
    | nil => simp [flds] at hf
    | cons a us =>
      cases bs with
      | nil => simp at hl
      | cons b bs =>
        simp only [List.map_cons, List.length_cons, flds, List.cons.injEq, Prod.mk.injEq] at hf
        obtain ⟨⟨f1, f2, f3⟩, hf⟩ := hf
        have f1' : f.name ≠ "_" := by simpa using f1
        have ih := eqFields_ints w hI d fs us bs (p ++ [vInt a]) (q ++ [vInt b]) (by simp [hp]) (by simpa using hl) (by simpa using hf)
        simp only [List.append_assoc, List.cons_append, List.nil_append] at ih
        have p1 := part_one' hI rfl (p ++ (a :: us).map vInt).toArray p.length (vInt a) (by simp) w
        have p2 := part_one' hI rfl (q ++ (b :: bs).map vInt).toArray p.length (vInt b) (by simp [hp]) w
        have q1 : (Op.equalIn (d + 1) it (vInt a) (vInt b)).run P w = .ok (a == b) w := run_equalIn_int w d it .i64 .i64 a b hI
        simp only [List.map_cons] at p1 p2
        simp only [Op.eqFields, f2, f3, f1', ne_eq, not_false_eq_true, if_true, Sem.run_bind, p1, p2, Result.andThen_ok, q1, List.map_cons]
        by_cases h1 : a = b
        · subst h1
          simp [ih]
        · simp [h1]

theorem neq_ints {P : Program} {t it : TypeId} {xs ys : List Int} (hS : P.underlying t = some (.struct (P.fieldsOf t))) (hp : P.stoodInHeld t = false) (hI : P.underlying it = some (.int .i64))
    (hl : xs.length = ys.length) (hF : (P.fieldsOf t).toList.map (fun f => (f.name == "_", f.type, f.offset)) = flds it 0 xs.length) (w : World) :
    (binOp .neq t (.agg (xs.map vInt).toArray) (.agg (ys.map vInt).toArray)).run P w = .ok (.bool (decide (xs ≠ ys))) w := by
  have := eqFields_ints w hI 9998 (P.fieldsOf t).toList xs ys [] [] rfl hl hF
  simp only [List.nil_append] at this
  rw [run_neq_struct, show (10000 : Nat) = 9999 + 1 from rfl, run_equalIn_agg w 9999 t _ _ hS hp, this]
  by_cases h : xs = ys <;> simp [h]

end Go.Sx

namespace Go.Sx

open Go Go.RowKit

theorem fB_of {w : World} {G : List Fct} (h : ∀ g ∈ G, g.P w ∧ ∀ b, g.foot b → b < w.heap.size) : (fB true G).P w ∧ ∀ b, (fB true G).foot b → b < w.heap.size :=
  ⟨fun g hg => (h g hg).1, fun b ⟨g, hg, hb⟩ => (h g hg).2 b hb⟩

theorem fB_two {w : World} {f g : Fct} (h : f.P w ∧ ∀ b, f.foot b → b < w.heap.size) (k : g.P w ∧ ∀ b, g.foot b → b < w.heap.size) : (fB true [f, g]).P w ∧ ∀ b, (fB true [f, g]).foot b → b < w.heap.size :=
  fB_of fun e he => by
    simp only [List.mem_cons, List.not_mem_nil, or_false] at he
    rcases he with rfl | rfl
    · exact h
    · exact k

theorem fB_mem {w : World} {G : List Fct} (h : (fB true G).P w ∧ ∀ b, (fB true G).foot b → b < w.heap.size) {g : Fct} (hg : g ∈ G) : g.P w ∧ ∀ b, g.foot b → b < w.heap.size :=
  ⟨h.1 g hg, fun b hb => h.2 b ⟨g, hg, hb⟩⟩

section

variable {E : Env} {ti : Nat → TI} {A : Nat → Nat} {T : List (Nat × SV)} {n c : Nat} {B : List (Nat × TypeId × Nat)} {M Ms : List ((Nat × Nat) × SV)} {F Fs : List Fct} {o : Oper} {next : St → Prop} {w : World}

/-- A load of a part of a variable that a fact knows. -/
theorem stop_loadF (k1 : Nat) {t ty : TypeId} {x : Operand} {g off d : Nat} {cs : List Value} {v : Value} {size : Nat} {zero : List Value} {fs : List (Nat × Nat × Bool)} {el : Option TypeId} {ik : Option IntKind} {kk bytes : Nat}
    (hti : ∀ t, TIok E.P t (ti t)) (hop : o.op = .load t x) (hx : evalO T x = some (.v (.pointer (some ⟨g, off, none⟩)))) (ht : ti t = .mk false size zero fs el ik kk bytes) (hF : F[k1]? = some (fVar g ty cs)) (hv : cs[off]? = some v) (hd : Dst E o d)
    (hnext : next (.mk ((d, .v v) :: T) n c B M F)) : OpW (opStop E o next T n c B M F) := by
  refine ⟨fun A a w hW hT => ?_⟩
  have htt := hti t
  rw [ht] at htt
  obtain ⟨ii, dd, z, e1, e2, e3, e4, e5, e6, e7, e8, e9, e10, e11⟩ := tiSum_parts htt
  have hx' : a.eval x = .pointer (some ⟨g, off, none⟩) := (evalO_sound hT hx).1
  have hb : Blk w g ty cs := (hW.nth k1 hF).1
  have hc : w.cell? ⟨g, off, none⟩ = some v := by
    rw [cell_of_row _ _ _ _ _ _ hb]
    show cs.toArray[off]? = some v
    simpa using hv
  have hr : (execOp a.eval o).run E.P w = .ok (.value v) w := by
    simp [execOp, hop, hx', Instr.loadAt, Instr.sureAddr, run_loadVar_one (w := w) e2 e3 _ _ hc]
  refine upon_of_value hr ?_
  rw [hd.1]
  exact ⟨_, ⟨_, hW, hT.put (v := .v v) hd.lt trivial⟩, hnext⟩

end

theorem eqGuard_str {P : Program} {op : BinOp} {t : TypeId} {x y : Operand} {a b : ByteArray} (w : World) : (eqGuard op t x y (.string a) (.string b)).run P w = .ok () w := by
  cases op <;> rfl

theorem eql_str {P : Program} {t : TypeId} {a b : ByteArray} (w : World) : (binOp .eql t (.string a) (.string b)).run P w = .ok (.bool (a.toList == b.toList)) w := by
  rw [binOp_string_eql]; rfl

end Go.Sx

namespace Go.Proofs.Ytjkkoonennpceaa

open Go Go.Sx Go.RowKit

def within (xs : List Int) (lo hi : Int) : Prop := xs.length ≤ 3 ∧ ∀ x ∈ xs, lo ≤ x ∧ x ≤ hi

def Prog.shared (p : Prog) (k : Int) : Int := if k = 1 then 1 else if k = 2 ∨ k = 3 then p.sems.length else if k = 4 then 3 else if k = 5 ∨ k = 6 then p.groups.length else if k = 7 then p.barriers.length else p.rooms.length

def Prog.argOk (p : Prog) (o : Op) : Prop := if o.kind = 2 ∨ o.kind = 3 then 1 ≤ o.arg ∧ o.arg ≤ p.sems.getD o.on.toNat 0 else if o.kind = 5 then -9 ≤ o.arg ∧ o.arg ≤ 9 else if o.kind = 1 ∨ o.kind = 4 ∨ o.kind = 8 then isValue o.arg = true else o.arg = 0

def OpOk (p : Prog) (o : Op) : Prop := 1 ≤ o.kind ∧ o.kind ≤ 10 ∧ 0 ≤ o.on ∧ o.on < p.shared o.kind ∧ p.argOk o

structure ProgOk (p : Prog) : Prop where
  sems : within p.sems 1 9
  groups : within p.groups 0 9
  barriers : within p.barriers 1 6
  rooms : within p.rooms 0 4
  n1 : 1 ≤ p.threads.length
  n4 : p.threads.length ≤ 4
  ops : ∀ t ∈ p.threads, t.length ≤ 8 ∧ ∀ o ∈ t, OpOk p o

theorem opOk1 {p : Prog} {o : Op} (h : o.kind = 1) : OpOk p o ↔ o.on = 0 ∧ isValue o.arg = true := by
  simp only [OpOk, Prog.shared, Prog.argOk, h]; by_cases hv : isValue o.arg = true <;> simp [hv] <;> omega

theorem opOk2 {p : Prog} {o : Op} (h : o.kind = 2 ∨ o.kind = 3) : OpOk p o ↔ (0 ≤ o.on ∧ o.on < p.sems.length) ∧ 1 ≤ o.arg ∧ o.arg ≤ p.sems.getD o.on.toNat 0 := by
  rcases h with h | h <;> simp only [OpOk, Prog.shared, Prog.argOk, h] <;> simp <;> omega

theorem opOk4 {p : Prog} {o : Op} (h : o.kind = 4) : OpOk p o ↔ 0 ≤ o.on ∧ o.on ≤ 2 ∧ isValue o.arg = true := by
  simp only [OpOk, Prog.shared, Prog.argOk, h]; by_cases hv : isValue o.arg = true <;> simp [hv] <;> omega

theorem opOk5 {p : Prog} {o : Op} (h : o.kind = 5) : OpOk p o ↔ (0 ≤ o.on ∧ o.on < p.groups.length) ∧ -9 ≤ o.arg ∧ o.arg ≤ 9 := by
  simp only [OpOk, Prog.shared, Prog.argOk, h]; simp; omega

theorem opOk6 {p : Prog} {o : Op} (h : o.kind = 6) : OpOk p o ↔ (0 ≤ o.on ∧ o.on < p.groups.length) ∧ o.arg = 0 := by
  simp only [OpOk, Prog.shared, Prog.argOk, h]; simp; omega

theorem opOk7 {p : Prog} {o : Op} (h : o.kind = 7) : OpOk p o ↔ (0 ≤ o.on ∧ o.on < p.barriers.length) ∧ o.arg = 0 := by
  simp only [OpOk, Prog.shared, Prog.argOk, h]; simp; omega

theorem opOk8 {p : Prog} {o : Op} (h : o.kind = 8) : OpOk p o ↔ (0 ≤ o.on ∧ o.on < p.rooms.length) ∧ isValue o.arg = true := by
  simp only [OpOk, Prog.shared, Prog.argOk, h]; by_cases hv : isValue o.arg = true <;> simp [hv] <;> omega

theorem opOk9 {p : Prog} {o : Op} (h : o.kind = 9 ∨ o.kind = 10) : OpOk p o ↔ (0 ≤ o.on ∧ o.on < p.rooms.length) ∧ o.arg = 0 := by
  rcases h with h | h <;> simp only [OpOk, Prog.shared, Prog.argOk, h] <;> simp <;> omega

theorem opOk0 {p : Prog} {o : Op} (h : o.kind < 1 ∨ 10 < o.kind) : ¬ OpOk p o := fun e => by
  obtain ⟨h1, h2, _⟩ := e; omega

theorem tno {P : Prop} (h : ¬ P) : false = true ↔ P := ⟨fun e => (by cases e), fun e => (h e).elim⟩

theorem tyes {P : Prop} (h : P) : true = true ↔ P := ⟨fun _ => h, fun _ => rfl⟩

/-- What a function that tells returns: a bool, true if and only if P. -/
abbrev Tells (w : World) (P : Prop) : Ending → World → Prop := Ret w fun v L => ∃ b : Bool, v = .bool b ∧ (b = true ↔ P) ∧ L = []

set_option maxRecDepth 100000 in
theorem indexFunc_c {fv : FuncId} {cap : Array Value} {G : List Fct} {q : Int → Bool} (hcl : callable Try.prog fv = true) (hc : ∀ x w, At w [fB true G] → Calls Try.prog fv ([Value.int .i64 x] ++ cap.toList).toArray w (Ret w fun v L => v = .bool (q x) ∧ L = []))
    (i : Sl) (xs : List Int) (w : World) (h : At w [slo i cInt 1 xs, fB true G]) (hb : xs.length ≤ 4294967296) :
    Calls Try.prog 66 #[i.val xs.length, .func (.func fv) #[] cap] w (Ret w fun v L => ∃ k : Int, v = .int .i64 k ∧ (0 ≤ k ↔ ∃ x ∈ xs, q x = true) ∧ L = []) := by
  refine calls2 Try.func66 rfl tabOk w _ rfl _ rfl _ h ⟨rfl, rfl, rfl, rfl, trivial⟩ _ _ (by decide) ?_
  refine LoopW.mk ⟨{ k : Nat // k ≤ xs.length ∧ ∀ x ∈ xs.take k, ¬ q x = true },
    fun p => .mk [(0, .v (i.val xs.length)), (1, .v (.func (.func fv) #[] cap)), (7, .v (.int .i64 xs.length)), (8, .v (.int .i64 p.1))] 0 0 [] [] [slo i cInt 1 xs, fB true G],
    fun p => xs.length - p.1, ⟨0, Nat.zero_le _, by simp⟩, ?_, ?_⟩
  · refine weak_mk [0, 1] ?_ ?_ ?_ ?_ ?_ rfl rfl
    · repeat (first | exact trivial | refine ⟨⟨_, rfl, (by first | exact .of rfl | exact .lit rfl | exact .of (by first | (rfl)) | exact .lit (by first | (rfl))), (by first | exact trivial | exact Nat.le_of_ble_eq_true rfl | exact small1 rfl)⟩, ?_⟩)
    · repeat (first | exact trivial | refine ⟨⟨(by first | exact .head _ | exact .tail _ (.head _) | exact .tail _ (.tail _ (.head _)) | exact .tail _ (.tail _ (.tail _ (.head _))) | exact .tail _ (.tail _ (.tail _ (.tail _ (.head _)))) | exact .tail _ (.tail _ (.tail _ (.tail _ (.tail _ (.head _))))) | exact .tail _ (.tail _ (.tail _ (.tail _ (.tail _ (.tail _ (.head _)))))) | exact .tail _ (.tail _ (.tail _ (.tail _ (.tail _ (.tail _ (.tail _ (.head _))))))) | exact .tail _ (.tail _ (.tail _ (.tail _ (.tail _ (.tail _ (.tail _ (.tail _ (.head _)))))))) | exact .tail _ (.tail _ (.tail _ (.tail _ (.tail _ (.tail _ (.tail _ (.tail _ (.tail _ (.head _)))))))))), Nat.le_of_ble_eq_true rfl⟩, ?_⟩)
    · repeat (first | exact trivial | refine ⟨⟨_, rfl, (by first | exact .of rfl | exact .lit rfl | exact .of (by first | (rfl)) | exact .lit (by first | (rfl))), (by first | exact trivial | exact Nat.le_of_ble_eq_true rfl | exact small1 rfl)⟩, ?_⟩)
    · repeat (first | exact trivial | refine ⟨⟨_, rfl⟩, ?_⟩)
    · repeat (first | exact trivial | refine ⟨.inl ⟨_, rfl, (by first | rfl | (rfl))⟩, ?_⟩ | refine ⟨.inr ⟨Nat.le_of_ble_eq_true rfl, rfl, rfl, rfl, rfl⟩, ?_⟩)
  · rintro ⟨k, hk, he⟩
    refine CaseB.mk (fun h => ?_) (fun h => ?_)
    · have hlt : k < xs.length := by simpa using h
      refine stop_idx encInt tabOk rfl rfl rfl rfl rfl ⟨rfl, rfl⟩ (by first | exact rdAt 0 rfl | exact rdOwnAt 0 rfl | exact rdAt 1 rfl | exact rdOwnAt 1 rfl | exact rdAt 2 rfl | exact rdOwnAt 2 rfl | exact rdAt 3 rfl | exact rdOwnAt 3 rfl | exact rdAt 4 rfl | exact rdOwnAt 4 rfl | exact rdAt 5 rfl | exact rdOwnAt 5 rfl | exact rdAt 6 rfl | exact rdOwnAt 6 rfl | exact rdAt 7 rfl | exact rdOwnAt 7 rfl | exact rdAt 8 rfl | exact rdOwnAt 8 rfl | exact rdAt 9 rfl | exact rdOwnAt 9 rfl | exact rdAt 10 rfl | exact rdOwnAt 10 rfl | exact rdAt 11 rfl | exact rdOwnAt 11 rfl | exact rdAt 12 rfl | exact rdOwnAt 12 rfl | exact rdAt 13 rfl | exact rdOwnAt 13 rfl | exact rdAt 14 rfl | exact rdOwnAt 14 rfl | exact rdAt 15 rfl | exact rdOwnAt 15 rfl | exact rdAt 16 rfl | exact rdOwnAt 16 rfl | exact rdAt 17 rfl | exact rdOwnAt 17 rfl | exact rdAt 18 rfl | exact rdOwnAt 18 rfl | exact rdAt 19 rfl | exact rdOwnAt 19 rfl | exact rdAt 20 rfl | exact rdOwnAt 20 rfl | exact rdAt 21 rfl | exact rdOwnAt 21 rfl | exact rdAt 22 rfl | exact rdOwnAt 22 rfl | exact rdAt 23 rfl | exact rdOwnAt 23 rfl) k rfl (by first | omega | (simp; done) | (simp; omega) | (unfold maxLen; omega) | (unfold maxLen; simp; done) | (unfold maxLen; simp; omega)) (fun ad => ?_)
      refine stop_callV _ hcl rfl rfl rfl rfl ⟨rfl, rfl⟩ (fun A w hW => hc _ w ⟨hW.get 1 rfl (.refl _), trivial⟩) ?_
      rintro v L ⟨rfl, rfl⟩
      refine CaseB.mk (fun h => ?_) (fun h => ?_)
      · exact retw [] ⟨(k : Int), rfl, ⟨fun _ => ⟨xs[k], List.getElem_mem hlt, h⟩, fun _ => Int.natCast_nonneg k⟩, rfl⟩ trivial rfl trivial (fun _ => rfl)
      · have hw := wrapN k _ hlt hb
        refine ⟨⟨k + 1, by omega, fun x hx => ?_⟩, ?_, by simp; omega⟩
        · rw [List.take_succ_eq_append_getElem hlt] at hx
          rcases List.mem_append.1 hx with hx | hx
          · exact he x hx
          · simp at hx; subst hx; simpa using h
        · refine weak_mk [0, 1] ?_ ?_ ?_ ?_ ?_ rfl rfl
          · repeat (first | exact trivial | refine ⟨⟨_, rfl, (by first | exact .of rfl | exact .lit rfl | exact .of (by first | ((exact congrArg (fun z => SV.v (Value.int .i64 z)) hw))) | exact .lit (by first | ((exact congrArg (fun z => SV.v (Value.int .i64 z)) hw)))), (by first | exact trivial | exact Nat.le_of_ble_eq_true rfl | exact small1 rfl)⟩, ?_⟩)
          · repeat (first | exact trivial | refine ⟨⟨(by first | exact .head _ | exact .tail _ (.head _) | exact .tail _ (.tail _ (.head _)) | exact .tail _ (.tail _ (.tail _ (.head _))) | exact .tail _ (.tail _ (.tail _ (.tail _ (.head _)))) | exact .tail _ (.tail _ (.tail _ (.tail _ (.tail _ (.head _))))) | exact .tail _ (.tail _ (.tail _ (.tail _ (.tail _ (.tail _ (.head _)))))) | exact .tail _ (.tail _ (.tail _ (.tail _ (.tail _ (.tail _ (.tail _ (.head _))))))) | exact .tail _ (.tail _ (.tail _ (.tail _ (.tail _ (.tail _ (.tail _ (.tail _ (.head _)))))))) | exact .tail _ (.tail _ (.tail _ (.tail _ (.tail _ (.tail _ (.tail _ (.tail _ (.tail _ (.head _)))))))))), Nat.le_of_ble_eq_true rfl⟩, ?_⟩)
          · repeat (first | exact trivial | refine ⟨⟨_, rfl, (by first | exact .of rfl | exact .lit rfl | exact .of (by first | ((exact congrArg (fun z => SV.v (Value.int .i64 z)) hw))) | exact .lit (by first | ((exact congrArg (fun z => SV.v (Value.int .i64 z)) hw)))), (by first | exact trivial | exact Nat.le_of_ble_eq_true rfl | exact small1 rfl)⟩, ?_⟩)
          · repeat (first | exact trivial | refine ⟨⟨_, rfl⟩, ?_⟩)
          · repeat (first | exact trivial | refine ⟨.inl ⟨_, rfl, (by first | rfl | ((exact congrArg (fun z => SV.v (Value.int .i64 z)) hw)))⟩, ?_⟩ | refine ⟨.inr ⟨Nat.le_of_ble_eq_true rfl, rfl, rfl, rfl, rfl⟩, ?_⟩)
    · have hge : xs.length ≤ k := by simpa using h
      rw [List.take_of_length_le hge] at he
      exact retw [] ⟨-1, rfl, ⟨fun h => by omega, fun ⟨x, hx, hq⟩ => (he x hx hq).elim⟩, rfl⟩ trivial rfl trivial (fun _ => rfl)

set_option maxRecDepth 100000 in
theorem containsFunc_c {fv : FuncId} {cap : Array Value} {G : List Fct} {q : Int → Bool} (hcl : callable Try.prog fv = true) (hc : ∀ x w, At w [fB true G] → Calls Try.prog fv ([Value.int .i64 x] ++ cap.toList).toArray w (Ret w fun v L => v = .bool (q x) ∧ L = []))
    (i : Sl) (xs : List Int) (w : World) (h : At w [slo i cInt 1 xs, fB true G]) (hb : xs.length ≤ 4294967296) :
    Calls Try.prog 47 #[i.val xs.length, .func (.func fv) #[] cap] w (Tells w (∃ x ∈ xs, q x = true)) := by
  refine calls2 Try.func47 rfl tabOk w _ rfl _ rfl _ h ⟨rfl, rfl, rfl, rfl, trivial⟩ _ _ (by decide) ?_
  refine stop_call _ cl66 rfl rfl rfl rfl ⟨rfl, rfl⟩ (fun A w hW => indexFunc_c hcl hc i xs w ⟨hW.get 0 rfl (.refl _), hW.get 1 rfl (.refl _), trivial⟩ hb) ?_
  rintro v L ⟨k, rfl, hk, rfl⟩
  exact retw [] ⟨_, rfl, by simpa using hk, rfl⟩ trivial rfl trivial (fun _ => rfl)

abbrev varI2 (g : Nat) (t : Int) : Fct := fVar g 3 [.int .i64 t]

set_option maxRecDepth 100000 in
theorem within1_c (x lo hi : Int) (g1 g2 : Nat) (w : World) (h : At w [fB true [varI2 g1 lo, varI2 g2 hi]]) :
    Calls Try.prog 48 #[.int .i64 x, .pointer (some ⟨g1, 0, none⟩), .pointer (some ⟨g2, 0, none⟩)] w (Ret w fun v L => v = .bool (decide (x < lo) || decide (hi < x)) ∧ L = []) := by
  have h' : At w [varI2 g1 lo, varI2 g2 hi] := ⟨fB_mem h.1 (by simp), fB_mem h.1 (by simp), trivial⟩
  refine calls3 Try.func48 rfl tabOk w _ rfl _ rfl _ h' ⟨rfl, rfl, rfl, rfl, trivial⟩ _ _ _ (by decide) ?_
  refine stop_loadV 0 tabOk rfl rfl rfl rfl rfl ⟨rfl, rfl⟩ ?_
  refine CaseB.mk (fun g => ?_) (fun g => ?_)
  · refine retw [] ⟨?_, rfl⟩ trivial rfl trivial (fun _ => rfl)
    have : x < lo := by simpa using g
    simp [this]
  · refine stop_loadV 1 tabOk rfl rfl rfl rfl rfl ⟨rfl, rfl⟩ ?_
    refine retw [] ⟨?_, rfl⟩ trivial rfl trivial (fun _ => rfl)
    have : ¬ x < lo := by simpa using g
    simp [this]

set_option maxRecDepth 100000 in
theorem within_c (i : Sl) (xs : List Int) (lo hi : Int) (w : World) (h : At w [slo i cInt 1 xs]) (hb : xs.length ≤ 4294967296) :
    Calls Try.prog 29 #[i.val xs.length, .int .i64 lo, .int .i64 hi] w (Tells w (within xs lo hi)) := by
  refine calls3 Try.func29 rfl tabOk w _ rfl _ rfl _ h ⟨rfl, rfl, trivial⟩ _ _ _ (by decide) ?_
  refine CaseB.mk (fun g => ?_) (fun g => ?_)
  · have hl : xs.length ≤ 3 := by simp at g; omega
    refine stop_call _ cl47 rfl rfl rfl rfl ⟨rfl, rfl⟩ (fun A w hW => containsFunc_c (fv := 48) (q := fun x => decide (x < lo) || decide (hi < x)) (G := [varI2 (A 0) lo, varI2 (A 1) hi]) cl48 (fun x w h => within1_c x lo hi _ _ w h) i xs w ⟨hW.get 0 rfl (.refl _), fB_two (hW.var rfl rfl) (hW.var rfl rfl), trivial⟩ hb) ?_
    rintro v L ⟨b, rfl, hbb, rfl⟩
    refine retw [] ⟨_, rfl, ?_, rfl⟩ trivial rfl trivial (fun _ => rfl)
    simp only [Bool.not_eq_true', ← Bool.not_eq_true, hbb, within]
    constructor
    · intro hn
      refine ⟨hl, fun x hx => ?_⟩
      rcases Int.lt_or_le x lo with h1 | h1
      · exact (hn ⟨x, hx, by simp [h1]⟩).elim
      · rcases Int.lt_or_le hi x with h2 | h2
        · exact (hn ⟨x, hx, by simp [h2]⟩).elim
        · exact ⟨h1, h2⟩
    · rintro ⟨_, hx⟩ ⟨x, hx', hq⟩
      have := hx x hx'
      simp at hq
      omega
  · have hl : ¬ xs.length ≤ 3 := by simp at g; omega
    exact retw [] ⟨_, rfl, tno fun h => hl h.1, rfl⟩ trivial rfl trivial (fun _ => rfl)

set_option maxRecDepth 100000 in
theorem opOn_c (i : Sl) (n : Nat) (o : Op) (g : Nat) (w : World) (h : At w [fVar g 75 (cOp o)]) :
    Calls Try.prog 49 #[i.val n, .pointer (some ⟨g, 0, none⟩)] w (Tells w (0 ≤ o.on ∧ o.on < n)) := by
  refine calls2 Try.func49 rfl tabOk w _ rfl _ rfl _ h ⟨rfl, rfl, trivial⟩ _ _ (by decide) ?_
  refine stop_fldW tabOk rfl rfl rfl rfl ⟨rfl, rfl⟩ ?_
  refine stop_loadF 0 tabOk rfl rfl rfl rfl rfl ⟨rfl, rfl⟩ ?_
  refine CaseB.mk (fun g1 => ?_) (fun g1 => ?_)
  · refine stop_fldW tabOk rfl rfl rfl rfl ⟨rfl, rfl⟩ ?_
    refine stop_loadF 0 tabOk rfl rfl rfl rfl rfl ⟨rfl, rfl⟩ ?_
    refine retw [] ⟨_, rfl, ?_, rfl⟩ trivial rfl trivial (fun _ => rfl)
    have : 0 ≤ o.on := by simpa using g1
    simp [this]
  · have : ¬ 0 ≤ o.on := by simpa using g1
    exact retw [] ⟨_, rfl, tno fun h => this h.1, rfl⟩ trivial rfl trivial (fun _ => rfl)

end Go.Proofs.Ytjkkoonennpceaa

namespace Go.Sx

open Go Go.RowKit

def bs (l : List UInt8) : ByteArray := ⟨l.toArray⟩

theorem bs_list (l : List UInt8) : (bs l).toList = l := ByteArray.toList_mk l

theorem bs_size (l : List UInt8) : (bs l).size = l.length := by simp [bs, ByteArray.size]

theorem bs_add (a b : List UInt8) : bs a ++ bs b = bs (a ++ b) := ByteArray.mk_append_mk a b

theorem bs_cut (s : List UInt8) (l h : Nat) : (bs s).extract l h = bs ((s.drop l).take (h - l)) := ByteArray.extract_mk s l h

theorem bs_get (s : List UInt8) (k : Nat) (h : k < s.length) : (bs s)[k]? = some s[k] := by
  have h2 : k < (bs s).size := by rw [bs_size]; exact h
  rw [ByteArray.getElem?_lt' _ _ h2]
  congr 1

def cTxt (x : List UInt8) : List Value := [.string (bs x)]

theorem encTxt : Enc cTxt 1 := ⟨fun _ => rfl, fun _ u hu => by simp [cTxt] at hu; subst hu; rfl⟩

theorem sadd_run {P : Program} {t : TypeId} {a b : List UInt8} (h : a.length + b.length ≤ 9223372036854775807) (w : World) : (binOp .add t (.string (bs a)) (.string (bs b))).run P w = .ok (.string (bs (a ++ b))) w := by
  rw [binOp_string_add, run_string_add_sum w _ _ (by rw [bs_size, bs_size]; exact h), bs_add]

theorem seq_run {P : Program} {t : TypeId} {a b : List UInt8} (w : World) : (binOp .eql t (.string (bs a)) (.string (bs b))).run P w = .ok (.bool (a == b)) w := by
  rw [eql_str, bs_list, bs_list]

theorem sne_run {P : Program} {t : TypeId} {a b : List UInt8} (w : World) : (binOp .neq t (.string (bs a)) (.string (bs b))).run P w = .ok (.bool (a != b)) w := by
  rw [binOp_string_neq, bne]
  show (Op.stringOp .neq _ _).run P w = _
  simp [Op.stringOp, bs_list]

section

variable {E : Env} {ti : Nat → TI} {A : Nat → Nat} {T : List (Nat × SV)} {n c : Nat} {B : List (Nat × TypeId × Nat)} {M : List ((Nat × Nat) × SV)} {F Fs : List Fct} {o : Oper} {next : St → Prop} {a : Act} {w : World}

theorem ti_string {P : Program} {t : TypeId} {agg : Bool} {size bytes : Nat} {zero : List Value} {fs : List (Nat × Nat × Bool)} {el : Option TypeId} {ik : Option IntKind} (h : TIok P t (.mk agg size zero fs el ik 2 bytes)) : P.underlying t = some .string := by
  obtain ⟨ii, dd, z, e1, e2, e3, e4, e5, e6, e7, e8, e9, e10, e11⟩ := tiSum_parts h
  rw [e2, kd_string e10]

/-- len of a string -/
theorem slen_run (hti : ∀ t, TIok E.P t (ti t)) (hT : TD E A T n c a w) {k : Call} {t : TypeId} {x : Operand} {s : List UInt8} {agg : Bool} {size bytes : Nat} {zero : List Value} {fs : List (Nat × Nat × Bool)} {el : Option TypeId} {ik : Option IntKind}
    (hop : o.op = .call k) (hk : k.callee = .builtin .len) (ha : k.args.toList = [x]) (hty : k.argTypes.toList = [t])
    (hx : evalO T x = some (.v (.string (bs s)))) (ht : ti t = .mk agg size zero fs el ik 2 bytes) : (execOp a.eval o).run E.P w = .ok (.value (.int .i64 (s.length : Int))) w := by
  have htt := hti t
  rw [ht] at htt
  have hs := ti_string htt
  have hx' := (evalO_sound hT hx).1
  simp only [SV.den] at hx'
  have hargs : k.args = #[x] := by apply Array.ext'; simpa using ha
  have htys : k.argTypes = #[t] := by apply Array.ext'; simpa using hty
  simp [execOp, hop, resolve, hk, hargs, htys, invoke, builtin, hx', run_len_string _ _ _ _ hs, goInt, bs_size]

theorem stop_slen {k : Call} {t : TypeId} {x : Operand} {d : Nat} {s : List UInt8} {agg : Bool} {size bytes : Nat} {zero : List Value} {fs : List (Nat × Nat × Bool)} {el : Option TypeId} {ik : Option IntKind}
    (hti : ∀ t, TIok E.P t (ti t)) (hop : o.op = .call k) (hk : k.callee = .builtin .len) (ha : k.args.toList = [x]) (hty : k.argTypes.toList = [t])
    (hx : evalO T x = some (.v (.string (bs s)))) (ht : ti t = .mk agg size zero fs el ik 2 bytes) (hd : Dst E o d)
    (hnext : next (.mk ((d, .v (.int .i64 (s.length : Int))) :: T) n c B M F)) : OpW (opStop E o next T n c B M F) := by
  refine ⟨fun A a w hW hT => ?_⟩
  refine upon_of_value (slen_run hti hT hop hk ha hty hx ht) ?_
  rw [hd.1]
  exact ⟨_, ⟨_, hW, hT.put (v := .v (.int .i64 (s.length : Int))) hd.lt trivial⟩, hnext⟩

/-- a byte of a string -/
theorem sidx_run (hti : ∀ t, TIok E.P t (ti t)) (hT : TD E A T n c a w) {t : TypeId} {x y : Operand} {s : List UInt8} {kd : IntKind} {q : Int} {agg : Bool} {size bytes : Nat} {zero : List Value} {fs : List (Nat × Nat × Bool)} {el : Option TypeId} {ik : Option IntKind}
    (hop : o.op = .index t x y) (hx : evalO T x = some (.v (.string (bs s)))) (hy : evalO T y = some (.v (.int kd q))) (ht : ti t = .mk agg size zero fs el ik 2 bytes) (j : Nat) (hq : q = (j : Int)) (hj : j < s.length) :
    (execOp a.eval o).run E.P w = .ok (.value (.int .u8 (s[j].toNat : Int))) w := by
  have htt := hti t
  rw [ht] at htt
  have hs := ti_string htt
  subst hq
  have hx' := (evalO_sound hT hx).1
  have hy' := (evalO_sound hT hy).1
  simp only [SV.den] at hx' hy'
  simp [execOp, hop, hx', hy', Instr.index, asIntOf, underlying, hs, bs_get s j hj]

theorem stop_sidx {t : TypeId} {x y : Operand} {d : Nat} {s : List UInt8} {kd : IntKind} {q : Int} {agg : Bool} {size bytes : Nat} {zero : List Value} {fs : List (Nat × Nat × Bool)} {el : Option TypeId} {ik : Option IntKind}
    (hti : ∀ t, TIok E.P t (ti t)) (hop : o.op = .index t x y) (hx : evalO T x = some (.v (.string (bs s)))) (hy : evalO T y = some (.v (.int kd q))) (ht : ti t = .mk agg size zero fs el ik 2 bytes) (hd : Dst E o d) (j : Nat) (hq : q = (j : Int)) (hj : j < s.length)
    (hnext : next (.mk ((d, .v (.int .u8 (s[j].toNat : Int))) :: T) n c B M F)) : OpW (opStop E o next T n c B M F) := by
  refine ⟨fun A a w hW hT => ?_⟩
  refine upon_of_value (sidx_run hti hT hop hx hy ht j hq hj) ?_
  rw [hd.1]
  exact ⟨_, ⟨_, hW, hT.put (v := .v (.int .u8 (s[j].toNat : Int))) hd.lt trivial⟩, hnext⟩

/-- a part of a string -/
theorem scut_run (hti : ∀ t, TIok E.P t (ti t)) (hT : TD E A T n c a w) {t : TypeId} {x : Operand} {lo hi : Option Operand} {s : List UInt8} {ml mh : Int} {agg : Bool} {size bytes : Nat} {zero : List Value} {fs : List (Nat × Nat × Bool)} {el : Option TypeId} {ik : Option IntKind}
    (hop : o.op = .slice t x lo hi none) (hx : evalO T x = some (.v (.string (bs s)))) (ht : ti t = .mk agg size zero fs el ik 2 bytes)
    (hlo : bndV T 0 lo = some ml) (hhi : bndV T (s.length : Int) hi = some mh) {l h : Nat} (el' : ml = (l : Int)) (eh : mh = (h : Int)) (h1 : l ≤ h) (h2 : h ≤ s.length) :
    (execOp a.eval o).run E.P w = .ok (.value (.string (bs ((s.drop l).take (h - l))))) w := by
  have htt := hti t
  rw [ht] at htt
  have hs := ti_string htt
  subst el'; subst eh
  have hx' := (evalO_sound hT hx).1
  simp only [SV.den] at hx'
  have hz := bs_size s
  have key : ∀ lo' hi' : Option Value, ((lo' = none ∧ l = 0) ∨ ∃ kd, lo' = some (.int kd (l : Int))) → ((hi' = none ∧ h = s.length) ∨ ∃ kd, hi' = some (.int kd (h : Int))) →
      (Instr.slice t (.string (bs s)) lo' hi' none).run E.P w = .ok (.string (bs ((s.drop l).take (h - l)))) w := by
    rintro lo' hi' (⟨rfl, rfl⟩ | ⟨kd, rfl⟩) (⟨rfl, rfl⟩ | ⟨kd2, rfl⟩)
    · rw [run_slice_string_all w t _ hs, hz, bs_cut]
    · rw [run_slice_string_h w t _ hs kd2 _ (by omega) (by omega), bs_cut]; rfl
    · rw [run_slice_string_l w t _ hs kd _ (by omega) (by omega), hz, bs_cut]; rfl
    · rw [run_slice_string w t _ kd kd2 _ _ hs (by omega) (by omega) (by omega), bs_cut]; rfl
  have := key (lo.map a.eval) (hi.map a.eval) (by
    cases lo with
    | none => simp only [bndV, Option.some.injEq] at hlo; exact .inl ⟨rfl, by omega⟩
    | some y => obtain ⟨kd, e⟩ := bndV_some hT hlo; exact .inr ⟨kd, by simp [e]⟩) (by
    cases hi with
    | none => simp only [bndV, Option.some.injEq] at hhi; exact .inl ⟨rfl, by omega⟩
    | some y => obtain ⟨kd, e⟩ := bndV_some hT hhi; exact .inr ⟨kd, by simp [e]⟩)
  have hn : (Instr.sliceAt t (.string (bs s)) (lo.map a.eval) (hi.map a.eval) none).run E.P w = (Instr.slice t (.string (bs s)) (lo.map a.eval) (hi.map a.eval) none).run E.P w := by simp [Instr.sliceAt, underlying, hs]
  simp only [execOp, hop, hx', Option.map_none, hn, this, Sem.run_bind, Sem.run_pure, Result.andThen_ok]

theorem stop_scut {t : TypeId} {x : Operand} {lo hi : Option Operand} {d : Nat} {s : List UInt8} {ml mh : Int} {agg : Bool} {size bytes : Nat} {zero : List Value} {fs : List (Nat × Nat × Bool)} {el : Option TypeId} {ik : Option IntKind}
    (hti : ∀ t, TIok E.P t (ti t)) (hop : o.op = .slice t x lo hi none) (hx : evalO T x = some (.v (.string (bs s)))) (ht : ti t = .mk agg size zero fs el ik 2 bytes) (hd : Dst E o d)
    (hlo : bndV T 0 lo = some ml) (hhi : bndV T (s.length : Int) hi = some mh) (l h : Nat) (el' : ml = (l : Int)) (eh : mh = (h : Int)) (h1 : l ≤ h) (h2 : h ≤ s.length)
    (hnext : next (.mk ((d, .v (.string (bs ((s.drop l).take (h - l))))) :: T) n c B M F)) : OpW (opStop E o next T n c B M F) := by
  refine ⟨fun A a w hW hT => ?_⟩
  refine upon_of_value (scut_run hti hT hop hx ht hlo hhi el' eh h1 h2) ?_
  rw [hd.1]
  exact ⟨_, ⟨_, hW, hT.put (v := .v (.string (bs ((s.drop l).take (h - l))))) hd.lt trivial⟩, hnext⟩

/-- a string of a list of bytes -/
theorem b2s_run (hti : ∀ t, TIok E.P t (ti t)) (hT : TD E A T n c a w) {src dst e : TypeId} {x : Operand} {i : Sl} {s : List UInt8} {agg : Bool} {size bytes kk : Nat} {zero : List Value} {fs : List (Nat × Nat × Bool)} {ik : Option IntKind} {agg2 : Bool} {size2 bytes2 kk2 : Nat} {zero2 : List Value} {fs2 : List (Nat × Nat × Bool)} {el2 : Option TypeId} {agg3 : Bool} {size3 bytes3 : Nat} {zero3 : List Value} {fs3 : List (Nat × Nat × Bool)} {el3 : Option TypeId} {ik3 : Option IntKind}
    (hop : o.op = .convert src dst x) (hx : evalO T x = some (.v (i.val s.length))) (ht : ti src = .mk agg size zero fs (some e) ik kk bytes) (hte : ti e = .mk agg2 size2 zero2 fs2 el2 (some .u8) kk2 bytes2) (htd : ti dst = .mk agg3 size3 zero3 fs3 el3 ik3 2 bytes3)
    (hr : RdS w i 1 (s.map fun b => .int .u8 (b.toNat : Int)) s.length) (hpos : 0 < s.length) : (execOp a.eval o).run E.P w = .ok (.value (.string (bs s))) w := by
  have htt := hti src
  rw [ht] at htt
  obtain ⟨ii, dd, z, e1, e2, e3, e4, e5, e6, e7, e8, e9, e10, e11⟩ := tiSum_parts htt
  have h1 : E.P.underlying src = some (.slice e) := by rw [e2, el_slice e8]
  have htt2 := hti e
  rw [hte] at htt2
  obtain ⟨ii2, dd2, z2, k1, k2, k3, k4, k5, k6, k7, k8, k9, k10, k11⟩ := tiSum_parts htt2
  have h2 : E.P.underlying e = some (.int .u8) := by rw [k2, ik_int k9]
  have htt3 := hti dst
  rw [htd] at htt3
  have h3 := ti_string htt3
  have hx' := (evalO_sound hT hx).1
  simp only [SV.den, Sl.val] at hx'
  obtain ⟨_, _, _, hc⟩ := hr
  obtain ⟨ad, ha, hcell⟩ := hc hpos
  have key := run_convert_bytes_back (P := E.P) w src dst e ad i.c s h1 h2 h3 (fun j hj => hcell j _ (by simp [List.getElem?_eq_getElem hj]))
  rw [ha] at hx'
  simp only [execOp, hop, hx', key, Sem.run_bind, Sem.run_pure, Result.andThen_ok]
  rfl

theorem stop_b2s {src dst e : TypeId} {x : Operand} {d : Nat} {i : Sl} {s : List UInt8} {agg : Bool} {size bytes kk : Nat} {zero : List Value} {fs : List (Nat × Nat × Bool)} {ik : Option IntKind} {agg2 : Bool} {size2 bytes2 kk2 : Nat} {zero2 : List Value} {fs2 : List (Nat × Nat × Bool)} {el2 : Option TypeId} {agg3 : Bool} {size3 bytes3 : Nat} {zero3 : List Value} {fs3 : List (Nat × Nat × Bool)} {el3 : Option TypeId} {ik3 : Option IntKind}
    (hti : ∀ t, TIok E.P t (ti t)) (hop : o.op = .convert src dst x) (hx : evalO T x = some (.v (i.val s.length))) (ht : ti src = .mk agg size zero fs (some e) ik kk bytes) (hte : ti e = .mk agg2 size2 zero2 fs2 el2 (some .u8) kk2 bytes2) (htd : ti dst = .mk agg3 size3 zero3 fs3 el3 ik3 2 bytes3) (hd : Dst E o d)
    (hF : ∀ w, (∀ f ∈ F, f.P w) → RdS w i 1 (s.map fun b => .int .u8 (b.toNat : Int)) s.length) (hpos : 0 < s.length)
    (hnext : next (.mk ((d, .v (.string (bs s))) :: T) n c B M F)) : OpW (opStop E o next T n c B M F) := by
  refine ⟨fun A a w hW hT => ?_⟩
  refine upon_of_value (b2s_run hti hT hop hx ht hte htd (hF w (fun f hf => (hW.fct f hf).1)) hpos) ?_
  rw [hd.1]
  exact ⟨_, ⟨_, hW, hT.put (v := .v (.string (bs s))) hd.lt trivial⟩, hnext⟩

end

end Go.Sx

namespace Go.Proofs.Ytjkkoonennpceaa

open Go Go.Sx Go.RowKit

/-- A text: its bytes. -/
abbrev Str := List UInt8

/-- A text cut at the byte c; 'acc' is what stands before the rest in its part. -/
def cutG (c : UInt8) : Str → Str → List Str
  | acc, [] => [acc]
  | acc, x :: r => if x = c then acc :: cutG c [] r else cutG c (acc ++ [x]) r

def cutM (c : UInt8) (s : Str) : List Str := cutG c [] s

theorem cutG_len (c : UInt8) : ∀ (s acc : Str), 1 ≤ (cutG c acc s).length ∧ (cutG c acc s).length ≤ s.length + 1
  | [], acc => by simp [cutG]
  | x :: r, acc => by
    simp only [cutG]
    split
    · have := cutG_len c r []; simp only [List.length_cons]; omega
    · have := cutG_len c r (acc ++ [x]); simp only [List.length_cons]; omega

theorem cutG_part (c : UInt8) : ∀ (s acc : Str), ∀ x ∈ cutG c acc s, x.length ≤ acc.length + s.length
  | [], acc, x, h => by simp only [cutG, List.mem_singleton] at h; subst h; simp
  | y :: r, acc, x, h => by
    simp only [cutG] at h
    split at h
    · rcases List.mem_cons.1 h with rfl | h
      · omega
      · have := cutG_part c r [] x h; simp only [List.length_cons, List.length_nil] at this ⊢; omega
    · have := cutG_part c r (acc ++ [y]) x h; simp only [List.length_cons, List.length_append, List.length_nil] at this ⊢; omega

theorem cutM_len (c : UInt8) (s : Str) : 1 ≤ (cutM c s).length ∧ (cutM c s).length ≤ s.length + 1 := cutG_len c s []

theorem cutM_part {c : UInt8} {s x : Str} (h : x ∈ cutM c s) : x.length ≤ s.length := by have := cutG_part c s [] x h; simpa using this

/-- Digits read on. -/
def numG : Int → Str → Option Int
  | n, [] => some n
  | n, x :: r => if x.toNat < 48 ∨ 57 < x.toNat then none else numG (n * 10 + ((x.toNat : Int) - 48)) r

def isNeg (s : Str) : Bool := decide (s.head? = some 45)

def unNeg (s : Str) : Str := if isNeg s = true then s.drop 1 else s

def numBad (s : Str) : Prop := (unNeg s).length = 0 ∨ 17 < (unNeg s).length ∨ ((unNeg s).head? = some 48 ∧ (1 < (unNeg s).length ∨ isNeg s = true))

instance (s : Str) : Decidable (numBad s) := by unfold numBad; exact inferInstance

/-- The number that a text tells. -/
def numM (s : Str) : Option Int := if numBad s then none else (numG 0 (unNeg s)).map fun n => if isNeg s = true then -n else n

/-- The decimal text of a number of at most f digits, set before 'out'. -/
def decG : Nat → Nat → Str → Str
  | 0, _, out => out
  | f + 1, n, out => if 9 < n then decG f (n / 10) (UInt8.ofNat (48 + n % 10) :: out) else UInt8.ofNat (48 + n) :: out

def decM (n : Int) : Str := if n < 0 then 45 :: decG 19 n.natAbs [] else decG 19 n.toNat []

theorem decG_len : ∀ (f n : Nat) (out : Str), (decG f n out).length ≤ out.length + f
  | 0, n, out => Nat.le_refl _
  | f + 1, n, out => by
    simp only [decG]
    split
    · have := decG_len f (n / 10) (UInt8.ofNat (48 + n % 10) :: out); simp only [List.length_cons] at this; omega
    · simp only [List.length_cons]; omega

theorem decM_len (n : Int) : (decM n).length ≤ 20 := by
  unfold decM
  split
  · have := decG_len 19 n.natAbs []; simp only [List.length_cons, List.length_nil] at this ⊢; omega
  · have := decG_len 19 n.toNat []; simp only [List.length_nil] at this; omega

/-- The words of the kinds. -/
def wordsL : List Str := [[], [115, 97, 121], [97, 99, 113, 117, 105, 114, 101], [114, 101, 108, 101, 97, 115, 101], [111, 110, 99, 101], [97, 100, 100], [119, 97, 105, 116], [97, 114, 114, 105, 118, 101], [115, 101, 110, 100], [103, 101, 116], [99, 108, 111, 115, 101]]

def wordM (k : Int) : Str := if k < 1 ∨ 10 < k then [] else wordsL.getD k.toNat []

def argsM (k : Int) : Int := if k = 6 ∨ k = 7 ∨ k = 9 ∨ k = 10 then 1 else if k = 1 then 0 else 2

theorem wordsL_len : ∀ x ∈ wordsL, x.length ≤ 7 := by decide

theorem wordM_len (k : Int) : (wordM k).length ≤ 7 := by
  unfold wordM
  split
  · simp
  · rw [List.getD_eq_getElem?_getD]
    cases h : wordsL[k.toNat]? with
    | none => simp
    | some x => exact wordsL_len x (List.mem_of_getElem? h)

def fmtOpM (o : Op) : Str := if wordM o.kind = [] then [] else if argsM o.kind = 0 then (wordM o.kind ++ [32]) ++ decM o.arg else if argsM o.kind = 1 then (wordM o.kind ++ [32]) ++ decM o.on else (((wordM o.kind ++ [32]) ++ decM o.on) ++ [32]) ++ decM o.arg

theorem fmtOpM_len (o : Op) : (fmtOpM o).length ≤ 60 := by
  have h1 := wordM_len o.kind
  have h2 := decM_len o.on
  have h3 := decM_len o.arg
  unfold fmtOpM
  split
  · simp
  split
  · simp only [List.length_append, List.length_cons, List.length_nil]; omega
  split
  · simp only [List.length_append, List.length_cons, List.length_nil]; omega
  · simp only [List.length_append, List.length_cons, List.length_nil]; omega

/-- The operation of a kind with numbers. -/
def makeM (k : Int) (ns : List Int) : Option Op :=
  if argsM k = 0 then match ns with | [a] => some ⟨k, 0, a⟩ | _ => none
  else if argsM k = 1 then match ns with | [a] => some ⟨k, a, 0⟩ | _ => none
  else match ns with | [a, b] => some ⟨k, a, b⟩ | _ => none

def numsM : List Str → Option (List Int)
  | [] => some []
  | s :: r => match numM s with
    | none => none
    | some n => match numsM r with
      | none => none
      | some l => some (n :: l)

/-- The first kind, from k on, whose operation has this text. -/
def kindM (t w : Str) (ns : List Int) : Nat → Nat → Option Op
  | 0, _ => none
  | f + 1, k => if wordM k = w then match makeM k ns with
      | some o => if fmtOpM o = t then some o else kindM t w ns f (k + 1)
      | none => kindM t w ns f (k + 1)
    else kindM t w ns f (k + 1)

def parseOpM (t : Str) : Option Op :=
  match numsM (((cutM 32 t).drop 1).take 3) with
  | none => none
  | some ns => if ns.length + 1 = (cutM 32 t).length then kindM t ((cutM 32 t).headD []) ns 10 1 else none

def fmtNums : Str → List Int → Str
  | out, [] => out
  | out, x :: r => fmtNums ((out ++ [32]) ++ decM x) r

def listM (w : Str) (l : List Int) : Str := if l = [] then [] else fmtNums w l ++ [10]

def fmtOps : Bool → Str → List Op → Str
  | _, out, [] => out
  | first, out, o :: r => fmtOps false (((if first = true then out else out ++ [44]) ++ [32]) ++ fmtOpM o) r

def fmtThreads : Str → List (List Op) → Str
  | out, [] => out
  | out, t :: r => fmtThreads (fmtOps true (out ++ [116, 104, 114, 101, 97, 100]) t ++ [10]) r

def fmtProgM (p : Prog) : Str := fmtThreads (((listM [115, 101, 109, 115] p.sems ++ listM [103, 114, 111, 117, 112, 115] p.groups) ++ listM [98, 97, 114, 114, 105, 101, 114, 115] p.barriers) ++ listM [114, 111, 111, 109, 115] p.rooms) p.threads

/-- The numbers of a line behind its word. -/
def lineM (line w : Str) : Option (List Int) :=
  if (cutM 32 line).headD [] = w ∧ 2 ≤ (cutM 32 line).length then match numsM (((cutM 32 line).drop 1).take 5) with
    | none => none
    | some ns => if ns.length + 1 = (cutM 32 line).length then some ns else none
  else none

def opsG : List Str → Option (List Op)
  | [] => some []
  | s :: r => match (if s.head? = some 32 then parseOpM (s.drop 1) else none) with
    | none => none
    | some o => match opsG r with
      | none => none
      | some l => some (o :: l)

def opsM : List Str → Option (List Op)
  | [] => some []
  | s :: r => match parseOpM s with
    | none => none
    | some o => match opsG r with
      | none => none
      | some l => some (o :: l)

def threadM (line : Str) : Option (List Op) :=
  if line = [116, 104, 114, 101, 97, 100] then some []
  else if line.length < 7 ∨ line.take 7 ≠ [116, 104, 114, 101, 97, 100, 32] then none
  else match opsM ((cutM 44 (line.drop 7)).take 9) with
    | none => none
    | some l => if (cutM 44 (line.drop 7)).length ≤ 8 then some l else none

def stepL (p : Prog) (line : Str) : Prog :=
  match lineM line [115, 101, 109, 115] with
  | some a => { p with sems := a }
  | none => match lineM line [103, 114, 111, 117, 112, 115] with
    | some a => { p with groups := a }
    | none => match lineM line [98, 97, 114, 114, 105, 101, 114, 115] with
      | some a => { p with barriers := a }
      | none => match lineM line [114, 111, 111, 109, 115] with
        | some a => { p with rooms := a }
        | none => match threadM line with
          | some t => { p with threads := p.threads ++ [t] }
          | none => p

def parseM (t : Str) : Prog := (((cutM 10 t).take ((cutM 10 t).length - 1)).take 9).foldl stepL ⟨[], [], [], [], []⟩

/-- The texts of programs that meet. -/
def samplesL : List Str := [[115, 101, 109, 115, 32, 49, 10, 116, 104, 114, 101, 97, 100, 32, 97, 99, 113, 117, 105, 114, 101, 32, 48, 32, 49, 44, 32, 115, 97, 121, 32, 49, 44, 32, 114, 101, 108, 101, 97, 115, 101, 32, 48, 32, 49, 10, 116, 104, 114, 101, 97, 100, 32, 97, 99, 113, 117, 105, 114, 101, 32, 48, 32, 49, 44, 32, 115, 97, 121, 32, 50, 44, 32, 114, 101, 108, 101, 97, 115, 101, 32, 48, 32, 49, 10], [115, 101, 109, 115, 32, 49, 32, 49, 10, 116, 104, 114, 101, 97, 100, 32, 97, 99, 113, 117, 105, 114, 101, 32, 48, 32, 49, 44, 32, 97, 99, 113, 117, 105, 114, 101, 32, 49, 32, 49, 44, 32, 114, 101, 108, 101, 97, 115, 101, 32, 49, 32, 49, 44, 32, 114, 101, 108, 101, 97, 115, 101, 32, 48, 32, 49, 10, 116, 104, 114, 101, 97, 100, 32, 97, 99, 113, 117, 105, 114, 101, 32, 49, 32, 49, 44, 32, 97, 99, 113, 117, 105, 114, 101, 32, 48, 32, 49, 44, 32, 114, 101, 108, 101, 97, 115, 101, 32, 48, 32, 49, 44, 32, 114, 101, 108, 101, 97, 115, 101, 32, 49, 32, 49, 10], [103, 114, 111, 117, 112, 115, 32, 50, 10, 116, 104, 114, 101, 97, 100, 32, 115, 97, 121, 32, 49, 44, 32, 97, 100, 100, 32, 48, 32, 45, 49, 10, 116, 104, 114, 101, 97, 100, 32, 115, 97, 121, 32, 50, 44, 32, 97, 100, 100, 32, 48, 32, 45, 49, 10, 116, 104, 114, 101, 97, 100, 32, 119, 97, 105, 116, 32, 48, 44, 32, 115, 97, 121, 32, 51, 10], [98, 97, 114, 114, 105, 101, 114, 115, 32, 50, 10, 116, 104, 114, 101, 97, 100, 32, 115, 97, 121, 32, 49, 44, 32, 97, 114, 114, 105, 118, 101, 32, 48, 44, 32, 115, 97, 121, 32, 50, 10, 116, 104, 114, 101, 97, 100, 32, 97, 114, 114, 105, 118, 101, 32, 48, 44, 32, 115, 97, 121, 32, 51, 10], [114, 111, 111, 109, 115, 32, 48, 10, 116, 104, 114, 101, 97, 100, 32, 115, 101, 110, 100, 32, 48, 32, 55, 44, 32, 115, 97, 121, 32, 49, 10, 116, 104, 114, 101, 97, 100, 32, 103, 101, 116, 32, 48, 44, 32, 115, 97, 121, 32, 50, 10], [116, 104, 114, 101, 97, 100, 32, 111, 110, 99, 101, 32, 48, 32, 53, 44, 32, 115, 97, 121, 32, 49, 10, 116, 104, 114, 101, 97, 100, 32, 111, 110, 99, 101, 32, 48, 32, 54, 44, 32, 115, 97, 121, 32, 50, 10], [114, 111, 111, 109, 115, 32, 49, 10, 116, 104, 114, 101, 97, 100, 32, 115, 101, 110, 100, 32, 48, 32, 49, 44, 32, 115, 101, 110, 100, 32, 48, 32, 50, 44, 32, 99, 108, 111, 115, 101, 32, 48, 10, 116, 104, 114, 101, 97, 100, 32, 103, 101, 116, 32, 48, 44, 32, 103, 101, 116, 32, 48, 44, 32, 103, 101, 116, 32, 48, 10], [103, 114, 111, 117, 112, 115, 32, 49, 10, 116, 104, 114, 101, 97, 100, 32, 97, 100, 100, 32, 48, 32, 45, 49, 44, 32, 97, 100, 100, 32, 48, 32, 45, 49, 10, 116, 104, 114, 101, 97, 100, 32, 119, 97, 105, 116, 32, 48, 10]]

instance (xs : List Int) (a b : Int) : Decidable (within xs a b) := by unfold within; exact inferInstance

instance (p : Prog) (o : Op) : Decidable (p.argOk o) := by unfold Prog.argOk; exact inferInstance

instance (p : Prog) (o : Op) : Decidable (OpOk p o) := by unfold OpOk; exact inferInstance

instance (p : Prog) : Decidable (ProgOk p) := decidable_of_iff (within p.sems 1 9 ∧ within p.groups 0 9 ∧ within p.barriers 1 6 ∧ within p.rooms 0 4 ∧ 1 ≤ p.threads.length ∧ p.threads.length ≤ 4 ∧ ∀ t ∈ p.threads, t.length ≤ 8 ∧ ∀ o ∈ t, OpOk p o)
  ⟨fun ⟨a, b, c, d, e, f, g⟩ => ⟨a, b, c, d, e, f, g⟩, fun ⟨a, b, c, d, e, f, g⟩ => ⟨a, b, c, d, e, f, g⟩⟩

theorem samples_ok : ∀ t ∈ samplesL, t.length ≤ 200 ∧ ProgOk (parseM t) ∧ fmtProgM (parseM t) = t := by decide +kernel

end Go.Proofs.Ytjkkoonennpceaa

namespace Go.Proofs.Ytjkkoonennpceaa

open Go Go.Sx Go.RowKit

theorem part_more (s : Str) {a i : Nat} (h1 : a ≤ i) (h2 : i < s.length) : (s.drop a).take (i + 1 - a) = (s.drop a).take (i - a) ++ [s[i]] := by
  have e : i + 1 - a = (i - a) + 1 := by omega
  rw [e, List.take_succ_eq_append_getElem (by rw [List.length_drop]; omega)]
  congr 2
  rw [List.getElem_drop]
  congr 1
  omega

theorem u8_eq (a b : UInt8) : ((a.toNat : Int) = (b.toNat : Int)) ↔ a = b := by
  constructor
  · intro h; exact UInt8.toNat_inj.1 (by omega)
  · intro h; rw [h]

set_option maxHeartbeats 4000000 in
set_option maxRecDepth 100000 in
theorem cut_c (s : Str) (c : UInt8) (w : World) (hb : s.length ≤ 1000000) :
    Calls Try.prog 68 #[.string (bs s), .int .u8 (c.toNat : Int)] w (Ret w fun v L => ∃ y : Sl, v = y.val (cutM c s).length ∧ L = [own y 9 cTxt 1 (cutM c s)]) := by
  refine calls2 Try.func68 rfl tabOk w _ rfl _ rfl [] trivial trivial _ _ (by decide) ?_
  refine AllSl.mk fun y0 => ?_
  refine LoopW.mk ⟨{ q : Nat × Nat × Sl × List Str // (q.1 ≤ s.length → q.2.1 ≤ q.1 ∧ cutM c s = q.2.2.2 ++ cutG c ((s.drop q.2.1).take (q.1 - q.2.1)) (s.drop q.1)) ∧ (s.length < q.1 → q.1 = s.length + 1 ∧ q.2.2.2 = cutM c s) ∧ q.2.1 ≤ s.length + 1 ∧ q.2.2.2.length ≤ q.1 },
    fun q => .mk [(0, .v (.string (bs s))), (1, .v (.int .u8 (c.toNat : Int))), (5, .v (q.1.2.2.1.val q.1.2.2.2.length)), (6, .v (.int .i64 (q.1.2.1 : Int))), (7, .v (.int .i64 (q.1.1 : Int)))] 0 0 [] [] [own q.1.2.2.1 9 cTxt 1 q.1.2.2.2],
    fun q => s.length + 1 - q.1.1, ⟨(0, 0, y0, []), fun _ => ⟨Nat.le_refl _, by simp [cutM]⟩, fun h => (by cases h), by simp, by simp⟩, ?_, ?_⟩
  · refine weak_mk [0] ?_ ?_ ?_ ?_ ?_ rfl rfl
    · repeat (first | exact trivial | refine ⟨⟨_, rfl, (by first | exact .of rfl | exact .lit rfl | exact .of (by first | (rfl)) | exact .lit (by first | (rfl))), (by first | exact trivial | exact Nat.le_of_ble_eq_true rfl | exact small1 rfl)⟩, ?_⟩)
    · repeat (first | exact trivial | refine ⟨⟨(by first | exact .head _ | exact .tail _ (.head _) | exact .tail _ (.tail _ (.head _)) | exact .tail _ (.tail _ (.tail _ (.head _))) | exact .tail _ (.tail _ (.tail _ (.tail _ (.head _)))) | exact .tail _ (.tail _ (.tail _ (.tail _ (.tail _ (.head _))))) | exact .tail _ (.tail _ (.tail _ (.tail _ (.tail _ (.tail _ (.head _)))))) | exact .tail _ (.tail _ (.tail _ (.tail _ (.tail _ (.tail _ (.tail _ (.head _))))))) | exact .tail _ (.tail _ (.tail _ (.tail _ (.tail _ (.tail _ (.tail _ (.tail _ (.head _)))))))) | exact .tail _ (.tail _ (.tail _ (.tail _ (.tail _ (.tail _ (.tail _ (.tail _ (.tail _ (.head _)))))))))), Nat.le_of_ble_eq_true rfl⟩, ?_⟩)
    · repeat (first | exact trivial | refine ⟨⟨_, rfl, (by first | exact .of rfl | exact .lit rfl | exact .of (by first | (rfl)) | exact .lit (by first | (rfl))), (by first | exact trivial | exact Nat.le_of_ble_eq_true rfl | exact small1 rfl)⟩, ?_⟩)
    · repeat (first | exact trivial | refine ⟨⟨_, rfl⟩, ?_⟩)
    · repeat (first | exact trivial | refine ⟨.inl ⟨_, rfl, (by first | rfl | (rfl))⟩, ?_⟩ | refine ⟨.inr ⟨Nat.le_of_ble_eq_true rfl, rfl, rfl, rfl, rfl⟩, ?_⟩)
  rintro ⟨⟨i, a, y, out⟩, i1, i2, i3, i4⟩
  simp only at i1 i2 i3 i4 ⊢
  refine stop_slen tabOk rfl rfl rfl rfl rfl rfl ⟨rfl, rfl⟩ ?_
  refine CaseB.mk (fun g => ?_) (fun g => ?_)
  · have hi : i ≤ s.length := by have := of_decide_eq_true g; omega
    obtain ⟨ha, hc⟩ := i1 hi
    have hw := e_succ i (s.length + 1) (by omega) (by omega)
    refine stop_slen tabOk rfl rfl rfl rfl rfl rfl ⟨rfl, rfl⟩ ?_
    refine CaseB.mk (fun g => ?_) (fun g => ?_)
    · have hie : i = s.length := by have g' : (i : Int) = (s.length : Int) := (by simpa using g); omega
      refine stop_scut tabOk rfl rfl rfl ⟨rfl, rfl⟩ rfl rfl (a) (i) rfl rfl (by first | omega | (simp; done) | (simp; omega) | (unfold maxLen; omega) | (unfold maxLen; simp; done) | (unfold maxLen; simp; omega)) (by first | omega | (simp; done) | (simp; omega) | (unfold maxLen; omega) | (unfold maxLen; simp; done) | (unfold maxLen; simp; omega)) ?_
      refine AllSl.mk fun b3 => ?_
      refine stop_app encTxt 1 tabOk (xs := out) (ys := [(s.drop a).take (i - a)]) rfl rfl rfl rfl rfl rfl rfl rfl rfl (by decide) ⟨rfl, rfl⟩ rfl (by first | exact rdAt 0 rfl | exact rdOwnAt 0 rfl | exact rdAt 1 rfl | exact rdOwnAt 1 rfl | exact rdAt 2 rfl | exact rdOwnAt 2 rfl | exact rdAt 3 rfl | exact rdOwnAt 3 rfl | exact rdAt 4 rfl | exact rdOwnAt 4 rfl | exact rdAt 5 rfl | exact rdOwnAt 5 rfl | exact rdAt 6 rfl | exact rdOwnAt 6 rfl | exact rdAt 7 rfl | exact rdOwnAt 7 rfl | exact rdAt 8 rfl | exact rdOwnAt 8 rfl | exact rdAt 9 rfl | exact rdOwnAt 9 rfl | exact rdAt 10 rfl | exact rdOwnAt 10 rfl | exact rdAt 11 rfl | exact rdOwnAt 11 rfl | exact rdAt 12 rfl | exact rdOwnAt 12 rfl | exact rdAt 13 rfl | exact rdOwnAt 13 rfl | exact rdAt 14 rfl | exact rdOwnAt 14 rfl | exact rdAt 15 rfl | exact rdOwnAt 15 rfl | exact rdAt 16 rfl | exact rdOwnAt 16 rfl | exact rdAt 17 rfl | exact rdOwnAt 17 rfl | exact rdAt 18 rfl | exact rdOwnAt 18 rfl | exact rdAt 19 rfl | exact rdOwnAt 19 rfl | exact rdAt 20 rfl | exact rdOwnAt 20 rfl | exact rdAt 21 rfl | exact rdOwnAt 21 rfl | exact rdAt 22 rfl | exact rdOwnAt 22 rfl | exact rdAt 23 rfl | exact rdOwnAt 23 rfl) (by first | omega | (simp; done) | (simp; omega) | (unfold maxLen; omega) | (unfold maxLen; simp; done) | (unfold maxLen; simp; omega)) (by first | omega | (simp; done) | (simp; omega) | (unfold maxLen; omega) | (unfold maxLen; simp; done) | (unfold maxLen; simp; omega)) (fun z3 => ?_)
      refine ⟨⟨(i + 1, i + 1, z3, out ++ [(s.drop a).take (i - a)]), fun h => by have h : i + 1 ≤ s.length := h; omega, fun _ => ⟨show i + 1 = s.length + 1 by omega, ?_⟩, show i + 1 ≤ s.length + 1 by omega, by simp; omega⟩, ?_, by simp only; omega⟩
      · rw [hc, List.drop_eq_nil_of_le (show s.length ≤ i by omega)]; rfl
      · refine weak_mk [0] ?_ ?_ ?_ ?_ ?_ rfl rfl
        · repeat (first | exact trivial | refine ⟨⟨_, rfl, (by first | exact .of rfl | exact .lit rfl | exact .of (by first | ((exact congrArg (fun z => SV.v (Value.int .i64 z)) hw))) | exact .lit (by first | ((exact congrArg (fun z => SV.v (Value.int .i64 z)) hw)))), (by first | exact trivial | exact Nat.le_of_ble_eq_true rfl | exact small1 rfl)⟩, ?_⟩)
        · repeat (first | exact trivial | refine ⟨⟨(by first | exact .head _ | exact .tail _ (.head _) | exact .tail _ (.tail _ (.head _)) | exact .tail _ (.tail _ (.tail _ (.head _))) | exact .tail _ (.tail _ (.tail _ (.tail _ (.head _)))) | exact .tail _ (.tail _ (.tail _ (.tail _ (.tail _ (.head _))))) | exact .tail _ (.tail _ (.tail _ (.tail _ (.tail _ (.tail _ (.head _)))))) | exact .tail _ (.tail _ (.tail _ (.tail _ (.tail _ (.tail _ (.tail _ (.head _))))))) | exact .tail _ (.tail _ (.tail _ (.tail _ (.tail _ (.tail _ (.tail _ (.tail _ (.head _)))))))) | exact .tail _ (.tail _ (.tail _ (.tail _ (.tail _ (.tail _ (.tail _ (.tail _ (.tail _ (.head _)))))))))), Nat.le_of_ble_eq_true rfl⟩, ?_⟩)
        · repeat (first | exact trivial | refine ⟨⟨_, rfl, (by first | exact .of rfl | exact .lit rfl | exact .of (by first | ((exact congrArg (fun z => SV.v (Value.int .i64 z)) hw))) | exact .lit (by first | ((exact congrArg (fun z => SV.v (Value.int .i64 z)) hw)))), (by first | exact trivial | exact Nat.le_of_ble_eq_true rfl | exact small1 rfl)⟩, ?_⟩)
        · repeat (first | exact trivial | refine ⟨⟨_, rfl⟩, ?_⟩)
        · repeat (first | exact trivial | refine ⟨.inl ⟨_, rfl, (by first | rfl | ((exact congrArg (fun z => SV.v (Value.int .i64 z)) hw)))⟩, ?_⟩ | refine ⟨.inr ⟨Nat.le_of_ble_eq_true rfl, rfl, rfl, rfl, rfl⟩, ?_⟩)
    have hil : i < s.length := by have g' : ¬ (i : Int) = (s.length : Int) := (by simpa using g); omega
    have hd : s.drop i = s[i] :: s.drop (i + 1) := List.drop_eq_getElem_cons hil
    refine stop_sidx tabOk rfl rfl rfl rfl ⟨rfl, rfl⟩ (i) rfl (by first | omega | (simp; done) | (simp; omega) | (unfold maxLen; omega) | (unfold maxLen; simp; done) | (unfold maxLen; simp; omega)) ?_
    refine CaseB.mk (fun g2 => ?_) (fun g2 => ?_)
    · have e : s[i] = c := (u8_eq _ _).1 (by simpa using g2)
      refine stop_scut tabOk rfl rfl rfl ⟨rfl, rfl⟩ rfl rfl (a) (i) rfl rfl (by first | omega | (simp; done) | (simp; omega) | (unfold maxLen; omega) | (unfold maxLen; simp; done) | (unfold maxLen; simp; omega)) (by first | omega | (simp; done) | (simp; omega) | (unfold maxLen; omega) | (unfold maxLen; simp; done) | (unfold maxLen; simp; omega)) ?_
      refine AllSl.mk fun b3 => ?_
      refine stop_app encTxt 1 tabOk (xs := out) (ys := [(s.drop a).take (i - a)]) rfl rfl rfl rfl rfl rfl rfl rfl rfl (by decide) ⟨rfl, rfl⟩ rfl (by first | exact rdAt 0 rfl | exact rdOwnAt 0 rfl | exact rdAt 1 rfl | exact rdOwnAt 1 rfl | exact rdAt 2 rfl | exact rdOwnAt 2 rfl | exact rdAt 3 rfl | exact rdOwnAt 3 rfl | exact rdAt 4 rfl | exact rdOwnAt 4 rfl | exact rdAt 5 rfl | exact rdOwnAt 5 rfl | exact rdAt 6 rfl | exact rdOwnAt 6 rfl | exact rdAt 7 rfl | exact rdOwnAt 7 rfl | exact rdAt 8 rfl | exact rdOwnAt 8 rfl | exact rdAt 9 rfl | exact rdOwnAt 9 rfl | exact rdAt 10 rfl | exact rdOwnAt 10 rfl | exact rdAt 11 rfl | exact rdOwnAt 11 rfl | exact rdAt 12 rfl | exact rdOwnAt 12 rfl | exact rdAt 13 rfl | exact rdOwnAt 13 rfl | exact rdAt 14 rfl | exact rdOwnAt 14 rfl | exact rdAt 15 rfl | exact rdOwnAt 15 rfl | exact rdAt 16 rfl | exact rdOwnAt 16 rfl | exact rdAt 17 rfl | exact rdOwnAt 17 rfl | exact rdAt 18 rfl | exact rdOwnAt 18 rfl | exact rdAt 19 rfl | exact rdOwnAt 19 rfl | exact rdAt 20 rfl | exact rdOwnAt 20 rfl | exact rdAt 21 rfl | exact rdOwnAt 21 rfl | exact rdAt 22 rfl | exact rdOwnAt 22 rfl | exact rdAt 23 rfl | exact rdOwnAt 23 rfl) (by first | omega | (simp; done) | (simp; omega) | (unfold maxLen; omega) | (unfold maxLen; simp; done) | (unfold maxLen; simp; omega)) (by first | omega | (simp; done) | (simp; omega) | (unfold maxLen; omega) | (unfold maxLen; simp; done) | (unfold maxLen; simp; omega)) (fun z3 => ?_)
      refine ⟨⟨(i + 1, i + 1, z3, out ++ [(s.drop a).take (i - a)]), fun _ => ⟨show i + 1 ≤ i + 1 by omega, ?_⟩, fun h => by have h : s.length < i + 1 := h; omega, show i + 1 ≤ s.length + 1 by omega, by simp; omega⟩, ?_, by simp only; omega⟩
      · rw [hc, hd, cutG, if_pos e]; simp
      · refine weak_mk [0] ?_ ?_ ?_ ?_ ?_ rfl rfl
        · repeat (first | exact trivial | refine ⟨⟨_, rfl, (by first | exact .of rfl | exact .lit rfl | exact .of (by first | ((exact congrArg (fun z => SV.v (Value.int .i64 z)) hw))) | exact .lit (by first | ((exact congrArg (fun z => SV.v (Value.int .i64 z)) hw)))), (by first | exact trivial | exact Nat.le_of_ble_eq_true rfl | exact small1 rfl)⟩, ?_⟩)
        · repeat (first | exact trivial | refine ⟨⟨(by first | exact .head _ | exact .tail _ (.head _) | exact .tail _ (.tail _ (.head _)) | exact .tail _ (.tail _ (.tail _ (.head _))) | exact .tail _ (.tail _ (.tail _ (.tail _ (.head _)))) | exact .tail _ (.tail _ (.tail _ (.tail _ (.tail _ (.head _))))) | exact .tail _ (.tail _ (.tail _ (.tail _ (.tail _ (.tail _ (.head _)))))) | exact .tail _ (.tail _ (.tail _ (.tail _ (.tail _ (.tail _ (.tail _ (.head _))))))) | exact .tail _ (.tail _ (.tail _ (.tail _ (.tail _ (.tail _ (.tail _ (.tail _ (.head _)))))))) | exact .tail _ (.tail _ (.tail _ (.tail _ (.tail _ (.tail _ (.tail _ (.tail _ (.tail _ (.head _)))))))))), Nat.le_of_ble_eq_true rfl⟩, ?_⟩)
        · repeat (first | exact trivial | refine ⟨⟨_, rfl, (by first | exact .of rfl | exact .lit rfl | exact .of (by first | ((exact congrArg (fun z => SV.v (Value.int .i64 z)) hw))) | exact .lit (by first | ((exact congrArg (fun z => SV.v (Value.int .i64 z)) hw)))), (by first | exact trivial | exact Nat.le_of_ble_eq_true rfl | exact small1 rfl)⟩, ?_⟩)
        · repeat (first | exact trivial | refine ⟨⟨_, rfl⟩, ?_⟩)
        · repeat (first | exact trivial | refine ⟨.inl ⟨_, rfl, (by first | rfl | ((exact congrArg (fun z => SV.v (Value.int .i64 z)) hw)))⟩, ?_⟩ | refine ⟨.inr ⟨Nat.le_of_ble_eq_true rfl, rfl, rfl, rfl, rfl⟩, ?_⟩)
    have e : ¬ s[i] = c := fun h => by rw [h] at g2; simp at g2
    refine ⟨⟨(i + 1, a, y, out), fun _ => ⟨show a ≤ i + 1 by omega, ?_⟩, fun h => by have h : s.length < i + 1 := h; omega, i3, show out.length ≤ i + 1 by omega⟩, ?_, by simp only; omega⟩
    · rw [hc, hd, cutG, if_neg e, part_more s ha hil]
    · refine weak_mk [0] ?_ ?_ ?_ ?_ ?_ rfl rfl
      · repeat (first | exact trivial | refine ⟨⟨_, rfl, (by first | exact .of rfl | exact .lit rfl | exact .of (by first | ((exact congrArg (fun z => SV.v (Value.int .i64 z)) hw))) | exact .lit (by first | ((exact congrArg (fun z => SV.v (Value.int .i64 z)) hw)))), (by first | exact trivial | exact Nat.le_of_ble_eq_true rfl | exact small1 rfl)⟩, ?_⟩)
      · repeat (first | exact trivial | refine ⟨⟨(by first | exact .head _ | exact .tail _ (.head _) | exact .tail _ (.tail _ (.head _)) | exact .tail _ (.tail _ (.tail _ (.head _))) | exact .tail _ (.tail _ (.tail _ (.tail _ (.head _)))) | exact .tail _ (.tail _ (.tail _ (.tail _ (.tail _ (.head _))))) | exact .tail _ (.tail _ (.tail _ (.tail _ (.tail _ (.tail _ (.head _)))))) | exact .tail _ (.tail _ (.tail _ (.tail _ (.tail _ (.tail _ (.tail _ (.head _))))))) | exact .tail _ (.tail _ (.tail _ (.tail _ (.tail _ (.tail _ (.tail _ (.tail _ (.head _)))))))) | exact .tail _ (.tail _ (.tail _ (.tail _ (.tail _ (.tail _ (.tail _ (.tail _ (.tail _ (.head _)))))))))), Nat.le_of_ble_eq_true rfl⟩, ?_⟩)
      · repeat (first | exact trivial | refine ⟨⟨_, rfl, (by first | exact .of rfl | exact .lit rfl | exact .of (by first | ((exact congrArg (fun z => SV.v (Value.int .i64 z)) hw))) | exact .lit (by first | ((exact congrArg (fun z => SV.v (Value.int .i64 z)) hw)))), (by first | exact trivial | exact Nat.le_of_ble_eq_true rfl | exact small1 rfl)⟩, ?_⟩)
      · repeat (first | exact trivial | refine ⟨⟨_, rfl⟩, ?_⟩)
      · repeat (first | exact trivial | refine ⟨.inl ⟨_, rfl, (by first | rfl | ((exact congrArg (fun z => SV.v (Value.int .i64 z)) hw)))⟩, ?_⟩ | refine ⟨.inr ⟨Nat.le_of_ble_eq_true rfl, rfl, rfl, rfl, rfl⟩, ?_⟩)
  have hi : s.length < i := by have := of_decide_eq_false g; omega
  obtain ⟨_, e⟩ := i2 hi
  rw [← e]
  exact retw [0] ⟨y, rfl, rfl⟩ ⟨.inl ⟨_, rfl, rfl⟩, trivial⟩ rfl ⟨rfl, trivial⟩ (fun _ => rfl)

end Go.Proofs.Ytjkkoonennpceaa

namespace Go.Proofs.Ytjkkoonennpceaa

open Go Go.Sx Go.RowKit

theorem pow_le {a b : Nat} (h : a ≤ b) : 10 ^ a ≤ 10 ^ b := Nat.pow_le_pow_right (by decide) h

theorem numG_step {n : Int} {s : Str} {i : Nat} (h : i < s.length) : numG n (s.drop i) = if (s[i]).toNat < 48 ∨ 57 < (s[i]).toNat then none else numG (n * 10 + (((s[i]).toNat : Int) - 48)) (s.drop (i + 1)) := by
  rw [List.drop_eq_getElem_cons h, numG]

set_option maxHeartbeats 8000000 in
set_option maxRecDepth 100000 in
theorem snum_c (s : Str) (w : World) (hb : s.length ≤ 1000000) :
    Calls Try.prog 73 #[.string (bs s)] w (Ret w fun v L => v = .tuple #[.int .i64 ((numM s).getD 0), .bool (numM s).isSome] ∧ L = []) := by
  generalize hM : numM s = M
  have hbad : numBad s → M = none := fun h => by rw [← hM]; exact if_pos h
  refine calls1 Try.func73 rfl tabOk w _ rfl _ rfl [] trivial trivial _ (by decide) ?_
  refine stop_slen tabOk rfl rfl rfl rfl rfl rfl ⟨rfl, rfl⟩ ?_
  refine CaseB.mk (fun g => ?_) (fun g => ?_)
  · have hpos : 0 < s.length := by have := of_decide_eq_true g; omega
    have hh : s.head? = some s[0] := by rw [List.head?_eq_getElem?, List.getElem?_eq_getElem hpos]
    refine stop_sidx tabOk rfl rfl rfl rfl ⟨rfl, rfl⟩ (0) rfl (by first | omega | (simp; done) | (simp; omega) | (unfold maxLen; omega) | (unfold maxLen; simp; done) | (unfold maxLen; simp; omega)) ?_
    refine CaseB.mk (fun g2 => ?_) (fun g2 => ?_)
    refine stop_scut tabOk rfl rfl rfl ⟨rfl, rfl⟩ rfl rfl (1) (s.length) rfl rfl (by first | omega | (simp; done) | (simp; omega) | (unfold maxLen; omega) | (unfold maxLen; simp; done) | (unfold maxLen; simp; omega)) (by first | omega | (simp; done) | (simp; omega) | (unfold maxLen; omega) | (unfold maxLen; simp; done) | (unfold maxLen; simp; omega)) ?_
    have hn : isNeg s = true := by rw [isNeg, hh]; exact decide_eq_true (congrArg some ((u8_eq _ 45).1 (by simpa using g2)))
    have ht : unNeg s = (s.drop 1).take (s.length - 1) := by rw [unNeg, if_pos hn, List.take_of_length_le (by rw [List.length_drop]; omega)]
    have htl : (unNeg s).length ≤ 1000000 := by rw [ht]; simp; omega
    generalize (s.drop 1).take (s.length - 1) = t at ht ⊢
    generalize ((s[0].toNat : Int) == 45) = nb at g2 ⊢
    rw [← g2] at hn
    have hbad2 : t.length = 0 ∨ 17 < t.length ∨ (t.head? = some 48 ∧ (1 < t.length ∨ nb = true)) → M = none := fun h => hbad (by rw [numBad, ht, hn]; exact h)
    have hM2 : ¬ (t.length = 0 ∨ 17 < t.length ∨ (t.head? = some 48 ∧ (1 < t.length ∨ nb = true))) → M = (numG 0 t).map fun n => if nb = true then -n else n := fun h => by rw [← hM, numM, if_neg (by rw [numBad, ht, hn]; exact h), ht, hn]
    rw [ht] at htl
    refine stop_slen tabOk rfl rfl rfl rfl rfl rfl ⟨rfl, rfl⟩ ?_
    refine CaseB.mk (fun g3 => ?_) (fun g3 => ?_)
    · obtain rfl := hbad2 (.inl (by simpa using g3))
      exact retw [] ⟨rfl, rfl⟩ trivial rfl trivial (fun _ => rfl)
    refine stop_slen tabOk rfl rfl rfl rfl rfl rfl ⟨rfl, rfl⟩ ?_
    refine CaseB.mk (fun g4 => ?_) (fun g4 => ?_)
    · obtain rfl := hbad2 (.inr (.inl (by have := of_decide_eq_true g4; omega)))
      exact retw [] ⟨rfl, rfl⟩ trivial rfl trivial (fun _ => rfl)
    have hp0 : 0 < t.length := by have h : ¬ (t.length : Int) = 0 := (by simpa using g3); omega
    have h17 : t.length ≤ 17 := by have := of_decide_eq_false g4; omega
    have hh2 : t.head? = some t[0] := by rw [List.head?_eq_getElem?, List.getElem?_eq_getElem hp0]
    refine stop_sidx tabOk rfl rfl rfl rfl ⟨rfl, rfl⟩ (0) rfl (by first | omega | (simp; done) | (simp; omega) | (unfold maxLen; omega) | (unfold maxLen; simp; done) | (unfold maxLen; simp; omega)) ?_
    refine CaseB.mk (fun g5 => ?_) (fun g5 => ?_)
    · have e5 : t[0] = 48 := (u8_eq _ 48).1 (by simpa using g5)
      obtain rfl := hbad2 (.inr (.inr ⟨by rw [hh2, e5], .inr g2⟩))
      refine stop_slen tabOk rfl rfl rfl rfl rfl rfl ⟨rfl, rfl⟩ ?_
      refine CaseB.mk (fun g6 => ?_) (fun g6 => ?_)
      · exact retw [] ⟨rfl, rfl⟩ trivial rfl trivial (fun _ => rfl)
      refine CaseB.mk (fun g7 => ?_) (fun g7 => ?_)
      · exact retw [] ⟨rfl, rfl⟩ trivial rfl trivial (fun _ => rfl)
      rw [g2] at g7; cases g7
    have hg : ¬ (t.length = 0 ∨ 17 < t.length ∨ (t.head? = some 48 ∧ (1 < t.length ∨ nb = true))) := by
      rintro (h | h | ⟨h, h'⟩)
      · omega
      · omega
      · rw [hh2] at h; rw [Option.some.inj h] at g5; simp at g5
    rotate_left
    have hn : isNeg s = false := by rw [isNeg, hh]; exact decide_eq_false (fun h => by rw [Option.some.inj h] at g2; simp at g2)
    have ht : unNeg s = s := by rw [unNeg, if_neg (by rw [hn]; decide)]
    have htl : (unNeg s).length ≤ 1000000 := by rw [ht]; exact hb
    generalize ((s[0].toNat : Int) == 45) = nb at g2 ⊢
    rw [← g2] at hn
    obtain ⟨t, rfl⟩ : ∃ t, t = s := ⟨s, rfl⟩
    have hbad2 : t.length = 0 ∨ 17 < t.length ∨ (t.head? = some 48 ∧ (1 < t.length ∨ nb = true)) → M = none := fun h => hbad (by rw [numBad, ht, hn]; exact h)
    have hM2 : ¬ (t.length = 0 ∨ 17 < t.length ∨ (t.head? = some 48 ∧ (1 < t.length ∨ nb = true))) → M = (numG 0 t).map fun n => if nb = true then -n else n := fun h => by rw [← hM, numM, if_neg (by rw [numBad, ht, hn]; exact h), ht, hn]
    rw [ht] at htl
    refine stop_slen tabOk rfl rfl rfl rfl rfl rfl ⟨rfl, rfl⟩ ?_
    refine CaseB.mk (fun g3 => ?_) (fun g3 => ?_)
    · obtain rfl := hbad2 (.inl (by simpa using g3))
      exact retw [] ⟨rfl, rfl⟩ trivial rfl trivial (fun _ => rfl)
    refine stop_slen tabOk rfl rfl rfl rfl rfl rfl ⟨rfl, rfl⟩ ?_
    refine CaseB.mk (fun g4 => ?_) (fun g4 => ?_)
    · obtain rfl := hbad2 (.inr (.inl (by have := of_decide_eq_true g4; omega)))
      exact retw [] ⟨rfl, rfl⟩ trivial rfl trivial (fun _ => rfl)
    have hp0 : 0 < t.length := by have h : ¬ (t.length : Int) = 0 := (by simpa using g3); omega
    have h17 : t.length ≤ 17 := by have := of_decide_eq_false g4; omega
    have hh2 : t.head? = some t[0] := by rw [List.head?_eq_getElem?, List.getElem?_eq_getElem hp0]
    refine stop_sidx tabOk rfl rfl rfl rfl ⟨rfl, rfl⟩ (0) rfl (by first | omega | (simp; done) | (simp; omega) | (unfold maxLen; omega) | (unfold maxLen; simp; done) | (unfold maxLen; simp; omega)) ?_
    refine CaseB.mk (fun g5 => ?_) (fun g5 => ?_)
    refine stop_slen tabOk rfl rfl rfl rfl rfl rfl ⟨rfl, rfl⟩ ?_
    refine CaseB.mk (fun g6 => ?_) (fun g6 => ?_)
    · have e5 : t[0] = 48 := (u8_eq _ 48).1 (by simpa using g5)
      obtain rfl := hbad2 (.inr (.inr ⟨by rw [hh2, e5], .inl (by have := of_decide_eq_true g6; omega)⟩))
      exact retw [] ⟨rfl, rfl⟩ trivial rfl trivial (fun _ => rfl)
    refine CaseB.mk (fun g7 => ?_) (fun g7 => ?_)
    · rw [g2] at g7; cases g7
    have hg : ¬ (t.length = 0 ∨ 17 < t.length ∨ (t.head? = some 48 ∧ (1 < t.length ∨ nb = true))) := by
      rintro (h | h | ⟨h, h'⟩)
      · omega
      · omega
      · have := of_decide_eq_false g6
        rcases h' with h' | h'
        · omega
        · rw [g7] at h'; cases h'
    rotate_left
    have hg : ¬ (t.length = 0 ∨ 17 < t.length ∨ (t.head? = some 48 ∧ (1 < t.length ∨ nb = true))) := by
      rintro (h | h | ⟨h, h'⟩)
      · omega
      · omega
      · rw [hh2] at h; rw [Option.some.inj h] at g5; simp at g5
    rotate_left
    all_goals
      have hG := hM2 hg
      refine LoopW.mk ⟨{ q : Nat × Int // q.1 ≤ t.length ∧ numG 0 t = numG q.2 (t.drop q.1) ∧ 0 ≤ q.2 ∧ q.2 < ((10 ^ q.1 : Nat) : Int) },
        fun q => .mk [(0, .v (.string (bs t))), (4, .v (.bool nb)), (5, .v (.int .i64 q.1.2)), (6, .v (.int .i64 (q.1.1 : Int)))] 0 0 [] [] [],
        fun q => t.length - q.1.1, ⟨(0, 0), Nat.zero_le _, rfl, by decide, by decide⟩, ?_, ?_⟩
      · refine weak_mk [] ?_ ?_ ?_ ?_ ?_ rfl rfl
        · repeat (first | exact trivial | refine ⟨⟨_, rfl, (by first | exact .of rfl | exact .lit rfl | exact .of (by first | (rfl)) | exact .lit (by first | (rfl))), (by first | exact trivial | exact Nat.le_of_ble_eq_true rfl | exact small1 rfl)⟩, ?_⟩)
        · repeat (first | exact trivial | refine ⟨⟨(by first | exact .head _ | exact .tail _ (.head _) | exact .tail _ (.tail _ (.head _)) | exact .tail _ (.tail _ (.tail _ (.head _))) | exact .tail _ (.tail _ (.tail _ (.tail _ (.head _)))) | exact .tail _ (.tail _ (.tail _ (.tail _ (.tail _ (.head _))))) | exact .tail _ (.tail _ (.tail _ (.tail _ (.tail _ (.tail _ (.head _)))))) | exact .tail _ (.tail _ (.tail _ (.tail _ (.tail _ (.tail _ (.tail _ (.head _))))))) | exact .tail _ (.tail _ (.tail _ (.tail _ (.tail _ (.tail _ (.tail _ (.tail _ (.head _)))))))) | exact .tail _ (.tail _ (.tail _ (.tail _ (.tail _ (.tail _ (.tail _ (.tail _ (.tail _ (.head _)))))))))), Nat.le_of_ble_eq_true rfl⟩, ?_⟩)
        · repeat (first | exact trivial | refine ⟨⟨_, rfl, (by first | exact .of rfl | exact .lit rfl | exact .of (by first | (rfl)) | exact .lit (by first | (rfl))), (by first | exact trivial | exact Nat.le_of_ble_eq_true rfl | exact small1 rfl)⟩, ?_⟩)
        · repeat (first | exact trivial | refine ⟨⟨_, rfl⟩, ?_⟩)
        · repeat (first | exact trivial | refine ⟨.inl ⟨_, rfl, (by first | rfl | (rfl))⟩, ?_⟩ | refine ⟨.inr ⟨Nat.le_of_ble_eq_true rfl, rfl, rfl, rfl, rfl⟩, ?_⟩)
      rintro ⟨⟨i, n⟩, i1, i2, i3, i4⟩
      simp only at i1 i2 i3 i4 ⊢
      have hno : numG 0 t = none → M = none := fun h => by rw [hG, h]; rfl
      refine stop_slen tabOk rfl rfl rfl rfl rfl rfl ⟨rfl, rfl⟩ ?_
      refine CaseB.mk (fun gi => ?_) (fun gi => ?_)
      · have hlt : i < t.length := by have := of_decide_eq_true gi; omega
        have hw := e_succ i _ hlt (by omega)
        refine stop_sidx tabOk rfl rfl rfl rfl ⟨rfl, rfl⟩ (i) rfl (by first | omega | (simp; done) | (simp; omega) | (unfold maxLen; omega) | (unfold maxLen; simp; done) | (unfold maxLen; simp; omega)) ?_
        refine CaseB.mk (fun g8 => ?_) (fun g8 => ?_)
        · obtain rfl := hno (by rw [i2, numG_step hlt, if_pos (.inl (by have := of_decide_eq_true g8; omega))])
          exact retw [] ⟨rfl, rfl⟩ trivial rfl trivial (fun _ => rfl)
        refine stop_sidx tabOk rfl rfl rfl rfl ⟨rfl, rfl⟩ (i) rfl (by first | omega | (simp; done) | (simp; omega) | (unfold maxLen; omega) | (unfold maxLen; simp; done) | (unfold maxLen; simp; omega)) ?_
        refine CaseB.mk (fun g9 => ?_) (fun g9 => ?_)
        · obtain rfl := hno (by rw [i2, numG_step hlt, if_pos (.inr (by have := of_decide_eq_true g9; omega))])
          exact retw [] ⟨rfl, rfl⟩ trivial rfl trivial (fun _ => rfl)
        have d0 : 48 ≤ (t[i].toNat : Int) := by have := of_decide_eq_false g8; omega
        have d9 : (t[i].toNat : Int) ≤ 57 := by have := of_decide_eq_false g9; omega
        have hp := pow_le (show i ≤ 16 by omega)
        have hp2 : 10 ^ (i + 1) = 10 ^ i * 10 := Nat.pow_succ ..
        have e16 : 10 ^ 16 = 10000000000000000 := rfl
        have hv : IntKind.i64.wrap (IntKind.i64.wrap (n * 10) + IntKind.i64.wrap (IntKind.u8.wrap ((t[i].toNat : Int) - 48))) = n * 10 + ((t[i].toNat : Int) - 48) := by
          have w1 : IntKind.i64.wrap (n * 10) = n * 10 := wrap_nn (by omega) (by omega)
          have w2 : IntKind.u8.wrap ((t[i].toNat : Int) - 48) = (t[i].toNat : Int) - 48 := by rw [IntKind.wrap_u8]; omega
          have w3 : IntKind.i64.wrap ((t[i].toNat : Int) - 48) = (t[i].toNat : Int) - 48 := wrap_nn (by omega) (by omega)
          rw [w1, w2, w3, wrap_nn (by omega) (by omega)]
        refine stop_sidx tabOk rfl rfl rfl rfl ⟨rfl, rfl⟩ (i) rfl (by first | omega | (simp; done) | (simp; omega) | (unfold maxLen; omega) | (unfold maxLen; simp; done) | (unfold maxLen; simp; omega)) ?_
        refine ⟨⟨(i + 1, n * 10 + ((t[i].toNat : Int) - 48)), hlt, ?_, show (0 : Int) ≤ n * 10 + ((t[i].toNat : Int) - 48) by omega, show n * 10 + ((t[i].toNat : Int) - 48) < ((10 ^ (i + 1) : Nat) : Int) by omega⟩, ?_, by simp only; omega⟩
        · rw [i2, numG_step hlt, if_neg (by omega)]
        · refine weak_mk [] ?_ ?_ ?_ ?_ ?_ rfl rfl
          · repeat (first | exact trivial | refine ⟨⟨_, rfl, (by first | exact .of rfl | exact .lit rfl | exact .of (by first | ((first | exact congrArg (fun z => SV.v (Value.int .i64 z)) hw | exact congrArg (fun z => SV.v (Value.int .i64 z)) hv))) | exact .lit (by first | ((first | exact congrArg (fun z => SV.v (Value.int .i64 z)) hw | exact congrArg (fun z => SV.v (Value.int .i64 z)) hv)))), (by first | exact trivial | exact Nat.le_of_ble_eq_true rfl | exact small1 rfl)⟩, ?_⟩)
          · repeat (first | exact trivial | refine ⟨⟨(by first | exact .head _ | exact .tail _ (.head _) | exact .tail _ (.tail _ (.head _)) | exact .tail _ (.tail _ (.tail _ (.head _))) | exact .tail _ (.tail _ (.tail _ (.tail _ (.head _)))) | exact .tail _ (.tail _ (.tail _ (.tail _ (.tail _ (.head _))))) | exact .tail _ (.tail _ (.tail _ (.tail _ (.tail _ (.tail _ (.head _)))))) | exact .tail _ (.tail _ (.tail _ (.tail _ (.tail _ (.tail _ (.tail _ (.head _))))))) | exact .tail _ (.tail _ (.tail _ (.tail _ (.tail _ (.tail _ (.tail _ (.tail _ (.head _)))))))) | exact .tail _ (.tail _ (.tail _ (.tail _ (.tail _ (.tail _ (.tail _ (.tail _ (.tail _ (.head _)))))))))), Nat.le_of_ble_eq_true rfl⟩, ?_⟩)
          · repeat (first | exact trivial | refine ⟨⟨_, rfl, (by first | exact .of rfl | exact .lit rfl | exact .of (by first | ((first | exact congrArg (fun z => SV.v (Value.int .i64 z)) hw | exact congrArg (fun z => SV.v (Value.int .i64 z)) hv))) | exact .lit (by first | ((first | exact congrArg (fun z => SV.v (Value.int .i64 z)) hw | exact congrArg (fun z => SV.v (Value.int .i64 z)) hv)))), (by first | exact trivial | exact Nat.le_of_ble_eq_true rfl | exact small1 rfl)⟩, ?_⟩)
          · repeat (first | exact trivial | refine ⟨⟨_, rfl⟩, ?_⟩)
          · repeat (first | exact trivial | refine ⟨.inl ⟨_, rfl, (by first | rfl | ((first | exact congrArg (fun z => SV.v (Value.int .i64 z)) hw | exact congrArg (fun z => SV.v (Value.int .i64 z)) hv)))⟩, ?_⟩ | refine ⟨.inr ⟨Nat.le_of_ble_eq_true rfl, rfl, rfl, rfl, rfl⟩, ?_⟩)
      have hge : t.length ≤ i := by have := of_decide_eq_false gi; omega
      rw [List.drop_eq_nil_of_le hge] at i2
      have hMn : M = some (if nb = true then -n else n) := by rw [hG, i2]; rfl
      refine CaseB.mk (fun gn => ?_) (fun gn => ?_)
      · rw [hMn, gn]
        have hp := pow_le (show i ≤ 17 by omega)
        have e17 : 10 ^ 17 = 100000000000000000 := rfl
        have hw : IntKind.i64.wrap (0 - n) = -n := by rw [IntKind.wrap_i64]; omega
        exact retw [] (v := .tuple #[.int .i64 (IntKind.i64.wrap (0 - n)), .bool true]) ⟨by rw [hw]; rfl, rfl⟩ trivial rfl trivial (fun _ => rfl)
      · rw [hMn, gn]
        exact retw [] ⟨rfl, rfl⟩ trivial rfl trivial (fun _ => rfl)
  obtain rfl : s = [] := List.eq_nil_of_length_eq_zero (by have := of_decide_eq_false g; omega)
  obtain rfl := hbad (.inl rfl)
  refine stop_slen tabOk rfl rfl rfl rfl rfl rfl ⟨rfl, rfl⟩ ?_
  refine CaseB.mk (fun g3 => ?_) (fun g3 => by simp at g3)
  exact retw [] ⟨rfl, rfl⟩ trivial rfl trivial (fun _ => rfl)

set_option maxHeartbeats 4000000 in
set_option maxRecDepth 100000 in
theorem args_c (k : Int) (w : World) : Calls Try.prog 79 #[.int .i64 k] w (Ret w fun v L => v = .int .i64 (argsM k) ∧ L = []) := by
  refine calls1 Try.func79 rfl tabOk w _ rfl _ rfl [] trivial trivial _ (by decide) ?_
  repeat' (refine CaseB.mk (fun h => ?_) (fun h => ?_))
  all_goals
    simp only [beq_iff_eq, beq_eq_false_iff_ne] at *
    first
      | (exfalso; omega)
      | (refine retw [] ⟨?_, rfl⟩ trivial rfl trivial (fun _ => rfl); simp [argsM, *])

set_option maxRecDepth 100000 in
theorem word_c (k : Int) (w : World) : Calls Try.prog 63 #[.int .i64 k] w (Ret w fun v L => v = .string (bs (wordM k)) ∧ L = []) := by
  refine calls1 Try.func63 rfl tabOk w _ rfl _ rfl [] trivial trivial _ (by decide) ?_
  refine AllSl.mk fun l => ?_
  refine CaseB.mk (fun h => ?_) (fun h => ?_)
  · have e : wordM k = [] := if_pos (.inl (by have := of_decide_eq_true h; omega))
    rw [e]
    exact retw [] ⟨rfl, rfl⟩ trivial rfl trivial (fun _ => rfl)
  refine CaseB.mk (fun h2 => ?_) (fun h2 => ?_)
  · have e : wordM k = [] := if_pos (.inr (by have := of_decide_eq_true h2; omega))
    rw [e]
    exact retw [] ⟨rfl, rfl⟩ trivial rfl trivial (fun _ => rfl)
  have h1 : 1 ≤ k := by have := of_decide_eq_false h; omega
  have h10 : k ≤ 10 := by have := of_decide_eq_false h2; omega
  obtain ⟨j, rfl⟩ : ∃ j : Nat, k = j := ⟨k.toNat, (Int.toNat_of_nonneg (by omega)).symm⟩
  have hj : j < wordsL.length := by show j < 11; omega
  have e : wordM (j : Int) = wordsL[j] := by rw [wordM, if_neg (by omega), Int.toNat_natCast, List.getD_eq_getElem?_getD, List.getElem?_eq_getElem hj]; rfl
  rw [e]
  refine stop_idx encTxt (xs := wordsL) tabOk rfl rfl rfl rfl rfl ⟨rfl, rfl⟩ (rdOwnAt 0 rfl) j rfl hj (fun ad => ?_)
  exact retw [] ⟨rfl, rfl⟩ trivial rfl trivial (fun _ => rfl)

theorem rd_bytes {G : List Fct} (k : Nat) {old : Bool} {i : Sl} {e m : Nat} {cs : List Value} {s : Str} (hk : G[k]? = some (fOwn old i e 1 cs m)) (hm : m = s.length) (hc : cs = s.map fun b => .int .u8 (b.toNat : Int)) : ∀ w, (∀ f ∈ G, f.P w) → RdS w i 1 (s.map fun b => .int .u8 (b.toNat : Int)) s.length := by
  subst hm; subst hc; exact rdOwnAt k hk

theorem decG_step (f n : Nat) (out : Str) (h : 9 < n) : decG (f + 1) n out = decG f (n / 10) (UInt8.ofNat (48 + n % 10) :: out) := if_pos h

theorem digit (d : Nat) (h : d < 10) : IntKind.u8.wrap (IntKind.i64.wrap (48 + (d : Int))) = ((UInt8.ofNat (48 + d)).toNat : Int) := by
  have e : (UInt8.ofNat (48 + d)).toNat = 48 + d := by rw [UInt8.toNat_ofNat']; omega
  rw [e, wrap_nn (by omega) (by omega), IntKind.wrap_u8]; omega

set_option maxHeartbeats 4000000 in
set_option maxRecDepth 100000 in
theorem decN_c (n : Nat) (w : World) (hn : n < 1000000000000000000) : Calls Try.prog 78 #[.int .i64 (n : Int)] w (Ret w fun v L => v = .string (bs (decG 19 n [])) ∧ L = []) := by
  refine calls1 Try.func78 rfl tabOk w _ rfl _ rfl [] trivial trivial _ (by decide) ?_
  refine CaseB.mk (fun g => by have := of_decide_eq_true g; omega) (fun _ => ?_)
  refine CaseB.mk (fun g => by have := of_decide_eq_true g; omega) (fun _ => ?_)
  refine LoopW.mk ⟨{ q : Nat × Nat × Str // decG 19 n [] = decG q.1 q.2.1 q.2.2 ∧ q.2.1 < 10 ^ q.1 ∧ 1 ≤ q.1 ∧ q.2.2.length + q.1 ≤ 19 ∧ q.2.1 < 1000000000000000000 },
    fun q => .mk [(0, .v (.int .i64 (q.1.2.1 : Int))), (3, .v (.string (bs q.1.2.2)))] 0 0 [] [] [],
    fun q => q.1.1, ⟨(19, n, []), rfl, by show n < 10 ^ 19; omega, by show 1 ≤ 19; omega, by simp, hn⟩, ?_, ?_⟩
  · refine weak_mk [] ?_ ?_ ?_ ?_ ?_ rfl rfl
    · repeat (first | exact trivial | refine ⟨⟨_, rfl, (by first | exact .of rfl | exact .lit rfl | exact .of (by first | (rfl)) | exact .lit (by first | (rfl))), (by first | exact trivial | exact Nat.le_of_ble_eq_true rfl | exact small1 rfl)⟩, ?_⟩)
    · repeat (first | exact trivial | refine ⟨⟨(by first | exact .head _ | exact .tail _ (.head _) | exact .tail _ (.tail _ (.head _)) | exact .tail _ (.tail _ (.tail _ (.head _))) | exact .tail _ (.tail _ (.tail _ (.tail _ (.head _)))) | exact .tail _ (.tail _ (.tail _ (.tail _ (.tail _ (.head _))))) | exact .tail _ (.tail _ (.tail _ (.tail _ (.tail _ (.tail _ (.head _)))))) | exact .tail _ (.tail _ (.tail _ (.tail _ (.tail _ (.tail _ (.tail _ (.head _))))))) | exact .tail _ (.tail _ (.tail _ (.tail _ (.tail _ (.tail _ (.tail _ (.tail _ (.head _)))))))) | exact .tail _ (.tail _ (.tail _ (.tail _ (.tail _ (.tail _ (.tail _ (.tail _ (.tail _ (.head _)))))))))), Nat.le_of_ble_eq_true rfl⟩, ?_⟩)
    · repeat (first | exact trivial | refine ⟨⟨_, rfl, (by first | exact .of rfl | exact .lit rfl | exact .of (by first | (rfl)) | exact .lit (by first | (rfl))), (by first | exact trivial | exact Nat.le_of_ble_eq_true rfl | exact small1 rfl)⟩, ?_⟩)
    · repeat (first | exact trivial | refine ⟨⟨_, rfl⟩, ?_⟩)
    · repeat (first | exact trivial | refine ⟨.inl ⟨_, rfl, (by first | rfl | (rfl))⟩, ?_⟩ | refine ⟨.inr ⟨Nat.le_of_ble_eq_true rfl, rfl, rfl, rfl, rfl⟩, ?_⟩)
  rintro ⟨⟨f, m, out⟩, i1, i2, i3, i4, i5⟩
  simp only at i1 i2 i3 i4 i5 ⊢
  refine CaseB.mk (fun g => ?_) (fun g => ?_)
  · have h9 : 9 < m := by have := of_decide_eq_true g; omega
    obtain ⟨f, rfl⟩ : ∃ f', f = f' + 1 := ⟨f - 1, by omega⟩
    have hp : 10 ^ (f + 1) = 10 ^ f * 10 := Nat.pow_succ ..
    have hf : 1 ≤ f := by
      rcases Nat.eq_zero_or_pos f with h | h
      · subst h; simp at i2; omega
      · exact h
    refine stop_bin rfl rfl rfl ⟨rfl, rfl⟩ (.int .i64 ((m % 10 : Nat) : Int)) (fun w => eqGuard_int w) (fun w => rem_run (by omega) (by rw [Int.tmod_eq_emod_of_nonneg (by omega)]; omega) w) ?_
    refine AllSl.mk fun b => ?_
    refine stop_b2s (s := [UInt8.ofNat (48 + m % 10)]) tabOk rfl rfl rfl rfl rfl ⟨rfl, rfl⟩ (rd_bytes 0 rfl rfl (by rw [digit (m % 10) (by omega)]; rfl)) (Nat.zero_lt_one) ?_
    refine stop_bin rfl rfl rfl ⟨rfl, rfl⟩ (.string (bs ([UInt8.ofNat (48 + m % 10)] ++ out))) (fun w => eqGuard_str w) (fun w => sadd_run (by simp only [List.length_cons, List.length_nil]; omega) w) ?_
    refine stop_bin rfl rfl rfl ⟨rfl, rfl⟩ (.int .i64 ((m / 10 : Nat) : Int)) (fun w => eqGuard_int w) (fun w => quo_run (by omega) (by rw [Int.tdiv_eq_ediv_of_nonneg (by omega), wrap_nn (by omega) (by omega)]; omega) w) ?_
    refine ⟨⟨(f, m / 10, UInt8.ofNat (48 + m % 10) :: out), i1.trans (decG_step f m out h9), show m / 10 < 10 ^ f by omega, hf, by simp only [List.length_cons]; omega, show m / 10 < 1000000000000000000 by omega⟩, ?_, by simp only; omega⟩
    refine weak_mk [] ?_ ?_ ?_ ?_ ?_ rfl rfl
    · repeat (first | exact trivial | refine ⟨⟨_, rfl, (by first | exact .of rfl | exact .lit rfl | exact .of (by first | (rfl)) | exact .lit (by first | (rfl))), (by first | exact trivial | exact Nat.le_of_ble_eq_true rfl | exact small1 rfl)⟩, ?_⟩)
    · repeat (first | exact trivial | refine ⟨⟨(by first | exact .head _ | exact .tail _ (.head _) | exact .tail _ (.tail _ (.head _)) | exact .tail _ (.tail _ (.tail _ (.head _))) | exact .tail _ (.tail _ (.tail _ (.tail _ (.head _)))) | exact .tail _ (.tail _ (.tail _ (.tail _ (.tail _ (.head _))))) | exact .tail _ (.tail _ (.tail _ (.tail _ (.tail _ (.tail _ (.head _)))))) | exact .tail _ (.tail _ (.tail _ (.tail _ (.tail _ (.tail _ (.tail _ (.head _))))))) | exact .tail _ (.tail _ (.tail _ (.tail _ (.tail _ (.tail _ (.tail _ (.tail _ (.head _)))))))) | exact .tail _ (.tail _ (.tail _ (.tail _ (.tail _ (.tail _ (.tail _ (.tail _ (.tail _ (.head _)))))))))), Nat.le_of_ble_eq_true rfl⟩, ?_⟩)
    · repeat (first | exact trivial | refine ⟨⟨_, rfl, (by first | exact .of rfl | exact .lit rfl | exact .of (by first | (rfl)) | exact .lit (by first | (rfl))), (by first | exact trivial | exact Nat.le_of_ble_eq_true rfl | exact small1 rfl)⟩, ?_⟩)
    · repeat (first | exact trivial | refine ⟨⟨_, rfl⟩, ?_⟩)
    · repeat (first | exact trivial | refine ⟨.inl ⟨_, rfl, (by first | rfl | (rfl))⟩, ?_⟩ | refine ⟨.inr ⟨Nat.le_of_ble_eq_true rfl, rfl, rfl, rfl, rfl⟩, ?_⟩)
  have h9 : m ≤ 9 := by have := of_decide_eq_false g; omega
  obtain ⟨f, rfl⟩ : ∃ f', f = f' + 1 := ⟨f - 1, by omega⟩
  refine AllSl.mk fun b => ?_
  refine stop_b2s (s := [UInt8.ofNat (48 + m)]) tabOk rfl rfl rfl rfl rfl ⟨rfl, rfl⟩ (rd_bytes 0 rfl rfl (by rw [digit m (by omega)]; rfl)) (Nat.zero_lt_one) ?_
  refine stop_bin rfl rfl rfl ⟨rfl, rfl⟩ (.string (bs ([UInt8.ofNat (48 + m)] ++ out))) (fun w => eqGuard_str w) (fun w => sadd_run (by simp only [List.length_cons, List.length_nil]; omega) w) ?_
  have e : decG 19 n [] = [UInt8.ofNat (48 + m)] ++ out := by rw [i1, decG, if_neg (by omega)]; rfl
  rw [e]
  exact retw [] ⟨rfl, rfl⟩ trivial rfl trivial (fun _ => rfl)

set_option maxRecDepth 100000 in
theorem dec_c (n : Int) (w : World) (h1 : -1000000000000000000 < n) (h2 : n < 1000000000000000000) : Calls Try.prog 78 #[.int .i64 n] w (Ret w fun v L => v = .string (bs (decM n)) ∧ L = []) := by
  by_cases hn : 0 ≤ n
  · obtain ⟨k, rfl⟩ : ∃ k : Nat, n = k := ⟨n.toNat, (Int.toNat_of_nonneg hn).symm⟩
    have e : decM (k : Int) = decG 19 k [] := by rw [decM, if_neg (by omega)]; rfl
    rw [e]
    exact decN_c k w (by omega)
  obtain ⟨k, rfl⟩ : ∃ k : Nat, n = -(k : Int) := ⟨(-n).toNat, by omega⟩
  have e : decM (-(k : Int)) = [45] ++ decG 19 k [] := by
    rw [decM, if_pos (by omega), show (-(k : Int)).natAbs = k by omega]; rfl
  rw [e]
  have hw : IntKind.i64.wrap (0 - -(k : Int)) = (k : Int) := by rw [wrap_nn] <;> omega
  refine calls1 Try.func78 rfl tabOk w _ rfl _ rfl [] trivial trivial _ (by decide) ?_
  refine CaseB.mk (fun g => by have := of_decide_eq_true g; omega) (fun _ => ?_)
  refine CaseB.mk (fun g => ?_) (fun g => by have := of_decide_eq_false g; omega)
  refine stop_call _ cl78 rfl rfl rfl rfl ⟨rfl, rfl⟩ (fun A w hW => (by rw [hw]; exact decN_c k w (by omega))) ?_
  rintro v L ⟨rfl, rfl⟩
  have hl := decG_len 19 k []
  refine stop_bin rfl rfl rfl ⟨rfl, rfl⟩ (.string (bs ([45] ++ (decG 19 k [])))) (fun w => eqGuard_str w) (fun w => sadd_run (by simp only [List.length_cons, List.length_nil] at hl ⊢; omega) w) ?_
  exact retw [] ⟨rfl, rfl⟩ trivial rfl trivial (fun _ => rfl)

end Go.Proofs.Ytjkkoonennpceaa

namespace Go.Proofs.Ytjkkoonennpceaa

open Go Go.Sx Go.RowKit

theorem argsM_012 (k : Int) : argsM k = 0 ∨ argsM k = 1 ∨ argsM k = 2 := by
  unfold argsM
  split
  · exact .inr (.inl rfl)
  · split
    · exact .inl rfl
    · exact .inr (.inr rfl)

theorem len_one {ns : List Int} (h : ns.length = 1) : ∃ a, ns = [a] := by
  match ns, h with
  | [a], _ => exact ⟨a, rfl⟩

theorem len_two {ns : List Int} (h : ns.length = 2) : ∃ a b, ns = [a, b] := by
  match ns, h with
  | [a, b], _ => exact ⟨a, b, rfl⟩

theorem makeM_len {k : Int} {ns : List Int} (h : (argsM k = 0 ∨ argsM k = 1) → ns.length ≠ 1) (h2 : argsM k = 2 → ns.length ≠ 2) : makeM k ns = none := by
  unfold makeM
  rcases argsM_012 k with e | e | e
  · rw [if_pos e]
    split
    · exact (h (.inl e) rfl).elim
    · rfl
  · rw [if_neg (by omega), if_pos e]
    split
    · exact (h (.inr e) rfl).elim
    · rfl
  · rw [if_neg (by omega), if_neg (by omega)]
    split
    · exact (h2 e rfl).elim
    · rfl

set_option maxHeartbeats 4000000 in
set_option maxRecDepth 100000 in
theorem make_c (k : Int) (i : Sl) (ns : List Int) (w : World) (h : At w [slo i cInt 1 ns]) :
    Calls Try.prog 77 #[.int .i64 k, i.val ns.length] w (Ret w fun v L => v = .tuple #[.agg (cOp ((makeM k ns).getD Op0)).toArray, .bool (makeM k ns).isSome] ∧ L = []) := by
  refine calls2 Try.func77 rfl tabOk w _ rfl _ rfl _ h ⟨rfl, rfl, trivial⟩ _ _ (by decide) ?_
  refine stop_call _ cl79 rfl rfl rfl rfl ⟨rfl, rfl⟩ (fun A w hW => (args_c k w)) ?_
  rintro v L ⟨rfl, rfl⟩
  refine CaseB.mk (fun g => ?_) (fun g => ?_)
  · have a0 : argsM k = 0 := by simpa using g
    refine CaseB.mk (fun g2 => ?_) (fun g2 => ?_)
    · obtain ⟨a, rfl⟩ := len_one (ns := ns) (by have g' : (ns.length : Int) = 1 := (by simpa using g2); omega)
      refine stop_idx encInt tabOk rfl rfl rfl rfl rfl ⟨rfl, rfl⟩ (by first | exact rdAt 0 rfl | exact rdOwnAt 0 rfl | exact rdAt 1 rfl | exact rdOwnAt 1 rfl | exact rdAt 2 rfl | exact rdOwnAt 2 rfl | exact rdAt 3 rfl | exact rdOwnAt 3 rfl | exact rdAt 4 rfl | exact rdOwnAt 4 rfl | exact rdAt 5 rfl | exact rdOwnAt 5 rfl | exact rdAt 6 rfl | exact rdOwnAt 6 rfl | exact rdAt 7 rfl | exact rdOwnAt 7 rfl | exact rdAt 8 rfl | exact rdOwnAt 8 rfl | exact rdAt 9 rfl | exact rdOwnAt 9 rfl | exact rdAt 10 rfl | exact rdOwnAt 10 rfl | exact rdAt 11 rfl | exact rdOwnAt 11 rfl | exact rdAt 12 rfl | exact rdOwnAt 12 rfl | exact rdAt 13 rfl | exact rdOwnAt 13 rfl | exact rdAt 14 rfl | exact rdOwnAt 14 rfl | exact rdAt 15 rfl | exact rdOwnAt 15 rfl | exact rdAt 16 rfl | exact rdOwnAt 16 rfl | exact rdAt 17 rfl | exact rdOwnAt 17 rfl | exact rdAt 18 rfl | exact rdOwnAt 18 rfl | exact rdAt 19 rfl | exact rdOwnAt 19 rfl | exact rdAt 20 rfl | exact rdOwnAt 20 rfl | exact rdAt 21 rfl | exact rdOwnAt 21 rfl | exact rdAt 22 rfl | exact rdOwnAt 22 rfl | exact rdAt 23 rfl | exact rdOwnAt 23 rfl) 0 rfl (by first | omega | (simp; done) | (simp; omega) | (unfold maxLen; omega) | (unfold maxLen; simp; done) | (unfold maxLen; simp; omega)) (fun ad => ?_)
      have e : makeM k [a] = some ⟨k, 0, a⟩ := by rw [makeM, if_pos a0]
      rw [e]
      exact retw [] ⟨rfl, rfl⟩ trivial rfl trivial (fun _ => rfl)
    have hl : ns.length ≠ 1 := fun h => by rw [h] at g2; simp at g2
    rw [makeM_len (fun _ => hl) (fun e => by omega)]
    refine stop_call _ cl79 rfl rfl rfl rfl ⟨rfl, rfl⟩ (fun A w hW => (args_c k w)) ?_
    rintro v L ⟨rfl, rfl⟩
    refine CaseB.mk (fun g3 => by rw [a0] at g3; simp at g3) (fun _ => ?_)
    refine stop_call _ cl79 rfl rfl rfl rfl ⟨rfl, rfl⟩ (fun A w hW => (args_c k w)) ?_
    rintro v L ⟨rfl, rfl⟩
    refine CaseB.mk (fun g3 => by rw [a0] at g3; simp at g3) (fun _ => ?_)
    exact retw [] ⟨rfl, rfl⟩ trivial rfl trivial (fun _ => rfl)
  have n0 : ¬ argsM k = 0 := by simpa using g
  refine stop_call _ cl79 rfl rfl rfl rfl ⟨rfl, rfl⟩ (fun A w hW => (args_c k w)) ?_
  rintro v L ⟨rfl, rfl⟩
  refine CaseB.mk (fun g => ?_) (fun g => ?_)
  · have a0 : argsM k = 1 := by simpa using g
    refine CaseB.mk (fun g2 => ?_) (fun g2 => ?_)
    · obtain ⟨a, rfl⟩ := len_one (ns := ns) (by have g' : (ns.length : Int) = 1 := (by simpa using g2); omega)
      refine stop_idx encInt tabOk rfl rfl rfl rfl rfl ⟨rfl, rfl⟩ (by first | exact rdAt 0 rfl | exact rdOwnAt 0 rfl | exact rdAt 1 rfl | exact rdOwnAt 1 rfl | exact rdAt 2 rfl | exact rdOwnAt 2 rfl | exact rdAt 3 rfl | exact rdOwnAt 3 rfl | exact rdAt 4 rfl | exact rdOwnAt 4 rfl | exact rdAt 5 rfl | exact rdOwnAt 5 rfl | exact rdAt 6 rfl | exact rdOwnAt 6 rfl | exact rdAt 7 rfl | exact rdOwnAt 7 rfl | exact rdAt 8 rfl | exact rdOwnAt 8 rfl | exact rdAt 9 rfl | exact rdOwnAt 9 rfl | exact rdAt 10 rfl | exact rdOwnAt 10 rfl | exact rdAt 11 rfl | exact rdOwnAt 11 rfl | exact rdAt 12 rfl | exact rdOwnAt 12 rfl | exact rdAt 13 rfl | exact rdOwnAt 13 rfl | exact rdAt 14 rfl | exact rdOwnAt 14 rfl | exact rdAt 15 rfl | exact rdOwnAt 15 rfl | exact rdAt 16 rfl | exact rdOwnAt 16 rfl | exact rdAt 17 rfl | exact rdOwnAt 17 rfl | exact rdAt 18 rfl | exact rdOwnAt 18 rfl | exact rdAt 19 rfl | exact rdOwnAt 19 rfl | exact rdAt 20 rfl | exact rdOwnAt 20 rfl | exact rdAt 21 rfl | exact rdOwnAt 21 rfl | exact rdAt 22 rfl | exact rdOwnAt 22 rfl | exact rdAt 23 rfl | exact rdOwnAt 23 rfl) 0 rfl (by first | omega | (simp; done) | (simp; omega) | (unfold maxLen; omega) | (unfold maxLen; simp; done) | (unfold maxLen; simp; omega)) (fun ad => ?_)
      have e : makeM k [a] = some ⟨k, a, 0⟩ := by rw [makeM, if_neg n0, if_pos a0]
      rw [e]
      exact retw [] ⟨rfl, rfl⟩ trivial rfl trivial (fun _ => rfl)
    have hl : ns.length ≠ 1 := fun h => by rw [h] at g2; simp at g2
    rw [makeM_len (fun _ => hl) (fun e => by omega)]
    refine stop_call _ cl79 rfl rfl rfl rfl ⟨rfl, rfl⟩ (fun A w hW => (args_c k w)) ?_
    rintro v L ⟨rfl, rfl⟩
    refine CaseB.mk (fun g3 => by rw [a0] at g3; simp at g3) (fun _ => ?_)
    exact retw [] ⟨rfl, rfl⟩ trivial rfl trivial (fun _ => rfl)
  have n1 : ¬ argsM k = 1 := by simpa using g
  have a2 : argsM k = 2 := by have := argsM_012 k; omega
  refine stop_call _ cl79 rfl rfl rfl rfl ⟨rfl, rfl⟩ (fun A w hW => (args_c k w)) ?_
  rintro v L ⟨rfl, rfl⟩
  refine CaseB.mk (fun g => ?_) (fun g => by rw [a2] at g; simp at g)
  refine CaseB.mk (fun g2 => ?_) (fun g2 => ?_)
  · obtain ⟨a, b, rfl⟩ := len_two (ns := ns) (by have g' : (ns.length : Int) = 2 := (by simpa using g2); omega)
    refine stop_idx encInt tabOk rfl rfl rfl rfl rfl ⟨rfl, rfl⟩ (by first | exact rdAt 0 rfl | exact rdOwnAt 0 rfl | exact rdAt 1 rfl | exact rdOwnAt 1 rfl | exact rdAt 2 rfl | exact rdOwnAt 2 rfl | exact rdAt 3 rfl | exact rdOwnAt 3 rfl | exact rdAt 4 rfl | exact rdOwnAt 4 rfl | exact rdAt 5 rfl | exact rdOwnAt 5 rfl | exact rdAt 6 rfl | exact rdOwnAt 6 rfl | exact rdAt 7 rfl | exact rdOwnAt 7 rfl | exact rdAt 8 rfl | exact rdOwnAt 8 rfl | exact rdAt 9 rfl | exact rdOwnAt 9 rfl | exact rdAt 10 rfl | exact rdOwnAt 10 rfl | exact rdAt 11 rfl | exact rdOwnAt 11 rfl | exact rdAt 12 rfl | exact rdOwnAt 12 rfl | exact rdAt 13 rfl | exact rdOwnAt 13 rfl | exact rdAt 14 rfl | exact rdOwnAt 14 rfl | exact rdAt 15 rfl | exact rdOwnAt 15 rfl | exact rdAt 16 rfl | exact rdOwnAt 16 rfl | exact rdAt 17 rfl | exact rdOwnAt 17 rfl | exact rdAt 18 rfl | exact rdOwnAt 18 rfl | exact rdAt 19 rfl | exact rdOwnAt 19 rfl | exact rdAt 20 rfl | exact rdOwnAt 20 rfl | exact rdAt 21 rfl | exact rdOwnAt 21 rfl | exact rdAt 22 rfl | exact rdOwnAt 22 rfl | exact rdAt 23 rfl | exact rdOwnAt 23 rfl) 0 rfl (by first | omega | (simp; done) | (simp; omega) | (unfold maxLen; omega) | (unfold maxLen; simp; done) | (unfold maxLen; simp; omega)) (fun ad => ?_)
    refine stop_idx encInt tabOk rfl rfl rfl rfl rfl ⟨rfl, rfl⟩ (by first | exact rdAt 0 rfl | exact rdOwnAt 0 rfl | exact rdAt 1 rfl | exact rdOwnAt 1 rfl | exact rdAt 2 rfl | exact rdOwnAt 2 rfl | exact rdAt 3 rfl | exact rdOwnAt 3 rfl | exact rdAt 4 rfl | exact rdOwnAt 4 rfl | exact rdAt 5 rfl | exact rdOwnAt 5 rfl | exact rdAt 6 rfl | exact rdOwnAt 6 rfl | exact rdAt 7 rfl | exact rdOwnAt 7 rfl | exact rdAt 8 rfl | exact rdOwnAt 8 rfl | exact rdAt 9 rfl | exact rdOwnAt 9 rfl | exact rdAt 10 rfl | exact rdOwnAt 10 rfl | exact rdAt 11 rfl | exact rdOwnAt 11 rfl | exact rdAt 12 rfl | exact rdOwnAt 12 rfl | exact rdAt 13 rfl | exact rdOwnAt 13 rfl | exact rdAt 14 rfl | exact rdOwnAt 14 rfl | exact rdAt 15 rfl | exact rdOwnAt 15 rfl | exact rdAt 16 rfl | exact rdOwnAt 16 rfl | exact rdAt 17 rfl | exact rdOwnAt 17 rfl | exact rdAt 18 rfl | exact rdOwnAt 18 rfl | exact rdAt 19 rfl | exact rdOwnAt 19 rfl | exact rdAt 20 rfl | exact rdOwnAt 20 rfl | exact rdAt 21 rfl | exact rdOwnAt 21 rfl | exact rdAt 22 rfl | exact rdOwnAt 22 rfl | exact rdAt 23 rfl | exact rdOwnAt 23 rfl) 1 rfl (by first | omega | (simp; done) | (simp; omega) | (unfold maxLen; omega) | (unfold maxLen; simp; done) | (unfold maxLen; simp; omega)) (fun ad => ?_)
    have e : makeM k [a, b] = some ⟨k, a, b⟩ := by rw [makeM, if_neg n0, if_neg n1]
    rw [e]
    exact retw [] ⟨rfl, rfl⟩ trivial rfl trivial (fun _ => rfl)
  have hl : ns.length ≠ 2 := fun h => by rw [h] at g2; simp at g2
  rw [makeM_len (fun e => by omega) (fun _ => hl)]
  exact retw [] ⟨rfl, rfl⟩ trivial rfl trivial (fun _ => rfl)

/-- Its numbers are far from the ends of the ints. -/
def Op.near (o : Op) : Prop := -1000000000000000000 < o.on ∧ o.on < 1000000000000000000 ∧ -1000000000000000000 < o.arg ∧ o.arg < 1000000000000000000

set_option maxHeartbeats 4000000 in
set_option maxRecDepth 100000 in
theorem fmtOp_c (o : Op) (w : World) (hn : o.near) :
    Calls Try.prog 76 #[.agg (cOp o).toArray] w (Ret w fun v L => v = .string (bs (fmtOpM o)) ∧ L = []) := by
  obtain ⟨h1, h2, h3, h4⟩ := hn
  have lw := wordM_len o.kind
  have l1 := decM_len o.on
  have l2 := decM_len o.arg
  refine calls1 Try.func76 rfl tabOk w _ rfl _ rfl [] trivial trivial _ (by decide) ?_
  refine stop_call _ cl63 rfl rfl rfl rfl ⟨rfl, rfl⟩ (fun A w hW => (word_c o.kind w)) ?_
  rintro v L ⟨rfl, rfl⟩
  refine stop_bin rfl rfl rfl ⟨rfl, rfl⟩ (.bool ((wordM o.kind) == [])) (fun w => eqGuard_str w) (fun w => seq_run w) ?_
  refine CaseB.mk (fun g => ?_) (fun g => ?_)
  · have e : fmtOpM o = [] := if_pos (by simpa using g)
    rw [e]
    exact retw [] ⟨rfl, rfl⟩ trivial rfl trivial (fun _ => rfl)
  have e0 : wordM o.kind ≠ [] := by simpa using g
  refine stop_call _ cl79 rfl rfl rfl rfl ⟨rfl, rfl⟩ (fun A w hW => (args_c o.kind w)) ?_
  rintro v L ⟨rfl, rfl⟩
  refine CaseB.mk (fun g => ?_) (fun g => ?_)
  · have a0 : argsM o.kind = 0 := by simpa using g
    refine stop_bin rfl rfl rfl ⟨rfl, rfl⟩ (.string (bs ((wordM o.kind) ++ [32]))) (fun w => eqGuard_str w) (fun w => sadd_run (by simp only [List.length_cons, List.length_nil]; omega) w) ?_
    refine stop_call _ cl78 rfl rfl rfl rfl ⟨rfl, rfl⟩ (fun A w hW => (dec_c o.arg w h3 h4)) ?_
    rintro v L ⟨rfl, rfl⟩
    refine stop_bin rfl rfl rfl ⟨rfl, rfl⟩ (.string (bs ((wordM o.kind ++ [32]) ++ (decM o.arg)))) (fun w => eqGuard_str w) (fun w => sadd_run (by simp only [List.length_append, List.length_cons, List.length_nil]; omega) w) ?_
    have e : fmtOpM o = (wordM o.kind ++ [32]) ++ decM o.arg := by rw [fmtOpM, if_neg e0, if_pos a0]
    rw [e]
    exact retw [] ⟨rfl, rfl⟩ trivial rfl trivial (fun _ => rfl)
  have n0 : ¬ argsM o.kind = 0 := by simpa using g
  refine stop_call _ cl79 rfl rfl rfl rfl ⟨rfl, rfl⟩ (fun A w hW => (args_c o.kind w)) ?_
  rintro v L ⟨rfl, rfl⟩
  refine CaseB.mk (fun g => ?_) (fun g => ?_)
  · have a1 : argsM o.kind = 1 := by simpa using g
    refine stop_bin rfl rfl rfl ⟨rfl, rfl⟩ (.string (bs ((wordM o.kind) ++ [32]))) (fun w => eqGuard_str w) (fun w => sadd_run (by simp only [List.length_cons, List.length_nil]; omega) w) ?_
    refine stop_call _ cl78 rfl rfl rfl rfl ⟨rfl, rfl⟩ (fun A w hW => (dec_c o.on w h1 h2)) ?_
    rintro v L ⟨rfl, rfl⟩
    refine stop_bin rfl rfl rfl ⟨rfl, rfl⟩ (.string (bs ((wordM o.kind ++ [32]) ++ (decM o.on)))) (fun w => eqGuard_str w) (fun w => sadd_run (by simp only [List.length_append, List.length_cons, List.length_nil]; omega) w) ?_
    have e : fmtOpM o = (wordM o.kind ++ [32]) ++ decM o.on := by rw [fmtOpM, if_neg e0, if_neg n0, if_pos a1]
    rw [e]
    exact retw [] ⟨rfl, rfl⟩ trivial rfl trivial (fun _ => rfl)
  have n1 : ¬ argsM o.kind = 1 := by simpa using g
  have e : fmtOpM o = (((wordM o.kind ++ [32]) ++ decM o.on) ++ [32]) ++ decM o.arg := by rw [fmtOpM, if_neg e0, if_neg n0, if_neg n1]
  rw [e]
  refine draw_start tabOk (by kernel_rfl) (by kernel_rfl) (by kernel_rfl) 200 [((0, 1), .v (.int .i64 o.on)), ((0, 2), .v (.int .i64 o.arg))] [] [] ⟨⟨_, rfl, rfl, (by first | exact trivial | exact Nat.le_of_ble_eq_true rfl)⟩, ⟨_, rfl, rfl, (by first | exact trivial | exact Nat.le_of_ble_eq_true rfl)⟩, trivial⟩ ⟨⟨_, rfl⟩, ⟨_, rfl⟩, trivial⟩ trivial rfl ?_
  refine d_bin rfl rfl rfl ⟨rfl, rfl⟩ (.string (bs ((wordM o.kind) ++ [32]))) (fun w => eqGuard_str w) (fun w => sadd_run (by simp only [List.length_cons, List.length_nil]; omega) w) ?_
  refine d_call _ cl78 rfl rfl rfl rfl ⟨rfl, rfl⟩ (fun A w hW => (dec_c o.on w h1 h2)) ?_
  rintro v L ⟨rfl, rfl⟩
  refine d_bin rfl rfl rfl ⟨rfl, rfl⟩ (.string (bs ((wordM o.kind ++ [32]) ++ (decM o.on)))) (fun w => eqGuard_str w) (fun w => sadd_run (by simp only [List.length_append, List.length_cons, List.length_nil]; omega) w) ?_
  refine d_bin rfl rfl rfl ⟨rfl, rfl⟩ (.string (bs (((wordM o.kind ++ [32]) ++ decM o.on) ++ [32]))) (fun w => eqGuard_str w) (fun w => sadd_run (by simp only [List.length_append, List.length_cons, List.length_nil]; omega) w) ?_
  refine d_call _ cl78 rfl rfl rfl rfl ⟨rfl, rfl⟩ (fun A w hW => (dec_c o.arg w h3 h4)) ?_
  rintro v L ⟨rfl, rfl⟩
  refine d_bin rfl rfl rfl ⟨rfl, rfl⟩ (.string (bs ((((wordM o.kind ++ [32]) ++ decM o.on) ++ [32]) ++ (decM o.arg)))) (fun w => eqGuard_str w) (fun w => sadd_run (by simp only [List.length_append, List.length_cons, List.length_nil]; omega) w) ?_
  exact retw [] ⟨rfl, rfl⟩ trivial rfl trivial (fun _ => rfl)

end Go.Proofs.Ytjkkoonennpceaa

namespace Go.Proofs.Ytjkkoonennpceaa

open Go Go.Sx Go.RowKit

theorem numG_near : ∀ (s : Str) (n m : Int) (k : Nat), 0 ≤ n → n < ((10 ^ k : Nat) : Int) → numG n s = some m → 0 ≤ m ∧ m < ((10 ^ (k + s.length) : Nat) : Int)
  | [], n, m, k, h0, h1, h => by simp only [numG, Option.some.injEq] at h; subst h; exact ⟨h0, h1⟩
  | x :: r, n, m, k, h0, h1, h => by
    simp only [numG] at h
    split at h
    · cases h
    · have hp : 10 ^ (k + 1) = 10 ^ k * 10 := Nat.pow_succ ..
      have := numG_near r (n * 10 + ((x.toNat : Int) - 48)) m (k + 1) (by omega) (by omega) h
      rw [show k + (x :: r).length = k + 1 + r.length by simp only [List.length_cons]; omega]
      exact this

def nearN (n : Int) : Prop := -1000000000000000000 < n ∧ n < 1000000000000000000

theorem numM_near {s : Str} {n : Int} (h : numM s = some n) : nearN n := by
  unfold numM at h
  split at h
  · cases h
  · rename_i hb
    have hl : (unNeg s).length ≤ 17 := Nat.le_of_not_lt fun h => hb (.inr (.inl h))
    cases e : numG 0 (unNeg s) with
    | none => rw [e] at h; cases h
    | some m =>
      rw [e] at h
      have h2 := numG_near _ 0 m 0 (by omega) (by decide) e
      have hp := pow_le (show 0 + (unNeg s).length ≤ 17 by omega)
      have e17 : 10 ^ 17 = 100000000000000000 := rfl
      simp only [Option.map_some, Option.some.injEq] at h
      subst h
      unfold nearN
      split <;> omega

theorem makeM_near {k : Int} {ns : List Int} {o : Op} (hn : ∀ x ∈ ns, nearN x) (h : makeM k ns = some o) : o.near := by
  have z : nearN 0 := ⟨by decide, by decide⟩
  unfold makeM at h
  split at h
  · split at h
    · rename_i a; cases h; have := hn a (by simp); exact ⟨z.1, z.2, this.1, this.2⟩
    · cases h
  · split at h
    · split at h
      · rename_i a; cases h; have := hn a (by simp); exact ⟨this.1, this.2, z.1, z.2⟩
      · cases h
    · split at h
      · rename_i a b; cases h; have h1 := hn a (by simp); have h2 := hn b (by simp); exact ⟨h1.1, h1.2, h2.1, h2.2⟩
      · cases h

theorem kindM_step (t w : Str) (ns : List Int) (f k : Nat) : kindM t w ns (f + 1) k = if wordM k = w then match makeM k ns with | some o => if fmtOpM o = t then some o else kindM t w ns f (k + 1) | none => kindM t w ns f (k + 1) else kindM t w ns f (k + 1) := rfl

theorem numsM_at {s : Str} {r : List Str} : numsM (s :: r) = match numM s with | none => none | some n => match numsM r with | none => none | some l => some (n :: l) := rfl

/-- What is read on, behind what was read. -/
def behind (ns : List Int) (o : Option (List Int)) : Option (List Int) := match o with | none => none | some l => some (ns ++ l)

theorem behind_some {ns : List Int} {s : Str} {r : List Str} {n : Int} (h : numM s = some n) : behind ns (numsM (s :: r)) = behind (ns ++ [n]) (numsM r) := by
  rw [numsM_at, h]
  cases numsM r with
  | none => rfl
  | some l => simp [behind]

theorem behind_none {ns : List Int} {s : Str} {r : List Str} (h : numM s = none) : behind ns (numsM (s :: r)) = none := by
  rw [numsM_at, h]; rfl

theorem drop_take {α : Type} {xs : List α} {i m : Nat} (h : i < xs.length) : (xs.drop i).take (m + 1) = xs[i] :: (xs.drop (i + 1)).take m := by
  rw [List.drop_eq_getElem_cons h, List.take_succ_cons]

set_option maxHeartbeats 8000000 in
set_option maxRecDepth 100000 in
theorem parseOp_c (t : Str) (w : World) (hb : t.length ≤ 1000) :
    Calls Try.prog 74 #[.string (bs t)] w (Ret w fun v L => v = .tuple #[.agg (cOp ((parseOpM t).getD Op0)).toArray, .bool (parseOpM t).isSome] ∧ L = []) := by
  have hcl := cutM_len 32 t
  have hpt : ∀ x ∈ cutM 32 t, x.length ≤ 1000 := fun x hx => Nat.le_trans (cutM_part hx) hb
  have hno : numsM (((cutM 32 t).drop 1).take 3) = none → parseOpM t = none := fun h => by rw [parseOpM, h]
  have hyes : ∀ ns, numsM (((cutM 32 t).drop 1).take 3) = some ns → parseOpM t = if ns.length + 1 = (cutM 32 t).length then kindM t ((cutM 32 t).headD []) ns 10 1 else none := fun ns h => by rw [parseOpM, h]
  generalize parseOpM t = M at hno hyes ⊢
  refine calls1 Try.func74 rfl tabOk w _ rfl _ rfl [] trivial trivial _ (by decide) ?_
  refine stop_call _ cl68 rfl rfl rfl rfl ⟨rfl, rfl⟩ (fun A w hW => (cut_c t 32 w (by omega))) ?_
  rintro v L ⟨y, rfl, rfl⟩
  generalize cutM 32 t = ps at hcl hpt hno hyes ⊢
  refine AllSl.mk fun l0 => ?_
  refine LoopW.mk ⟨{ q : Nat × Sl × List Int // 1 ≤ q.1 ∧ q.1 ≤ 4 ∧ q.1 ≤ ps.length ∧ numsM ((ps.drop 1).take 3) = behind q.2.2 (numsM ((ps.drop q.1).take (4 - q.1))) ∧ q.2.2.length + 1 = q.1 ∧ ∀ x ∈ q.2.2, nearN x },
    fun q => .mk [(0, .v (.string (bs t))), (2, .p 0 0), (4, .v (y.val ps.length)), (5, .v (q.1.2.1.val q.1.2.2.length)), (6, .v (.int .i64 (q.1.1 : Int)))] 1 0 [(0, 75, 3)] [] [own q.1.2.1 3 cInt 1 q.1.2.2, own y 9 cTxt 1 ps],
    fun q => 4 - q.1.1, ⟨(1, l0, []), Nat.le_refl _, by show 1 ≤ 4; omega, hcl.1, by simp only [behind, List.nil_append]; cases numsM ((ps.drop 1).take (4 - 1)) <;> rfl, rfl, by simp⟩, ?_, ?_⟩
  · refine weak_mk [0, 1] ?_ ?_ ?_ ?_ ?_ rfl rfl
    · repeat (first | exact trivial | refine ⟨⟨_, rfl, (by first | exact .of rfl | exact .lit rfl | exact .of (by first | (rfl)) | exact .lit (by first | (rfl))), (by first | exact trivial | exact Nat.le_of_ble_eq_true rfl | exact small1 rfl)⟩, ?_⟩)
    · repeat (first | exact trivial | refine ⟨⟨(by first | exact .head _ | exact .tail _ (.head _) | exact .tail _ (.tail _ (.head _)) | exact .tail _ (.tail _ (.tail _ (.head _))) | exact .tail _ (.tail _ (.tail _ (.tail _ (.head _)))) | exact .tail _ (.tail _ (.tail _ (.tail _ (.tail _ (.head _))))) | exact .tail _ (.tail _ (.tail _ (.tail _ (.tail _ (.tail _ (.head _)))))) | exact .tail _ (.tail _ (.tail _ (.tail _ (.tail _ (.tail _ (.tail _ (.head _))))))) | exact .tail _ (.tail _ (.tail _ (.tail _ (.tail _ (.tail _ (.tail _ (.tail _ (.head _)))))))) | exact .tail _ (.tail _ (.tail _ (.tail _ (.tail _ (.tail _ (.tail _ (.tail _ (.tail _ (.head _)))))))))), Nat.le_of_ble_eq_true rfl⟩, ?_⟩)
    · repeat (first | exact trivial | refine ⟨⟨_, rfl, (by first | exact .of rfl | exact .lit rfl | exact .of (by first | (rfl)) | exact .lit (by first | (rfl))), (by first | exact trivial | exact Nat.le_of_ble_eq_true rfl | exact small1 rfl)⟩, ?_⟩)
    · repeat (first | exact trivial | refine ⟨⟨_, rfl⟩, ?_⟩)
    · repeat (first | exact trivial | refine ⟨.inl ⟨_, rfl, (by first | rfl | (rfl))⟩, ?_⟩ | refine ⟨.inr ⟨Nat.le_of_ble_eq_true rfl, rfl, rfl, rfl, rfl⟩, ?_⟩)
  rintro ⟨⟨i, z, ns⟩, i1, i2, i3, i4, i5, i6⟩
  simp only at i1 i2 i3 i4 i5 i6 ⊢
  refine CaseB.mk (fun g => ?_) (fun g => ?_)
  refine CaseB.mk (fun g2 => ?_) (fun g2 => ?_)
  · have hlt : i < ps.length := by have := of_decide_eq_true g; omega
    have h4 : i < 4 := by have := of_decide_eq_true g2; omega
    have hw := e_succ i _ hlt (by omega)
    obtain ⟨m, hm⟩ : ∃ m, 4 - i = m + 1 := ⟨3 - i, by omega⟩
    have hd : (ps.drop i).take (4 - i) = ps[i] :: (ps.drop (i + 1)).take (4 - (i + 1)) := by rw [hm, drop_take hlt, show 4 - (i + 1) = m by omega]
    rw [hd] at i4
    refine stop_idx encTxt tabOk rfl rfl rfl rfl rfl ⟨rfl, rfl⟩ (rdOwnAt 1 rfl) i rfl (by first | omega | (simp; done) | (simp; omega) | (unfold maxLen; omega) | (unfold maxLen; simp; done) | (unfold maxLen; simp; omega)) (fun ad => ?_)
    obtain ⟨pt, hpe⟩ : ∃ pt, pt = ps[i] := ⟨_, rfl⟩
    have hpl : pt.length ≤ 1000 := by rw [hpe]; exact hpt _ (List.getElem_mem hlt)
    rw [← hpe] at i4 ⊢
    refine stop_call _ cl73 rfl rfl rfl rfl ⟨rfl, rfl⟩ (fun A w hW => (snum_c pt w (by omega))) ?_
    rintro v L ⟨rfl, rfl⟩
    cases hn : numM pt with
    | none =>
      refine CaseB.mk (fun g3 => ?_) (fun g3 => by simp at g3)
      obtain rfl := hno (i4.trans (behind_none hn))
      exact retw [] ⟨rfl, rfl⟩ trivial rfl trivial (fun _ => rfl)
    | some n =>
      refine CaseB.mk (fun g3 => by simp at g3) (fun g3 => ?_)
      refine AllSl.mk fun b3 => ?_
      refine stop_app encInt 1 tabOk (xs := ns) (ys := [n]) rfl rfl rfl rfl rfl rfl rfl rfl rfl (by decide) ⟨rfl, rfl⟩ rfl (by first | exact rdAt 0 rfl | exact rdOwnAt 0 rfl | exact rdAt 1 rfl | exact rdOwnAt 1 rfl | exact rdAt 2 rfl | exact rdOwnAt 2 rfl | exact rdAt 3 rfl | exact rdOwnAt 3 rfl | exact rdAt 4 rfl | exact rdOwnAt 4 rfl | exact rdAt 5 rfl | exact rdOwnAt 5 rfl | exact rdAt 6 rfl | exact rdOwnAt 6 rfl | exact rdAt 7 rfl | exact rdOwnAt 7 rfl | exact rdAt 8 rfl | exact rdOwnAt 8 rfl | exact rdAt 9 rfl | exact rdOwnAt 9 rfl | exact rdAt 10 rfl | exact rdOwnAt 10 rfl | exact rdAt 11 rfl | exact rdOwnAt 11 rfl | exact rdAt 12 rfl | exact rdOwnAt 12 rfl | exact rdAt 13 rfl | exact rdOwnAt 13 rfl | exact rdAt 14 rfl | exact rdOwnAt 14 rfl | exact rdAt 15 rfl | exact rdOwnAt 15 rfl | exact rdAt 16 rfl | exact rdOwnAt 16 rfl | exact rdAt 17 rfl | exact rdOwnAt 17 rfl | exact rdAt 18 rfl | exact rdOwnAt 18 rfl | exact rdAt 19 rfl | exact rdOwnAt 19 rfl | exact rdAt 20 rfl | exact rdOwnAt 20 rfl | exact rdAt 21 rfl | exact rdOwnAt 21 rfl | exact rdAt 22 rfl | exact rdOwnAt 22 rfl | exact rdAt 23 rfl | exact rdOwnAt 23 rfl) (by first | omega | (simp; done) | (simp; omega) | (unfold maxLen; omega) | (unfold maxLen; simp; done) | (unfold maxLen; simp; omega)) (by first | omega | (simp; done) | (simp; omega) | (unfold maxLen; omega) | (unfold maxLen; simp; done) | (unfold maxLen; simp; omega)) (fun z3 => ?_)
      refine ⟨⟨(i + 1, z3, ns ++ [n]), show 1 ≤ i + 1 by omega, h4, hlt, i4.trans (behind_some hn), by simp; omega, fun x hx => ?_⟩, ?_, by simp only; omega⟩
      · rcases List.mem_append.1 hx with hx | hx
        · exact i6 x hx
        · simp only [List.mem_singleton] at hx; subst hx; exact numM_near hn
      · refine weak_mk [0, 2] ?_ ?_ ?_ ?_ ?_ rfl rfl
        · repeat (first | exact trivial | refine ⟨⟨_, rfl, (by first | exact .of rfl | exact .lit rfl | exact .of (by first | ((exact congrArg (fun z => SV.v (Value.int .i64 z)) hw))) | exact .lit (by first | ((exact congrArg (fun z => SV.v (Value.int .i64 z)) hw)))), (by first | exact trivial | exact Nat.le_of_ble_eq_true rfl | exact small1 rfl)⟩, ?_⟩)
        · repeat (first | exact trivial | refine ⟨⟨(by first | exact .head _ | exact .tail _ (.head _) | exact .tail _ (.tail _ (.head _)) | exact .tail _ (.tail _ (.tail _ (.head _))) | exact .tail _ (.tail _ (.tail _ (.tail _ (.head _)))) | exact .tail _ (.tail _ (.tail _ (.tail _ (.tail _ (.head _))))) | exact .tail _ (.tail _ (.tail _ (.tail _ (.tail _ (.tail _ (.head _)))))) | exact .tail _ (.tail _ (.tail _ (.tail _ (.tail _ (.tail _ (.tail _ (.head _))))))) | exact .tail _ (.tail _ (.tail _ (.tail _ (.tail _ (.tail _ (.tail _ (.tail _ (.head _)))))))) | exact .tail _ (.tail _ (.tail _ (.tail _ (.tail _ (.tail _ (.tail _ (.tail _ (.tail _ (.head _)))))))))), Nat.le_of_ble_eq_true rfl⟩, ?_⟩)
        · repeat (first | exact trivial | refine ⟨⟨_, rfl, (by first | exact .of rfl | exact .lit rfl | exact .of (by first | ((exact congrArg (fun z => SV.v (Value.int .i64 z)) hw))) | exact .lit (by first | ((exact congrArg (fun z => SV.v (Value.int .i64 z)) hw)))), (by first | exact trivial | exact Nat.le_of_ble_eq_true rfl | exact small1 rfl)⟩, ?_⟩)
        · repeat (first | exact trivial | refine ⟨⟨_, rfl⟩, ?_⟩)
        · repeat (first | exact trivial | refine ⟨.inl ⟨_, rfl, (by first | rfl | ((exact congrArg (fun z => SV.v (Value.int .i64 z)) hw)))⟩, ?_⟩ | refine ⟨.inr ⟨Nat.le_of_ble_eq_true rfl, rfl, rfl, rfl, rfl⟩, ?_⟩)
  have hfin : numsM ((ps.drop 1).take 3) = some ns := by
    rw [i4, show 4 - i = 0 by have := of_decide_eq_false g2; omega, List.take_zero]
    simp [numsM, behind]
  rotate_left
  have hfin : numsM ((ps.drop 1).take 3) = some ns := by
    rw [i4, List.drop_eq_nil_of_le (by have := of_decide_eq_false g; omega), List.take_nil]
    simp [numsM, behind]
  rotate_left
  all_goals
    have hM := hyes ns hfin
    clear hno hyes hfin i4
    refine LoopW.mk ⟨{ q : Nat // 1 ≤ q ∧ q ≤ 11 ∧ (ns.length + 1 = ps.length → M = kindM t (ps.headD []) ns (11 - q) q) },
      fun q => .mk [(0, .v (.string (bs t))), (2, .p 0 0), (4, .v (y.val ps.length)), (5, .v (z.val ns.length)), (9, .v (.int .i64 (q.1 : Int)))] 1 0 [(0, 75, 3)] [] [own z 3 cInt 1 ns, own y 9 cTxt 1 ps],
      fun q => 11 - q.1, ⟨1, Nat.le_refl _, by decide, fun h => by rw [hM, if_pos h]⟩, ?_, ?_⟩
    · refine weak_mk [0, 1] ?_ ?_ ?_ ?_ ?_ rfl rfl
      · repeat (first | exact trivial | refine ⟨⟨_, rfl, (by first | exact .of rfl | exact .lit rfl | exact .of (by first | (rfl)) | exact .lit (by first | (rfl))), (by first | exact trivial | exact Nat.le_of_ble_eq_true rfl | exact small1 rfl)⟩, ?_⟩)
      · repeat (first | exact trivial | refine ⟨⟨(by first | exact .head _ | exact .tail _ (.head _) | exact .tail _ (.tail _ (.head _)) | exact .tail _ (.tail _ (.tail _ (.head _))) | exact .tail _ (.tail _ (.tail _ (.tail _ (.head _)))) | exact .tail _ (.tail _ (.tail _ (.tail _ (.tail _ (.head _))))) | exact .tail _ (.tail _ (.tail _ (.tail _ (.tail _ (.tail _ (.head _)))))) | exact .tail _ (.tail _ (.tail _ (.tail _ (.tail _ (.tail _ (.tail _ (.head _))))))) | exact .tail _ (.tail _ (.tail _ (.tail _ (.tail _ (.tail _ (.tail _ (.tail _ (.head _)))))))) | exact .tail _ (.tail _ (.tail _ (.tail _ (.tail _ (.tail _ (.tail _ (.tail _ (.tail _ (.head _)))))))))), Nat.le_of_ble_eq_true rfl⟩, ?_⟩)
      · repeat (first | exact trivial | refine ⟨⟨_, rfl, (by first | exact .of rfl | exact .lit rfl | exact .of (by first | (rfl)) | exact .lit (by first | (rfl))), (by first | exact trivial | exact Nat.le_of_ble_eq_true rfl | exact small1 rfl)⟩, ?_⟩)
      · repeat (first | exact trivial | refine ⟨⟨_, rfl⟩, ?_⟩)
      · repeat (first | exact trivial | refine ⟨.inl ⟨_, rfl, (by first | rfl | (rfl))⟩, ?_⟩ | refine ⟨.inr ⟨Nat.le_of_ble_eq_true rfl, rfl, rfl, rfl, rfl⟩, ?_⟩)
    rintro ⟨k, k1, k2, k3⟩
    simp only at k1 k2 k3 ⊢
    have hw1 : IntKind.i64.wrap ((ps.length : Int) - 1) = (ps.length : Int) - 1 := wrap_nn (by omega) (by omega)
    refine CaseB.mk (fun h => ?_) (fun h => ?_)
    · have hk : k ≤ 10 := by have := of_decide_eq_true h; omega
      have hw := e_succ k 11 (by omega) (by omega)
      refine CaseB.mk (fun h2 => ?_) (fun h2 => ?_)
      · have he : ns.length + 1 = ps.length := by rw [hw1] at h2; have h2' : (ns.length : Int) = (ps.length : Int) - 1 := (by simpa using h2); omega
        have hp0 : 0 < ps.length := by omega
        have hhd : ps.headD [] = ps[0] := by
          cases ps with
          | nil => simp at hp0
          | cons a r => rfl
        have hst := k3 he
        rw [show 11 - k = (11 - (k + 1)) + 1 by omega, kindM_step, hhd] at hst
        rw [hhd] at k3
        obtain ⟨wd, hwd⟩ : ∃ wd, wd = ps[0] := ⟨_, rfl⟩
        rw [← hwd] at hst k3
        refine draw_start tabOk (by kernel_rfl) (by kernel_rfl) (by kernel_rfl) 200 [] [1] [_] trivial trivial ⟨rfl, trivial⟩ rfl ?_
        refine d_idx (ti := tiOf tab) encTxt tabOk rfl rfl rfl rfl rfl ⟨rfl, rfl⟩ (by first | exact rdAt 0 rfl | exact rdOwnAt 0 rfl | exact rdAt 1 rfl | exact rdOwnAt 1 rfl | exact rdAt 2 rfl | exact rdOwnAt 2 rfl | exact rdAt 3 rfl | exact rdOwnAt 3 rfl | exact rdAt 4 rfl | exact rdOwnAt 4 rfl | exact rdAt 5 rfl | exact rdOwnAt 5 rfl | exact rdAt 6 rfl | exact rdOwnAt 6 rfl | exact rdAt 7 rfl | exact rdOwnAt 7 rfl | exact rdAt 8 rfl | exact rdOwnAt 8 rfl | exact rdAt 9 rfl | exact rdOwnAt 9 rfl | exact rdAt 10 rfl | exact rdOwnAt 10 rfl | exact rdAt 11 rfl | exact rdOwnAt 11 rfl | exact rdAt 12 rfl | exact rdOwnAt 12 rfl | exact rdAt 13 rfl | exact rdOwnAt 13 rfl | exact rdAt 14 rfl | exact rdOwnAt 14 rfl | exact rdAt 15 rfl | exact rdOwnAt 15 rfl | exact rdAt 16 rfl | exact rdOwnAt 16 rfl | exact rdAt 17 rfl | exact rdOwnAt 17 rfl | exact rdAt 18 rfl | exact rdOwnAt 18 rfl | exact rdAt 19 rfl | exact rdOwnAt 19 rfl | exact rdAt 20 rfl | exact rdOwnAt 20 rfl | exact rdAt 21 rfl | exact rdOwnAt 21 rfl | exact rdAt 22 rfl | exact rdOwnAt 22 rfl | exact rdAt 23 rfl | exact rdOwnAt 23 rfl) 0 rfl (by first | omega | (simp; done) | (simp; omega) | (unfold maxLen; omega) | (unfold maxLen; simp; done) | (unfold maxLen; simp; omega)) (fun ad => ?_)
        rw [← hwd]
        refine d_call _ cl63 rfl rfl rfl rfl ⟨rfl, rfl⟩ (fun A w hW => (word_c (k : Int) w)) ?_
        rintro v L ⟨rfl, rfl⟩
        refine d_bin rfl rfl rfl ⟨rfl, rfl⟩ (.bool ((wordM (k : Int)) != wd)) (fun w => eqGuard_str w) (fun w => sne_run w) ?_
        have hgo : ∀ hst2 : M = kindM t wd ns (11 - (k + 1)) (k + 1), 1 ≤ k + 1 ∧ k + 1 ≤ 11 ∧ (ns.length + 1 = ps.length → M = kindM t (ps.headD []) ns (11 - (k + 1)) (k + 1)) := fun e => ⟨by omega, by omega, fun _ => by rw [hhd, ← hwd]; exact e⟩
        refine CaseB.mk (fun h3 => ?_) (fun h3 => ?_)
        · have e : ¬ wordM (k : Int) = wd := by simpa using h3
          rw [if_neg e] at hst
          refine ⟨⟨k + 1, hgo hst⟩, ?_, by simp only; omega⟩
          refine weak_mk [0, 1] ?_ ?_ ?_ ?_ ?_ rfl rfl
          · repeat (first | exact trivial | refine ⟨⟨_, rfl, (by first | exact .of rfl | exact .lit rfl | exact .of (by first | ((exact congrArg (fun z => SV.v (Value.int .i64 z)) hw))) | exact .lit (by first | ((exact congrArg (fun z => SV.v (Value.int .i64 z)) hw)))), (by first | exact trivial | exact Nat.le_of_ble_eq_true rfl | exact small1 rfl)⟩, ?_⟩)
          · repeat (first | exact trivial | refine ⟨⟨(by first | exact .head _ | exact .tail _ (.head _) | exact .tail _ (.tail _ (.head _)) | exact .tail _ (.tail _ (.tail _ (.head _))) | exact .tail _ (.tail _ (.tail _ (.tail _ (.head _)))) | exact .tail _ (.tail _ (.tail _ (.tail _ (.tail _ (.head _))))) | exact .tail _ (.tail _ (.tail _ (.tail _ (.tail _ (.tail _ (.head _)))))) | exact .tail _ (.tail _ (.tail _ (.tail _ (.tail _ (.tail _ (.tail _ (.head _))))))) | exact .tail _ (.tail _ (.tail _ (.tail _ (.tail _ (.tail _ (.tail _ (.tail _ (.head _)))))))) | exact .tail _ (.tail _ (.tail _ (.tail _ (.tail _ (.tail _ (.tail _ (.tail _ (.tail _ (.head _)))))))))), Nat.le_of_ble_eq_true rfl⟩, ?_⟩)
          · repeat (first | exact trivial | refine ⟨⟨_, rfl, (by first | exact .of rfl | exact .lit rfl | exact .of (by first | ((exact congrArg (fun z => SV.v (Value.int .i64 z)) hw))) | exact .lit (by first | ((exact congrArg (fun z => SV.v (Value.int .i64 z)) hw)))), (by first | exact trivial | exact Nat.le_of_ble_eq_true rfl | exact small1 rfl)⟩, ?_⟩)
          · repeat (first | exact trivial | refine ⟨⟨_, rfl⟩, ?_⟩)
          · repeat (first | exact trivial | refine ⟨.inl ⟨_, rfl, (by first | rfl | ((exact congrArg (fun z => SV.v (Value.int .i64 z)) hw)))⟩, ?_⟩ | refine ⟨.inr ⟨Nat.le_of_ble_eq_true rfl, rfl, rfl, rfl, rfl⟩, ?_⟩)
        have e : wordM (k : Int) = wd := by simpa using h3
        rw [if_pos e] at hst
        refine stop_call _ cl77 rfl rfl rfl rfl ⟨rfl, rfl⟩ (fun A w hW => (make_c (k : Int) z ns w ⟨hW.rdOwn 0 rfl, trivial⟩)) ?_
        rintro v L ⟨rfl, rfl⟩
        cases hm : makeM (k : Int) ns with
        | none =>
          rw [hm] at hst
          refine CaseB.mk (fun h4 => by simp at h4) (fun h4 => ?_)
          refine ⟨⟨k + 1, hgo hst⟩, ?_, by simp only; omega⟩
          refine weak_mk [0, 1] ?_ ?_ ?_ ?_ ?_ rfl rfl
          · repeat (first | exact trivial | refine ⟨⟨_, rfl, (by first | exact .of rfl | exact .lit rfl | exact .of (by first | ((exact congrArg (fun z => SV.v (Value.int .i64 z)) hw))) | exact .lit (by first | ((exact congrArg (fun z => SV.v (Value.int .i64 z)) hw)))), (by first | exact trivial | exact Nat.le_of_ble_eq_true rfl | exact small1 rfl)⟩, ?_⟩)
          · repeat (first | exact trivial | refine ⟨⟨(by first | exact .head _ | exact .tail _ (.head _) | exact .tail _ (.tail _ (.head _)) | exact .tail _ (.tail _ (.tail _ (.head _))) | exact .tail _ (.tail _ (.tail _ (.tail _ (.head _)))) | exact .tail _ (.tail _ (.tail _ (.tail _ (.tail _ (.head _))))) | exact .tail _ (.tail _ (.tail _ (.tail _ (.tail _ (.tail _ (.head _)))))) | exact .tail _ (.tail _ (.tail _ (.tail _ (.tail _ (.tail _ (.tail _ (.head _))))))) | exact .tail _ (.tail _ (.tail _ (.tail _ (.tail _ (.tail _ (.tail _ (.tail _ (.head _)))))))) | exact .tail _ (.tail _ (.tail _ (.tail _ (.tail _ (.tail _ (.tail _ (.tail _ (.tail _ (.head _)))))))))), Nat.le_of_ble_eq_true rfl⟩, ?_⟩)
          · repeat (first | exact trivial | refine ⟨⟨_, rfl, (by first | exact .of rfl | exact .lit rfl | exact .of (by first | ((exact congrArg (fun z => SV.v (Value.int .i64 z)) hw))) | exact .lit (by first | ((exact congrArg (fun z => SV.v (Value.int .i64 z)) hw)))), (by first | exact trivial | exact Nat.le_of_ble_eq_true rfl | exact small1 rfl)⟩, ?_⟩)
          · repeat (first | exact trivial | refine ⟨⟨_, rfl⟩, ?_⟩)
          · repeat (first | exact trivial | refine ⟨.inl ⟨_, rfl, (by first | rfl | ((exact congrArg (fun z => SV.v (Value.int .i64 z)) hw)))⟩, ?_⟩ | refine ⟨.inr ⟨Nat.le_of_ble_eq_true rfl, rfl, rfl, rfl, rfl⟩, ?_⟩)
        | some o =>
          rw [hm] at hst
          simp only at hst
          refine CaseB.mk (fun h4 => ?_) (fun h4 => by simp at h4)
          refine stop_call _ cl76 rfl rfl rfl rfl ⟨rfl, rfl⟩ (fun A w hW => (fmtOp_c o w (makeM_near i6 hm))) ?_
          rintro v L ⟨rfl, rfl⟩
          refine stop_bin rfl rfl rfl ⟨rfl, rfl⟩ (.bool ((fmtOpM o) == t)) (fun w => eqGuard_str w) (fun w => seq_run w) ?_
          refine CaseB.mk (fun h5 => ?_) (fun h5 => ?_)
          · have e5 : fmtOpM o = t := by simpa using h5
            rw [if_pos e5] at hst
            rw [hst]
            exact retw [] ⟨rfl, rfl⟩ trivial rfl trivial (fun _ => rfl)
          have e5 : ¬ fmtOpM o = t := by simpa using h5
          rw [if_neg e5] at hst
          refine ⟨⟨k + 1, hgo hst⟩, ?_, by simp only; omega⟩
          refine weak_mk [0, 1] ?_ ?_ ?_ ?_ ?_ rfl rfl
          · repeat (first | exact trivial | refine ⟨⟨_, rfl, (by first | exact .of rfl | exact .lit rfl | exact .of (by first | ((exact congrArg (fun z => SV.v (Value.int .i64 z)) hw))) | exact .lit (by first | ((exact congrArg (fun z => SV.v (Value.int .i64 z)) hw)))), (by first | exact trivial | exact Nat.le_of_ble_eq_true rfl | exact small1 rfl)⟩, ?_⟩)
          · repeat (first | exact trivial | refine ⟨⟨(by first | exact .head _ | exact .tail _ (.head _) | exact .tail _ (.tail _ (.head _)) | exact .tail _ (.tail _ (.tail _ (.head _))) | exact .tail _ (.tail _ (.tail _ (.tail _ (.head _)))) | exact .tail _ (.tail _ (.tail _ (.tail _ (.tail _ (.head _))))) | exact .tail _ (.tail _ (.tail _ (.tail _ (.tail _ (.tail _ (.head _)))))) | exact .tail _ (.tail _ (.tail _ (.tail _ (.tail _ (.tail _ (.tail _ (.head _))))))) | exact .tail _ (.tail _ (.tail _ (.tail _ (.tail _ (.tail _ (.tail _ (.tail _ (.head _)))))))) | exact .tail _ (.tail _ (.tail _ (.tail _ (.tail _ (.tail _ (.tail _ (.tail _ (.tail _ (.head _)))))))))), Nat.le_of_ble_eq_true rfl⟩, ?_⟩)
          · repeat (first | exact trivial | refine ⟨⟨_, rfl, (by first | exact .of rfl | exact .lit rfl | exact .of (by first | ((exact congrArg (fun z => SV.v (Value.int .i64 z)) hw))) | exact .lit (by first | ((exact congrArg (fun z => SV.v (Value.int .i64 z)) hw)))), (by first | exact trivial | exact Nat.le_of_ble_eq_true rfl | exact small1 rfl)⟩, ?_⟩)
          · repeat (first | exact trivial | refine ⟨⟨_, rfl⟩, ?_⟩)
          · repeat (first | exact trivial | refine ⟨.inl ⟨_, rfl, (by first | rfl | ((exact congrArg (fun z => SV.v (Value.int .i64 z)) hw)))⟩, ?_⟩ | refine ⟨.inr ⟨Nat.le_of_ble_eq_true rfl, rfl, rfl, rfl, rfl⟩, ?_⟩)
      have hn : ¬ ns.length + 1 = ps.length := fun e => by rw [hw1] at h2; have h2' : ¬ (ns.length : Int) = (ps.length : Int) - 1 := (by simpa using h2); omega
      rw [if_neg hn] at hM
      rw [hM]
      exact retw [] ⟨rfl, rfl⟩ trivial rfl trivial (fun _ => rfl)
    have hk : k = 11 := by have := of_decide_eq_false h; omega
    subst hk
    have hMn : M = none := by
      by_cases he : ns.length + 1 = ps.length
      · exact k3 he
      · rw [hM, if_neg he]
    rw [hMn]
    exact retw [] ⟨rfl, rfl⟩ trivial rfl trivial (fun _ => rfl)

end Go.Proofs.Ytjkkoonennpceaa

namespace Go.Proofs.Ytjkkoonennpceaa

open Go Go.Sx Go.RowKit

theorem fmtNums_at {out : Str} {l : List Int} {k : Nat} (h : k < l.length) : fmtNums out (l.drop k) = fmtNums ((out ++ [32]) ++ decM l[k]) (l.drop (k + 1)) := by
  rw [List.drop_eq_getElem_cons h, fmtNums]

theorem fmtNums_len : ∀ (l : List Int) (out : Str), (fmtNums out l).length ≤ out.length + 21 * l.length
  | [], out => by simp [fmtNums]
  | x :: r, out => by
    have h := fmtNums_len r ((out ++ [32]) ++ decM x)
    have h2 := decM_len x
    simp only [fmtNums, List.length_append, List.length_cons, List.length_nil] at h ⊢
    omega

theorem listM_len (wd : Str) (l : List Int) : (listM wd l).length ≤ wd.length + 21 * l.length + 1 := by
  have h := fmtNums_len l wd
  unfold listM
  split
  · simp
  · simp only [List.length_append, List.length_cons, List.length_nil]; omega

set_option maxHeartbeats 4000000 in
set_option maxRecDepth 100000 in
theorem list_c (wd : Str) (i : Sl) (l : List Int) (w : World) (h : At w [slo i cInt 1 l]) (hw : wd.length ≤ 1000) (hl : l.length ≤ 1000) (hn : ∀ x ∈ l, nearN x) :
    Calls Try.prog 75 #[.string (bs wd), i.val l.length] w (Ret w fun v L => v = .string (bs (listM wd l)) ∧ L = []) := by
  refine calls2 Try.func75 rfl tabOk w _ rfl _ rfl _ h ⟨rfl, rfl, trivial⟩ _ _ (by decide) ?_
  refine CaseB.mk (fun g => ?_) (fun g => ?_)
  · have e : l = [] := List.eq_nil_of_length_eq_zero (by have g' : (l.length : Int) = 0 := (by simpa using g); omega)
    rw [show listM wd l = [] from if_pos e]
    exact retw [] ⟨rfl, rfl⟩ trivial rfl trivial (fun _ => rfl)
  have e : ¬ l = [] := fun e => by rw [e] at g; simp at g
  rw [show listM wd l = fmtNums wd l ++ [10] from if_neg e]
  refine LoopW.mk ⟨{ q : Nat × Str // q.1 ≤ l.length ∧ fmtNums wd l = fmtNums q.2 (l.drop q.1) ∧ q.2.length ≤ 1000 + 21 * q.1 },
    fun q => .mk [(1, .v (i.val l.length)), (5, .v (.string (bs q.1.2))), (6, .v (.int .i64 (q.1.1 : Int)))] 0 0 [] [] [slo i cInt 1 l],
    fun q => l.length - q.1.1, ⟨(0, wd), Nat.zero_le _, rfl, by simpa using hw⟩, ?_, ?_⟩
  · refine weak_mk [0] ?_ ?_ ?_ ?_ ?_ rfl rfl
    · repeat (first | exact trivial | refine ⟨⟨_, rfl, (by first | exact .of rfl | exact .lit rfl | exact .of (by first | (rfl)) | exact .lit (by first | (rfl))), (by first | exact trivial | exact Nat.le_of_ble_eq_true rfl | exact small1 rfl)⟩, ?_⟩)
    · repeat (first | exact trivial | refine ⟨⟨(by first | exact .head _ | exact .tail _ (.head _) | exact .tail _ (.tail _ (.head _)) | exact .tail _ (.tail _ (.tail _ (.head _))) | exact .tail _ (.tail _ (.tail _ (.tail _ (.head _)))) | exact .tail _ (.tail _ (.tail _ (.tail _ (.tail _ (.head _))))) | exact .tail _ (.tail _ (.tail _ (.tail _ (.tail _ (.tail _ (.head _)))))) | exact .tail _ (.tail _ (.tail _ (.tail _ (.tail _ (.tail _ (.tail _ (.head _))))))) | exact .tail _ (.tail _ (.tail _ (.tail _ (.tail _ (.tail _ (.tail _ (.tail _ (.head _)))))))) | exact .tail _ (.tail _ (.tail _ (.tail _ (.tail _ (.tail _ (.tail _ (.tail _ (.tail _ (.head _)))))))))), Nat.le_of_ble_eq_true rfl⟩, ?_⟩)
    · repeat (first | exact trivial | refine ⟨⟨_, rfl, (by first | exact .of rfl | exact .lit rfl | exact .of (by first | (rfl)) | exact .lit (by first | (rfl))), (by first | exact trivial | exact Nat.le_of_ble_eq_true rfl | exact small1 rfl)⟩, ?_⟩)
    · repeat (first | exact trivial | refine ⟨⟨_, rfl⟩, ?_⟩)
    · repeat (first | exact trivial | refine ⟨.inl ⟨_, rfl, (by first | rfl | (rfl))⟩, ?_⟩ | refine ⟨.inr ⟨Nat.le_of_ble_eq_true rfl, rfl, rfl, rfl, rfl⟩, ?_⟩)
  rintro ⟨⟨k, out⟩, i1, i2, i3⟩
  simp only at i1 i2 i3 ⊢
  refine CaseB.mk (fun g => ?_) (fun g => ?_)
  · have hlt : k < l.length := by have := of_decide_eq_true g; omega
    have hw2 := e_succ k _ hlt (by omega)
    have hd := decM_len l[k]
    have hnk := hn _ (List.getElem_mem hlt)
    refine stop_bin rfl rfl rfl ⟨rfl, rfl⟩ (.string (bs (out ++ [32]))) (fun w => eqGuard_str w) (fun w => sadd_run (by simp only [List.length_cons, List.length_nil]; omega) w) ?_
    refine stop_idx encInt tabOk rfl rfl rfl rfl rfl ⟨rfl, rfl⟩ (by first | exact rdAt 0 rfl | exact rdOwnAt 0 rfl | exact rdAt 1 rfl | exact rdOwnAt 1 rfl | exact rdAt 2 rfl | exact rdOwnAt 2 rfl | exact rdAt 3 rfl | exact rdOwnAt 3 rfl | exact rdAt 4 rfl | exact rdOwnAt 4 rfl | exact rdAt 5 rfl | exact rdOwnAt 5 rfl | exact rdAt 6 rfl | exact rdOwnAt 6 rfl | exact rdAt 7 rfl | exact rdOwnAt 7 rfl | exact rdAt 8 rfl | exact rdOwnAt 8 rfl | exact rdAt 9 rfl | exact rdOwnAt 9 rfl | exact rdAt 10 rfl | exact rdOwnAt 10 rfl | exact rdAt 11 rfl | exact rdOwnAt 11 rfl | exact rdAt 12 rfl | exact rdOwnAt 12 rfl | exact rdAt 13 rfl | exact rdOwnAt 13 rfl | exact rdAt 14 rfl | exact rdOwnAt 14 rfl | exact rdAt 15 rfl | exact rdOwnAt 15 rfl | exact rdAt 16 rfl | exact rdOwnAt 16 rfl | exact rdAt 17 rfl | exact rdOwnAt 17 rfl | exact rdAt 18 rfl | exact rdOwnAt 18 rfl | exact rdAt 19 rfl | exact rdOwnAt 19 rfl | exact rdAt 20 rfl | exact rdOwnAt 20 rfl | exact rdAt 21 rfl | exact rdOwnAt 21 rfl | exact rdAt 22 rfl | exact rdOwnAt 22 rfl | exact rdAt 23 rfl | exact rdOwnAt 23 rfl) k rfl (by first | omega | (simp; done) | (simp; omega) | (unfold maxLen; omega) | (unfold maxLen; simp; done) | (unfold maxLen; simp; omega)) (fun ad => ?_)
    refine stop_call _ cl78 rfl rfl rfl rfl ⟨rfl, rfl⟩ (fun A w hW => (dec_c _ w hnk.1 hnk.2)) ?_
    rintro v L ⟨rfl, rfl⟩
    refine stop_bin rfl rfl rfl ⟨rfl, rfl⟩ (.string (bs ((out ++ [32]) ++ (decM l[k])))) (fun w => eqGuard_str w) (fun w => sadd_run (by simp only [List.length_append, List.length_cons, List.length_nil]; omega) w) ?_
    refine ⟨⟨(k + 1, (out ++ [32]) ++ decM l[k]), hlt, i2.trans (fmtNums_at hlt), by simp only [List.length_append, List.length_cons, List.length_nil]; omega⟩, ?_, by simp only; omega⟩
    refine weak_mk [0] ?_ ?_ ?_ ?_ ?_ rfl rfl
    · repeat (first | exact trivial | refine ⟨⟨_, rfl, (by first | exact .of rfl | exact .lit rfl | exact .of (by first | ((exact congrArg (fun z => SV.v (Value.int .i64 z)) hw2))) | exact .lit (by first | ((exact congrArg (fun z => SV.v (Value.int .i64 z)) hw2)))), (by first | exact trivial | exact Nat.le_of_ble_eq_true rfl | exact small1 rfl)⟩, ?_⟩)
    · repeat (first | exact trivial | refine ⟨⟨(by first | exact .head _ | exact .tail _ (.head _) | exact .tail _ (.tail _ (.head _)) | exact .tail _ (.tail _ (.tail _ (.head _))) | exact .tail _ (.tail _ (.tail _ (.tail _ (.head _)))) | exact .tail _ (.tail _ (.tail _ (.tail _ (.tail _ (.head _))))) | exact .tail _ (.tail _ (.tail _ (.tail _ (.tail _ (.tail _ (.head _)))))) | exact .tail _ (.tail _ (.tail _ (.tail _ (.tail _ (.tail _ (.tail _ (.head _))))))) | exact .tail _ (.tail _ (.tail _ (.tail _ (.tail _ (.tail _ (.tail _ (.tail _ (.head _)))))))) | exact .tail _ (.tail _ (.tail _ (.tail _ (.tail _ (.tail _ (.tail _ (.tail _ (.tail _ (.head _)))))))))), Nat.le_of_ble_eq_true rfl⟩, ?_⟩)
    · repeat (first | exact trivial | refine ⟨⟨_, rfl, (by first | exact .of rfl | exact .lit rfl | exact .of (by first | ((exact congrArg (fun z => SV.v (Value.int .i64 z)) hw2))) | exact .lit (by first | ((exact congrArg (fun z => SV.v (Value.int .i64 z)) hw2)))), (by first | exact trivial | exact Nat.le_of_ble_eq_true rfl | exact small1 rfl)⟩, ?_⟩)
    · repeat (first | exact trivial | refine ⟨⟨_, rfl⟩, ?_⟩)
    · repeat (first | exact trivial | refine ⟨.inl ⟨_, rfl, (by first | rfl | ((exact congrArg (fun z => SV.v (Value.int .i64 z)) hw2)))⟩, ?_⟩ | refine ⟨.inr ⟨Nat.le_of_ble_eq_true rfl, rfl, rfl, rfl, rfl⟩, ?_⟩)
  have hge : l.length ≤ k := by have := of_decide_eq_false g; omega
  rw [List.drop_eq_nil_of_le hge, fmtNums] at i2
  refine stop_bin rfl rfl rfl ⟨rfl, rfl⟩ (.string (bs (out ++ [10]))) (fun w => eqGuard_str w) (fun w => sadd_run (by simp only [List.length_cons, List.length_nil]; omega) w) ?_
  rw [i2]
  exact retw [] ⟨rfl, rfl⟩ trivial rfl trivial (fun _ => rfl)

set_option maxHeartbeats 8000000 in
set_option maxRecDepth 100000 in
theorem line_c (line wd : Str) (w : World) (hb : line.length ≤ 1000) :
    Calls Try.prog 69 #[.string (bs line), .string (bs wd)] w (Ret w fun v L => ∃ (z : Sl) (ns : List Int) (b : Bool), v = .tuple #[z.val ns.length, .bool b] ∧ (b = false → lineM line wd = none) ∧ (b = true → lineM line wd = some ns) ∧ L = [own z 3 cInt 1 ns]) := by
  have hcl := cutM_len 32 line
  have hpt : ∀ x ∈ cutM 32 line, x.length ≤ 1000 := fun x hx => Nat.le_trans (cutM_part hx) hb
  have h0 : ¬ ((cutM 32 line).headD [] = wd ∧ 2 ≤ (cutM 32 line).length) → lineM line wd = none := fun h => if_neg h
  have h1 : ((cutM 32 line).headD [] = wd ∧ 2 ≤ (cutM 32 line).length) → lineM line wd = match numsM (((cutM 32 line).drop 1).take 5) with | none => none | some ns => if ns.length + 1 = (cutM 32 line).length then some ns else none := fun h => if_pos h
  generalize lineM line wd = M at h0 h1 ⊢
  refine calls2 Try.func69 rfl tabOk w _ rfl _ rfl [] trivial trivial _ _ (by decide) ?_
  refine stop_call _ cl68 rfl rfl rfl rfl ⟨rfl, rfl⟩ (fun A w hW => (cut_c line 32 w (by omega))) ?_
  rintro v L ⟨y, rfl, rfl⟩
  generalize cutM 32 line = ps at hcl hpt h0 h1 ⊢
  refine AllSl.mk fun l0 => ?_
  have hp0 : 0 < ps.length := by omega
  have hhd : ps.headD [] = ps[0] := by
    cases ps with
    | nil => simp at hp0
    | cons a r => rfl
  rw [hhd] at h0 h1
  refine stop_idx encTxt tabOk rfl rfl rfl rfl rfl ⟨rfl, rfl⟩ (rdOwnAt 1 rfl) 0 rfl (by first | omega | (simp; done) | (simp; omega) | (unfold maxLen; omega) | (unfold maxLen; simp; done) | (unfold maxLen; simp; omega)) (fun ad => ?_)
  refine stop_bin rfl rfl rfl ⟨rfl, rfl⟩ (.bool ((ps[0]) != wd)) (fun w => eqGuard_str w) (fun w => sne_run w) ?_
  refine CaseB.mk (fun g => ?_) (fun g => ?_)
  · have e := h0 (fun h => by rw [h.1] at g; simp at g)
    exact retw [0] ⟨l0, [], false, rfl, fun _ => e, fun h => (by cases h), rfl⟩ ⟨.inl ⟨_, rfl, rfl⟩, trivial⟩ rfl ⟨rfl, trivial⟩ (fun _ => rfl)
  have e0 : ps[0] = wd := by simpa using g
  refine CaseB.mk (fun g2 => ?_) (fun g2 => ?_)
  · have e := h0 (fun h => by have := of_decide_eq_true g2; omega)
    exact retw [0] ⟨l0, [], false, rfl, fun _ => e, fun h => (by cases h), rfl⟩ ⟨.inl ⟨_, rfl, rfl⟩, trivial⟩ rfl ⟨rfl, trivial⟩ (fun _ => rfl)
  have hM := h1 ⟨e0, by have := of_decide_eq_false g2; omega⟩
  clear h0 h1
  refine LoopW.mk ⟨{ q : Nat × Sl × List Int // 1 ≤ q.1 ∧ q.1 ≤ 6 ∧ q.1 ≤ ps.length ∧ numsM ((ps.drop 1).take 5) = behind q.2.2 (numsM ((ps.drop q.1).take (6 - q.1))) ∧ q.2.2.length + 1 = q.1 },
    fun q => .mk [(6, .v (y.val ps.length)), (7, .v (q.1.2.1.val q.1.2.2.length)), (8, .v (.int .i64 (q.1.1 : Int)))] 0 0 [] [] [own q.1.2.1 3 cInt 1 q.1.2.2, own y 9 cTxt 1 ps],
    fun q => 6 - q.1.1, ⟨(1, l0, []), Nat.le_refl _, by show 1 ≤ 6; omega, hcl.1, by simp only [behind, List.nil_append]; cases numsM ((ps.drop 1).take (6 - 1)) <;> rfl, rfl⟩, ?_, ?_⟩
  · refine weak_mk [0, 1] ?_ ?_ ?_ ?_ ?_ rfl rfl
    · repeat (first | exact trivial | refine ⟨⟨_, rfl, (by first | exact .of rfl | exact .lit rfl | exact .of (by first | (rfl)) | exact .lit (by first | (rfl))), (by first | exact trivial | exact Nat.le_of_ble_eq_true rfl | exact small1 rfl)⟩, ?_⟩)
    · repeat (first | exact trivial | refine ⟨⟨(by first | exact .head _ | exact .tail _ (.head _) | exact .tail _ (.tail _ (.head _)) | exact .tail _ (.tail _ (.tail _ (.head _))) | exact .tail _ (.tail _ (.tail _ (.tail _ (.head _)))) | exact .tail _ (.tail _ (.tail _ (.tail _ (.tail _ (.head _))))) | exact .tail _ (.tail _ (.tail _ (.tail _ (.tail _ (.tail _ (.head _)))))) | exact .tail _ (.tail _ (.tail _ (.tail _ (.tail _ (.tail _ (.tail _ (.head _))))))) | exact .tail _ (.tail _ (.tail _ (.tail _ (.tail _ (.tail _ (.tail _ (.tail _ (.head _)))))))) | exact .tail _ (.tail _ (.tail _ (.tail _ (.tail _ (.tail _ (.tail _ (.tail _ (.tail _ (.head _)))))))))), Nat.le_of_ble_eq_true rfl⟩, ?_⟩)
    · repeat (first | exact trivial | refine ⟨⟨_, rfl, (by first | exact .of rfl | exact .lit rfl | exact .of (by first | (rfl)) | exact .lit (by first | (rfl))), (by first | exact trivial | exact Nat.le_of_ble_eq_true rfl | exact small1 rfl)⟩, ?_⟩)
    · repeat (first | exact trivial | refine ⟨⟨_, rfl⟩, ?_⟩)
    · repeat (first | exact trivial | refine ⟨.inl ⟨_, rfl, (by first | rfl | (rfl))⟩, ?_⟩ | refine ⟨.inr ⟨Nat.le_of_ble_eq_true rfl, rfl, rfl, rfl, rfl⟩, ?_⟩)
  rintro ⟨⟨i, z, ns⟩, i1, i2, i3, i4, i5⟩
  simp only at i1 i2 i3 i4 i5 ⊢
  refine CaseB.mk (fun g => ?_) (fun g => ?_)
  refine CaseB.mk (fun g2 => ?_) (fun g2 => ?_)
  · have hlt : i < ps.length := by have := of_decide_eq_true g; omega
    have h6 : i < 6 := by have := of_decide_eq_true g2; omega
    have hw := e_succ i _ hlt (by omega)
    obtain ⟨m, hm⟩ : ∃ m, 6 - i = m + 1 := ⟨5 - i, by omega⟩
    have hd : (ps.drop i).take (6 - i) = ps[i] :: (ps.drop (i + 1)).take (6 - (i + 1)) := by rw [hm, drop_take hlt, show 6 - (i + 1) = m by omega]
    rw [hd] at i4
    refine stop_idx encTxt tabOk rfl rfl rfl rfl rfl ⟨rfl, rfl⟩ (rdOwnAt 1 rfl) i rfl (by first | omega | (simp; done) | (simp; omega) | (unfold maxLen; omega) | (unfold maxLen; simp; done) | (unfold maxLen; simp; omega)) (fun ad => ?_)
    obtain ⟨pt, hpe⟩ : ∃ pt, pt = ps[i] := ⟨_, rfl⟩
    have hpl : pt.length ≤ 1000 := by rw [hpe]; exact hpt _ (List.getElem_mem hlt)
    rw [← hpe] at i4 ⊢
    refine stop_call _ cl73 rfl rfl rfl rfl ⟨rfl, rfl⟩ (fun A w hW => (snum_c pt w (by omega))) ?_
    rintro v L ⟨rfl, rfl⟩
    cases hn : numM pt with
    | none =>
      refine CaseB.mk (fun g3 => ?_) (fun g3 => by simp at g3)
      refine AllSl.mk fun l2 => ?_
      have e : M = none := by rw [hM, i4.trans (behind_none hn)]
      exact retw [0] ⟨l2, [], false, rfl, fun _ => e, fun h => (by cases h), rfl⟩ ⟨.inl ⟨_, rfl, rfl⟩, trivial⟩ rfl ⟨rfl, trivial⟩ (fun _ => rfl)
    | some n =>
      refine CaseB.mk (fun g3 => by simp at g3) (fun g3 => ?_)
      refine AllSl.mk fun b3 => ?_
      refine stop_app encInt 1 tabOk (xs := ns) (ys := [n]) rfl rfl rfl rfl rfl rfl rfl rfl rfl (by decide) ⟨rfl, rfl⟩ rfl (by first | exact rdAt 0 rfl | exact rdOwnAt 0 rfl | exact rdAt 1 rfl | exact rdOwnAt 1 rfl | exact rdAt 2 rfl | exact rdOwnAt 2 rfl | exact rdAt 3 rfl | exact rdOwnAt 3 rfl | exact rdAt 4 rfl | exact rdOwnAt 4 rfl | exact rdAt 5 rfl | exact rdOwnAt 5 rfl | exact rdAt 6 rfl | exact rdOwnAt 6 rfl | exact rdAt 7 rfl | exact rdOwnAt 7 rfl | exact rdAt 8 rfl | exact rdOwnAt 8 rfl | exact rdAt 9 rfl | exact rdOwnAt 9 rfl | exact rdAt 10 rfl | exact rdOwnAt 10 rfl | exact rdAt 11 rfl | exact rdOwnAt 11 rfl | exact rdAt 12 rfl | exact rdOwnAt 12 rfl | exact rdAt 13 rfl | exact rdOwnAt 13 rfl | exact rdAt 14 rfl | exact rdOwnAt 14 rfl | exact rdAt 15 rfl | exact rdOwnAt 15 rfl | exact rdAt 16 rfl | exact rdOwnAt 16 rfl | exact rdAt 17 rfl | exact rdOwnAt 17 rfl | exact rdAt 18 rfl | exact rdOwnAt 18 rfl | exact rdAt 19 rfl | exact rdOwnAt 19 rfl | exact rdAt 20 rfl | exact rdOwnAt 20 rfl | exact rdAt 21 rfl | exact rdOwnAt 21 rfl | exact rdAt 22 rfl | exact rdOwnAt 22 rfl | exact rdAt 23 rfl | exact rdOwnAt 23 rfl) (by first | omega | (simp; done) | (simp; omega) | (unfold maxLen; omega) | (unfold maxLen; simp; done) | (unfold maxLen; simp; omega)) (by first | omega | (simp; done) | (simp; omega) | (unfold maxLen; omega) | (unfold maxLen; simp; done) | (unfold maxLen; simp; omega)) (fun z3 => ?_)
      refine ⟨⟨(i + 1, z3, ns ++ [n]), show 1 ≤ i + 1 by omega, h6, hlt, i4.trans (behind_some hn), by simp; omega⟩, ?_, by simp only; omega⟩
      refine weak_mk [0, 2] ?_ ?_ ?_ ?_ ?_ rfl rfl
      · repeat (first | exact trivial | refine ⟨⟨_, rfl, (by first | exact .of rfl | exact .lit rfl | exact .of (by first | ((exact congrArg (fun z => SV.v (Value.int .i64 z)) hw))) | exact .lit (by first | ((exact congrArg (fun z => SV.v (Value.int .i64 z)) hw)))), (by first | exact trivial | exact Nat.le_of_ble_eq_true rfl | exact small1 rfl)⟩, ?_⟩)
      · repeat (first | exact trivial | refine ⟨⟨(by first | exact .head _ | exact .tail _ (.head _) | exact .tail _ (.tail _ (.head _)) | exact .tail _ (.tail _ (.tail _ (.head _))) | exact .tail _ (.tail _ (.tail _ (.tail _ (.head _)))) | exact .tail _ (.tail _ (.tail _ (.tail _ (.tail _ (.head _))))) | exact .tail _ (.tail _ (.tail _ (.tail _ (.tail _ (.tail _ (.head _)))))) | exact .tail _ (.tail _ (.tail _ (.tail _ (.tail _ (.tail _ (.tail _ (.head _))))))) | exact .tail _ (.tail _ (.tail _ (.tail _ (.tail _ (.tail _ (.tail _ (.tail _ (.head _)))))))) | exact .tail _ (.tail _ (.tail _ (.tail _ (.tail _ (.tail _ (.tail _ (.tail _ (.tail _ (.head _)))))))))), Nat.le_of_ble_eq_true rfl⟩, ?_⟩)
      · repeat (first | exact trivial | refine ⟨⟨_, rfl, (by first | exact .of rfl | exact .lit rfl | exact .of (by first | ((exact congrArg (fun z => SV.v (Value.int .i64 z)) hw))) | exact .lit (by first | ((exact congrArg (fun z => SV.v (Value.int .i64 z)) hw)))), (by first | exact trivial | exact Nat.le_of_ble_eq_true rfl | exact small1 rfl)⟩, ?_⟩)
      · repeat (first | exact trivial | refine ⟨⟨_, rfl⟩, ?_⟩)
      · repeat (first | exact trivial | refine ⟨.inl ⟨_, rfl, (by first | rfl | ((exact congrArg (fun z => SV.v (Value.int .i64 z)) hw)))⟩, ?_⟩ | refine ⟨.inr ⟨Nat.le_of_ble_eq_true rfl, rfl, rfl, rfl, rfl⟩, ?_⟩)
  have hfin : numsM ((ps.drop 1).take 5) = some ns := by
    rw [i4, show 6 - i = 0 by have := of_decide_eq_false g2; omega, List.take_zero]
    simp [numsM, behind]
  rotate_left
  have hfin : numsM ((ps.drop 1).take 5) = some ns := by
    rw [i4, List.drop_eq_nil_of_le (by have := of_decide_eq_false g; omega), List.take_nil]
    simp [numsM, behind]
  rotate_left
  all_goals
    rw [hfin] at hM
    simp only at hM
    have hw1 : IntKind.i64.wrap ((ps.length : Int) - 1) = (ps.length : Int) - 1 := wrap_nn (by omega) (by omega)
    by_cases he : ns.length + 1 = ps.length
    · rw [if_pos he] at hM
      exact retw [0] ⟨z, ns, _, rfl, fun h => by rw [hw1] at h; have h' : ¬ (ns.length : Int) = (ps.length : Int) - 1 := (by simpa using h); omega, fun _ => hM, rfl⟩ ⟨.inl ⟨_, rfl, rfl⟩, trivial⟩ rfl ⟨rfl, trivial⟩ (fun _ => rfl)
    · rw [if_neg he] at hM
      exact retw [0] ⟨z, ns, _, rfl, fun _ => hM, fun h => by rw [hw1] at h; have h' : (ns.length : Int) = (ps.length : Int) - 1 := (by simpa using h); omega, rfl⟩ ⟨.inl ⟨_, rfl, rfl⟩, trivial⟩ rfl ⟨rfl, trivial⟩ (fun _ => rfl)

end Go.Proofs.Ytjkkoonennpceaa

namespace Go.Proofs.Ytjkkoonennpceaa

open Go Go.Sx Go.RowKit

/-- The operation of a thread's i-th part. -/
def opAtM (i : Nat) (s : Str) : Option Op := if i = 0 then parseOpM s else if s.head? = some 32 then parseOpM (s.drop 1) else none

def opsX (i : Nat) : List Str → Option (List Op)
  | [] => some []
  | s :: r => match opAtM i s with
    | none => none
    | some o => match opsG r with
      | none => none
      | some l => some (o :: l)

theorem opsX_0 : ∀ l : List Str, opsM l = opsX 0 l
  | [] => rfl
  | _ :: _ => rfl

theorem opsX_s {i : Nat} (h : 1 ≤ i) : ∀ l : List Str, opsG l = opsX i l
  | [] => rfl
  | s :: r => by simp only [opsG, opsX, opAtM, if_neg (show ¬ i = 0 by omega)] <;> rfl

def behindO (ns : List Op) (o : Option (List Op)) : Option (List Op) := match o with | none => none | some l => some (ns ++ l)

theorem behindO_some {ns : List Op} {s : Str} {r : List Str} {o : Op} {i : Nat} (h : opAtM i s = some o) : behindO ns (opsX i (s :: r)) = behindO (ns ++ [o]) (opsX (i + 1) r) := by
  rw [← opsX_s (by omega) r, opsX, h]
  cases opsG r with
  | none => rfl
  | some l => simp [behindO]

theorem behindO_none {ns : List Op} {s : Str} {r : List Str} {i : Nat} (h : opAtM i s = none) : behindO ns (opsX i (s :: r)) = none := by
  rw [opsX, h]; rfl

set_option maxHeartbeats 8000000 in
set_option maxRecDepth 100000 in
theorem threadP_c (line : Str) (w : World) (hb : line.length ≤ 1000) :
    Calls Try.prog 70 #[.string (bs line)] w (Ret w fun v L => ∃ (z : Sl) (ns : List Op) (b : Bool), v = .tuple #[z.val ns.length, .bool b] ∧ (b = false → threadM line = none) ∧ (b = true → threadM line = some ns) ∧ L = [own z 75 cOp 3 ns]) := by
  have hcl := cutM_len 44 (line.drop 7)
  have hdl : (line.drop 7).length ≤ 1000 := by simp; omega
  have hpt : ∀ x ∈ cutM 44 (line.drop 7), x.length ≤ 1000 := fun x hx => Nat.le_trans (cutM_part hx) hdl
  have h0 : line = [116, 104, 114, 101, 97, 100] → threadM line = some [] := fun h => if_pos h
  have h1 : line ≠ [116, 104, 114, 101, 97, 100] → (line.length < 7 ∨ line.take 7 ≠ [116, 104, 114, 101, 97, 100, 32]) → threadM line = none := fun h h2 => by rw [threadM, if_neg h, if_pos h2]
  have h2 : line ≠ [116, 104, 114, 101, 97, 100] → ¬ (line.length < 7 ∨ line.take 7 ≠ [116, 104, 114, 101, 97, 100, 32]) → threadM line = match opsX 0 ((cutM 44 (line.drop 7)).take 9) with | none => none | some l => if (cutM 44 (line.drop 7)).length ≤ 8 then some l else none := fun h h2 => by rw [threadM, if_neg h, if_neg h2, opsX_0] <;> rfl
  generalize threadM line = M at h0 h1 h2 ⊢
  refine calls1 Try.func70 rfl tabOk w _ rfl _ rfl [] trivial trivial _ (by decide) ?_
  refine AllSl.mk fun l0 => ?_
  refine stop_bin rfl rfl rfl ⟨rfl, rfl⟩ (.bool (line == [116, 104, 114, 101, 97, 100])) (fun w => eqGuard_str w) (fun w => seq_run w) ?_
  refine CaseB.mk (fun g => ?_) (fun g => ?_)
  · have e := h0 (by simpa using g)
    exact retw [0] ⟨l0, [], true, rfl, fun h => (by cases h), fun _ => e, rfl⟩ ⟨.inl ⟨_, rfl, rfl⟩, trivial⟩ rfl ⟨rfl, trivial⟩ (fun _ => rfl)
  have n0 : line ≠ [116, 104, 114, 101, 97, 100] := by simpa using g
  refine stop_slen tabOk rfl rfl rfl rfl rfl rfl ⟨rfl, rfl⟩ ?_
  refine CaseB.mk (fun g => ?_) (fun g => ?_)
  · have e := h1 n0 (.inl (by have := of_decide_eq_true g; omega))
    exact retw [0] ⟨l0, [], false, rfl, fun _ => e, fun h => (by cases h), rfl⟩ ⟨.inl ⟨_, rfl, rfl⟩, trivial⟩ rfl ⟨rfl, trivial⟩ (fun _ => rfl)
  have l7 : 7 ≤ line.length := by have := of_decide_eq_false g; omega
  refine stop_scut tabOk rfl rfl rfl ⟨rfl, rfl⟩ rfl rfl (0) (7) rfl rfl (by first | omega | (simp; done) | (simp; omega) | (unfold maxLen; omega) | (unfold maxLen; simp; done) | (unfold maxLen; simp; omega)) (by first | omega | (simp; done) | (simp; omega) | (unfold maxLen; omega) | (unfold maxLen; simp; done) | (unfold maxLen; simp; omega)) ?_
  have ht7 : (line.drop 0).take (7 - 0) = line.take 7 := rfl
  rw [ht7]
  refine stop_bin rfl rfl rfl ⟨rfl, rfl⟩ (.bool ((line.take 7) != [116, 104, 114, 101, 97, 100, 32])) (fun w => eqGuard_str w) (fun w => sne_run w) ?_
  refine CaseB.mk (fun g2 => ?_) (fun g2 => ?_)
  · have e := h1 n0 (.inr (by simpa using g2))
    exact retw [0] ⟨l0, [], false, rfl, fun _ => e, fun h => (by cases h), rfl⟩ ⟨.inl ⟨_, rfl, rfl⟩, trivial⟩ rfl ⟨rfl, trivial⟩ (fun _ => rfl)
  have hM := h2 n0 (fun h => by
    rcases h with h | h
    · omega
    · exact h (by simpa using g2))
  clear h0 h1 h2
  refine stop_scut tabOk rfl rfl rfl ⟨rfl, rfl⟩ rfl rfl (7) (line.length) rfl rfl (by first | omega | (simp; done) | (simp; omega) | (unfold maxLen; omega) | (unfold maxLen; simp; done) | (unfold maxLen; simp; omega)) (by first | omega | (simp; done) | (simp; omega) | (unfold maxLen; omega) | (unfold maxLen; simp; done) | (unfold maxLen; simp; omega)) ?_
  have hd7 : (line.drop 7).take (line.length - 7) = line.drop 7 := List.take_of_length_le (by rw [List.length_drop]; omega)
  rw [hd7]
  refine stop_call _ cl68 rfl rfl rfl rfl ⟨rfl, rfl⟩ (fun A w hW => (cut_c (line.drop 7) 44 w (by omega))) ?_
  rintro v L ⟨y, rfl, rfl⟩
  generalize cutM 44 (line.drop 7) = ps at hcl hpt hM ⊢
  refine LoopW.mk ⟨{ q : Nat × Sl × List Op // q.1 ≤ 9 ∧ q.1 ≤ ps.length ∧ opsX 0 (ps.take 9) = behindO q.2.2 (opsX q.1 ((ps.drop q.1).take (9 - q.1))) ∧ q.2.2.length = q.1 },
    fun q => .mk [(4, .v (q.1.2.1.val q.1.2.2.length)), (5, .v (y.val ps.length)), (6, .v (.int .i64 (q.1.1 : Int)))] 0 0 [] [] [own q.1.2.1 75 cOp 3 q.1.2.2, own y 9 cTxt 1 ps],
    fun q => 9 - q.1.1, ⟨(0, l0, []), Nat.zero_le _, Nat.zero_le _, by simp only [behindO, List.nil_append, List.drop_zero]; cases opsX 0 (ps.take 9) <;> rfl, rfl⟩, ?_, ?_⟩
  · refine weak_mk [1, 0] ?_ ?_ ?_ ?_ ?_ rfl rfl
    · repeat (first | exact trivial | refine ⟨⟨_, rfl, (by first | exact .of rfl | exact .lit rfl | exact .of (by first | (rfl)) | exact .lit (by first | (rfl))), (by first | exact trivial | exact Nat.le_of_ble_eq_true rfl | exact small1 rfl)⟩, ?_⟩)
    · repeat (first | exact trivial | refine ⟨⟨(by first | exact .head _ | exact .tail _ (.head _) | exact .tail _ (.tail _ (.head _)) | exact .tail _ (.tail _ (.tail _ (.head _))) | exact .tail _ (.tail _ (.tail _ (.tail _ (.head _)))) | exact .tail _ (.tail _ (.tail _ (.tail _ (.tail _ (.head _))))) | exact .tail _ (.tail _ (.tail _ (.tail _ (.tail _ (.tail _ (.head _)))))) | exact .tail _ (.tail _ (.tail _ (.tail _ (.tail _ (.tail _ (.tail _ (.head _))))))) | exact .tail _ (.tail _ (.tail _ (.tail _ (.tail _ (.tail _ (.tail _ (.tail _ (.head _)))))))) | exact .tail _ (.tail _ (.tail _ (.tail _ (.tail _ (.tail _ (.tail _ (.tail _ (.tail _ (.head _)))))))))), Nat.le_of_ble_eq_true rfl⟩, ?_⟩)
    · repeat (first | exact trivial | refine ⟨⟨_, rfl, (by first | exact .of rfl | exact .lit rfl | exact .of (by first | (rfl)) | exact .lit (by first | (rfl))), (by first | exact trivial | exact Nat.le_of_ble_eq_true rfl | exact small1 rfl)⟩, ?_⟩)
    · repeat (first | exact trivial | refine ⟨⟨_, rfl⟩, ?_⟩)
    · repeat (first | exact trivial | refine ⟨.inl ⟨_, rfl, (by first | rfl | (rfl))⟩, ?_⟩ | refine ⟨.inr ⟨Nat.le_of_ble_eq_true rfl, rfl, rfl, rfl, rfl⟩, ?_⟩)
  rintro ⟨⟨i, z, ns⟩, i1, i2, i3, i4⟩
  simp only at i1 i2 i3 i4 ⊢
  refine CaseB.mk (fun g => ?_) (fun g => ?_)
  refine CaseB.mk (fun g2 => ?_) (fun g2 => ?_)
  · have hlt : i < ps.length := by have := of_decide_eq_true g; omega
    have h8 : i < 9 := by have := of_decide_eq_true g2; omega
    have hw := e_succ i _ hlt (by omega)
    obtain ⟨m, hm⟩ : ∃ m, 9 - i = m + 1 := ⟨8 - i, by omega⟩
    have hd : (ps.drop i).take (9 - i) = ps[i] :: (ps.drop (i + 1)).take (9 - (i + 1)) := by rw [hm, drop_take hlt, show 9 - (i + 1) = m by omega]
    rw [hd] at i3
    refine stop_idx encTxt tabOk rfl rfl rfl rfl rfl ⟨rfl, rfl⟩ (rdOwnAt 1 rfl) i rfl (by first | omega | (simp; done) | (simp; omega) | (unfold maxLen; omega) | (unfold maxLen; simp; done) | (unfold maxLen; simp; omega)) (fun ad => ?_)
    obtain ⟨pt, hpe⟩ : ∃ pt, pt = ps[i] := ⟨_, rfl⟩
    have hpl : pt.length ≤ 1000 := by rw [hpe]; exact hpt _ (List.getElem_mem hlt)
    rw [← hpe] at i3 ⊢
    have hbad : opAtM i pt = none → M = none := fun h => by rw [hM, i3.trans (behindO_none h)]
    refine CaseB.mk (fun g3 => ?_) (fun g3 => ?_)
    · have hi0 : ¬ i = 0 := by have := of_decide_eq_true g3; omega
      have hop : opAtM i pt = if pt.head? = some 32 then parseOpM (pt.drop 1) else none := if_neg hi0
      refine stop_bin rfl rfl rfl ⟨rfl, rfl⟩ (.bool (pt == [])) (fun w => eqGuard_str w) (fun w => seq_run w) ?_
      refine CaseB.mk (fun g4 => ?_) (fun g4 => ?_)
      · have e0 : pt = [] := by simpa using g4
        have e := hbad (by rw [hop, e0]; rfl)
        refine AllSl.mk fun l2 => ?_
        exact retw [0] ⟨l2, [], false, rfl, fun _ => e, fun h => (by cases h), rfl⟩ ⟨.inl ⟨_, rfl, rfl⟩, trivial⟩ rfl ⟨rfl, trivial⟩ (fun _ => rfl)
      have hpp : 0 < pt.length := by
        cases pt with
        | nil => simp at g4
        | cons a r => simp
      have hh : pt.head? = some pt[0] := by rw [List.head?_eq_getElem?, List.getElem?_eq_getElem hpp]
      refine stop_sidx tabOk rfl rfl rfl rfl ⟨rfl, rfl⟩ (0) rfl (by first | omega | (simp; done) | (simp; omega) | (unfold maxLen; omega) | (unfold maxLen; simp; done) | (unfold maxLen; simp; omega)) ?_
      refine CaseB.mk (fun g5 => ?_) (fun g5 => ?_)
      · have e32 : ¬ pt[0] = 32 := fun h => by rw [h] at g5; simp at g5
        have e := hbad (by rw [hop, hh, if_neg (fun h => e32 (Option.some.inj h))])
        refine AllSl.mk fun l2 => ?_
        exact retw [0] ⟨l2, [], false, rfl, fun _ => e, fun h => (by cases h), rfl⟩ ⟨.inl ⟨_, rfl, rfl⟩, trivial⟩ rfl ⟨rfl, trivial⟩ (fun _ => rfl)
      have e32 : pt[0] = 32 := (u8_eq _ 32).1 (by simpa using g5)
      rw [hh, e32, if_pos rfl] at hop
      refine CaseB.mk (fun g6 => ?_) (fun g6 => by rw [g3] at g6; cases g6)
      refine stop_scut tabOk rfl rfl rfl ⟨rfl, rfl⟩ rfl rfl (1) (pt.length) rfl rfl (by first | omega | (simp; done) | (simp; omega) | (unfold maxLen; omega) | (unfold maxLen; simp; done) | (unfold maxLen; simp; omega)) (by first | omega | (simp; done) | (simp; omega) | (unfold maxLen; omega) | (unfold maxLen; simp; done) | (unfold maxLen; simp; omega)) ?_
      have hc1 : (pt.drop 1).take (pt.length - 1) = pt.drop 1 := List.take_of_length_le (by rw [List.length_drop]; omega)
      rw [hc1]
      have htl : (pt.drop 1).length ≤ 1000 := by simp; omega
      generalize pt.drop 1 = tx at hop htl ⊢
      refine stop_call _ cl74 rfl rfl rfl rfl ⟨rfl, rfl⟩ (fun A w hW => (parseOp_c tx w htl)) ?_
      rintro v L ⟨rfl, rfl⟩
      cases ho : parseOpM tx with
      | none =>
        refine CaseB.mk (fun g7 => ?_) (fun g7 => by simp at g7)
        refine AllSl.mk fun l2 => ?_
        have e := hbad (hop.trans ho)
        exact retw [0] ⟨l2, [], false, rfl, fun _ => e, fun h => (by cases h), rfl⟩ ⟨.inl ⟨_, rfl, rfl⟩, trivial⟩ rfl ⟨rfl, trivial⟩ (fun _ => rfl)
      | some o =>
        refine CaseB.mk (fun g7 => by simp at g7) (fun g7 => ?_)
        refine AllSl.mk fun b3 => ?_
        refine stop_app encOp 1 tabOk (xs := ns) (ys := [o]) rfl rfl rfl rfl rfl rfl rfl rfl rfl (by decide) ⟨rfl, rfl⟩ rfl (by first | exact rdAt 0 rfl | exact rdOwnAt 0 rfl | exact rdAt 1 rfl | exact rdOwnAt 1 rfl | exact rdAt 2 rfl | exact rdOwnAt 2 rfl | exact rdAt 3 rfl | exact rdOwnAt 3 rfl | exact rdAt 4 rfl | exact rdOwnAt 4 rfl | exact rdAt 5 rfl | exact rdOwnAt 5 rfl | exact rdAt 6 rfl | exact rdOwnAt 6 rfl | exact rdAt 7 rfl | exact rdOwnAt 7 rfl | exact rdAt 8 rfl | exact rdOwnAt 8 rfl | exact rdAt 9 rfl | exact rdOwnAt 9 rfl | exact rdAt 10 rfl | exact rdOwnAt 10 rfl | exact rdAt 11 rfl | exact rdOwnAt 11 rfl | exact rdAt 12 rfl | exact rdOwnAt 12 rfl | exact rdAt 13 rfl | exact rdOwnAt 13 rfl | exact rdAt 14 rfl | exact rdOwnAt 14 rfl | exact rdAt 15 rfl | exact rdOwnAt 15 rfl | exact rdAt 16 rfl | exact rdOwnAt 16 rfl | exact rdAt 17 rfl | exact rdOwnAt 17 rfl | exact rdAt 18 rfl | exact rdOwnAt 18 rfl | exact rdAt 19 rfl | exact rdOwnAt 19 rfl | exact rdAt 20 rfl | exact rdOwnAt 20 rfl | exact rdAt 21 rfl | exact rdOwnAt 21 rfl | exact rdAt 22 rfl | exact rdOwnAt 22 rfl | exact rdAt 23 rfl | exact rdOwnAt 23 rfl) (by first | omega | (simp; done) | (simp; omega) | (unfold maxLen; omega) | (unfold maxLen; simp; done) | (unfold maxLen; simp; omega)) (by first | omega | (simp; done) | (simp; omega) | (unfold maxLen; omega) | (unfold maxLen; simp; done) | (unfold maxLen; simp; omega)) (fun z3 => ?_)
        refine ⟨⟨(i + 1, z3, ns ++ [o]), h8, hlt, i3.trans (behindO_some (hop.trans ho)), by simp; omega⟩, ?_, by simp only; omega⟩
        refine weak_mk [0, 2] ?_ ?_ ?_ ?_ ?_ rfl rfl
        · repeat (first | exact trivial | refine ⟨⟨_, rfl, (by first | exact .of rfl | exact .lit rfl | exact .of (by first | ((exact congrArg (fun z => SV.v (Value.int .i64 z)) hw))) | exact .lit (by first | ((exact congrArg (fun z => SV.v (Value.int .i64 z)) hw)))), (by first | exact trivial | exact Nat.le_of_ble_eq_true rfl | exact small1 rfl)⟩, ?_⟩)
        · repeat (first | exact trivial | refine ⟨⟨(by first | exact .head _ | exact .tail _ (.head _) | exact .tail _ (.tail _ (.head _)) | exact .tail _ (.tail _ (.tail _ (.head _))) | exact .tail _ (.tail _ (.tail _ (.tail _ (.head _)))) | exact .tail _ (.tail _ (.tail _ (.tail _ (.tail _ (.head _))))) | exact .tail _ (.tail _ (.tail _ (.tail _ (.tail _ (.tail _ (.head _)))))) | exact .tail _ (.tail _ (.tail _ (.tail _ (.tail _ (.tail _ (.tail _ (.head _))))))) | exact .tail _ (.tail _ (.tail _ (.tail _ (.tail _ (.tail _ (.tail _ (.tail _ (.head _)))))))) | exact .tail _ (.tail _ (.tail _ (.tail _ (.tail _ (.tail _ (.tail _ (.tail _ (.tail _ (.head _)))))))))), Nat.le_of_ble_eq_true rfl⟩, ?_⟩)
        · repeat (first | exact trivial | refine ⟨⟨_, rfl, (by first | exact .of rfl | exact .lit rfl | exact .of (by first | ((exact congrArg (fun z => SV.v (Value.int .i64 z)) hw))) | exact .lit (by first | ((exact congrArg (fun z => SV.v (Value.int .i64 z)) hw)))), (by first | exact trivial | exact Nat.le_of_ble_eq_true rfl | exact small1 rfl)⟩, ?_⟩)
        · repeat (first | exact trivial | refine ⟨⟨_, rfl⟩, ?_⟩)
        · repeat (first | exact trivial | refine ⟨.inl ⟨_, rfl, (by first | rfl | ((exact congrArg (fun z => SV.v (Value.int .i64 z)) hw)))⟩, ?_⟩ | refine ⟨.inr ⟨Nat.le_of_ble_eq_true rfl, rfl, rfl, rfl, rfl⟩, ?_⟩)
    have hi0 : i = 0 := by have := of_decide_eq_false g3; omega
    have hop : opAtM i pt = parseOpM pt := if_pos hi0
    refine CaseB.mk (fun g6 => by rw [g3] at g6; cases g6) (fun g6 => ?_)
    have htl := hpl
    refine stop_call _ cl74 rfl rfl rfl rfl ⟨rfl, rfl⟩ (fun A w hW => (parseOp_c pt w htl)) ?_
    rintro v L ⟨rfl, rfl⟩
    cases ho : parseOpM pt with
    | none =>
      refine CaseB.mk (fun g7 => ?_) (fun g7 => by simp at g7)
      refine AllSl.mk fun l2 => ?_
      have e := hbad (hop.trans ho)
      exact retw [0] ⟨l2, [], false, rfl, fun _ => e, fun h => (by cases h), rfl⟩ ⟨.inl ⟨_, rfl, rfl⟩, trivial⟩ rfl ⟨rfl, trivial⟩ (fun _ => rfl)
    | some o =>
      refine CaseB.mk (fun g7 => by simp at g7) (fun g7 => ?_)
      refine AllSl.mk fun b3 => ?_
      refine stop_app encOp 1 tabOk (xs := ns) (ys := [o]) rfl rfl rfl rfl rfl rfl rfl rfl rfl (by decide) ⟨rfl, rfl⟩ rfl (by first | exact rdAt 0 rfl | exact rdOwnAt 0 rfl | exact rdAt 1 rfl | exact rdOwnAt 1 rfl | exact rdAt 2 rfl | exact rdOwnAt 2 rfl | exact rdAt 3 rfl | exact rdOwnAt 3 rfl | exact rdAt 4 rfl | exact rdOwnAt 4 rfl | exact rdAt 5 rfl | exact rdOwnAt 5 rfl | exact rdAt 6 rfl | exact rdOwnAt 6 rfl | exact rdAt 7 rfl | exact rdOwnAt 7 rfl | exact rdAt 8 rfl | exact rdOwnAt 8 rfl | exact rdAt 9 rfl | exact rdOwnAt 9 rfl | exact rdAt 10 rfl | exact rdOwnAt 10 rfl | exact rdAt 11 rfl | exact rdOwnAt 11 rfl | exact rdAt 12 rfl | exact rdOwnAt 12 rfl | exact rdAt 13 rfl | exact rdOwnAt 13 rfl | exact rdAt 14 rfl | exact rdOwnAt 14 rfl | exact rdAt 15 rfl | exact rdOwnAt 15 rfl | exact rdAt 16 rfl | exact rdOwnAt 16 rfl | exact rdAt 17 rfl | exact rdOwnAt 17 rfl | exact rdAt 18 rfl | exact rdOwnAt 18 rfl | exact rdAt 19 rfl | exact rdOwnAt 19 rfl | exact rdAt 20 rfl | exact rdOwnAt 20 rfl | exact rdAt 21 rfl | exact rdOwnAt 21 rfl | exact rdAt 22 rfl | exact rdOwnAt 22 rfl | exact rdAt 23 rfl | exact rdOwnAt 23 rfl) (by first | omega | (simp; done) | (simp; omega) | (unfold maxLen; omega) | (unfold maxLen; simp; done) | (unfold maxLen; simp; omega)) (by first | omega | (simp; done) | (simp; omega) | (unfold maxLen; omega) | (unfold maxLen; simp; done) | (unfold maxLen; simp; omega)) (fun z3 => ?_)
      refine ⟨⟨(i + 1, z3, ns ++ [o]), h8, hlt, i3.trans (behindO_some (hop.trans ho)), by simp; omega⟩, ?_, by simp only; omega⟩
      refine weak_mk [0, 2] ?_ ?_ ?_ ?_ ?_ rfl rfl
      · repeat (first | exact trivial | refine ⟨⟨_, rfl, (by first | exact .of rfl | exact .lit rfl | exact .of (by first | ((exact congrArg (fun z => SV.v (Value.int .i64 z)) hw))) | exact .lit (by first | ((exact congrArg (fun z => SV.v (Value.int .i64 z)) hw)))), (by first | exact trivial | exact Nat.le_of_ble_eq_true rfl | exact small1 rfl)⟩, ?_⟩)
      · repeat (first | exact trivial | refine ⟨⟨(by first | exact .head _ | exact .tail _ (.head _) | exact .tail _ (.tail _ (.head _)) | exact .tail _ (.tail _ (.tail _ (.head _))) | exact .tail _ (.tail _ (.tail _ (.tail _ (.head _)))) | exact .tail _ (.tail _ (.tail _ (.tail _ (.tail _ (.head _))))) | exact .tail _ (.tail _ (.tail _ (.tail _ (.tail _ (.tail _ (.head _)))))) | exact .tail _ (.tail _ (.tail _ (.tail _ (.tail _ (.tail _ (.tail _ (.head _))))))) | exact .tail _ (.tail _ (.tail _ (.tail _ (.tail _ (.tail _ (.tail _ (.tail _ (.head _)))))))) | exact .tail _ (.tail _ (.tail _ (.tail _ (.tail _ (.tail _ (.tail _ (.tail _ (.tail _ (.head _)))))))))), Nat.le_of_ble_eq_true rfl⟩, ?_⟩)
      · repeat (first | exact trivial | refine ⟨⟨_, rfl, (by first | exact .of rfl | exact .lit rfl | exact .of (by first | ((exact congrArg (fun z => SV.v (Value.int .i64 z)) hw))) | exact .lit (by first | ((exact congrArg (fun z => SV.v (Value.int .i64 z)) hw)))), (by first | exact trivial | exact Nat.le_of_ble_eq_true rfl | exact small1 rfl)⟩, ?_⟩)
      · repeat (first | exact trivial | refine ⟨⟨_, rfl⟩, ?_⟩)
      · repeat (first | exact trivial | refine ⟨.inl ⟨_, rfl, (by first | rfl | ((exact congrArg (fun z => SV.v (Value.int .i64 z)) hw)))⟩, ?_⟩ | refine ⟨.inr ⟨Nat.le_of_ble_eq_true rfl, rfl, rfl, rfl, rfl⟩, ?_⟩)
  have hfin : opsX 0 (ps.take 9) = some ns := by
    rw [i3, show 9 - i = 0 by have := of_decide_eq_false g2; omega, List.take_zero]
    simp [opsX, behindO]
  rotate_left
  have hfin : opsX 0 (ps.take 9) = some ns := by
    rw [i3, List.drop_eq_nil_of_le (by have := of_decide_eq_false g; omega), List.take_nil]
    simp [opsX, behindO]
  rotate_left
  all_goals
    rw [hfin] at hM
    simp only at hM
    by_cases he : ps.length ≤ 8
    · rw [if_pos he] at hM
      exact retw [0] ⟨z, ns, _, rfl, fun h => by have := of_decide_eq_false h; omega, fun _ => hM, rfl⟩ ⟨.inl ⟨_, rfl, rfl⟩, trivial⟩ rfl ⟨rfl, trivial⟩ (fun _ => rfl)
    · rw [if_neg he] at hM
      exact retw [0] ⟨z, ns, _, rfl, fun _ => hM, fun h => by have := of_decide_eq_true h; omega, rfl⟩ ⟨.inl ⟨_, rfl, rfl⟩, trivial⟩ rfl ⟨rfl, trivial⟩ (fun _ => rfl)

end Go.Proofs.Ytjkkoonennpceaa

namespace Go.Proofs.Ytjkkoonennpceaa

open Go Go.Sx Go.RowKit

set_option maxHeartbeats 16000000 in
set_option maxRecDepth 100000 in
theorem opValid_c (p : ProgH) (o : Op) (w : World) (h : At w [fR (progO p)]) :
    Calls Try.prog 30 #[progV p, .agg (cOp o).toArray] w (Tells w (OpOk p.pure o)) := by
  refine calls2 Try.func30 rfl tabOk w _ rfl _ rfl _ h ⟨rfl, rfl, trivial⟩ _ _ (by decide) ?_
  refine CaseB.mk (fun k1 => ?_) (fun k1 => ?_)
  · have hx := opOk1 (p := p.pure) (o := o) (by simpa using k1)
    refine CaseB.mk (fun g => ?_) (fun g => ?_)
    · have g' : o.on = 0 := by simpa using g
      refine stop_call _ cl36 rfl rfl rfl rfl ⟨rfl, rfl⟩ (fun A w hW => isValue_c _ w) ?_
      rintro v L ⟨rfl, rfl⟩
      exact retw [] ⟨_, rfl, by rw [hx]; simp [g'], rfl⟩ trivial rfl trivial (fun _ => rfl)
    · have g' : ¬ o.on = 0 := by simpa using g
      exact retw [] ⟨_, rfl, tno fun e => g' (hx.1 e).1, rfl⟩ trivial rfl trivial (fun _ => rfl)
  refine CaseB.mk (fun k2 => ?_) (fun k2 => ?_)
  · refine CaseB.mk (fun _ => ?_) (fun g => by rw [k2] at g; cases g)
    have hx := opOk2 (p := p.pure) (o := o) (.inl (by simpa using k2))
    refine draw_start tabOk (by kernel_rfl) (by kernel_rfl) (by kernel_rfl) 200 [((0, 0), .v (p.h0.val p.sems.length)), ((1, 0), .v (.int .i64 o.kind)), ((1, 1), .v (.int .i64 o.on)), ((1, 2), .v (.int .i64 o.arg))] [0] [_] ⟨⟨_, rfl, rfl, (by first | exact trivial | exact Nat.le_of_ble_eq_true rfl)⟩, ⟨_, rfl, rfl, (by first | exact trivial | exact Nat.le_of_ble_eq_true rfl)⟩, ⟨_, rfl, rfl, (by first | exact trivial | exact Nat.le_of_ble_eq_true rfl)⟩, ⟨_, rfl, rfl, (by first | exact trivial | exact Nat.le_of_ble_eq_true rfl)⟩, trivial⟩ ⟨⟨_, rfl⟩, ⟨_, rfl⟩, ⟨_, rfl⟩, ⟨_, rfl⟩, trivial⟩ ⟨rfl, trivial⟩ rfl ?_
    refine d_call _ cl49 rfl rfl rfl rfl ⟨rfl, rfl⟩ (fun A w hW => opOn_c p.h0 p.sems.length o (A 1) w ⟨hW.var rfl rfl, trivial⟩) ?_
    rintro v L ⟨b, rfl, hb, rfl⟩
    refine CaseB.mk (fun g1 => ?_) (fun g1 => ?_)
    · obtain ⟨c1, c2⟩ := hb.1 g1
      have hlt : o.on.toNat < p.sems.length := by omega
      have e : p.pure.sems.getD o.on.toNat 0 = p.sems[o.on.toNat] := by simp [ProgH.pure, List.getD, hlt]
      refine CaseB.mk (fun g2 => ?_) (fun g2 => ?_)
      · have c3 : 1 ≤ o.arg := by simp at g2; omega
        refine d_idx (ti := tiOf tab) encInt tabOk rfl rfl rfl rfl rfl ⟨rfl, rfl⟩ (rdVia 0 rfl (.ofR (progO_sems p))) o.on.toNat (by omega) (by first | omega | (simp; done) | (simp; omega) | (unfold maxLen; omega) | (unfold maxLen; simp; done) | (unfold maxLen; simp; omega)) (fun ad => ?_)
        refine retw [] ⟨_, rfl, ?_, rfl⟩ trivial rfl trivial (fun _ => rfl)
        rw [hx, e]
        show _ ↔ (0 ≤ o.on ∧ o.on < (p.sems.length : Int)) ∧ _
        simp [c1, c2, c3]
      · have c3 : ¬ 1 ≤ o.arg := by simp at g2; omega
        exact retw [] ⟨_, rfl, tno fun e => c3 (hx.1 e).2.1, rfl⟩ trivial rfl trivial (fun _ => rfl)
    · exact retw [] ⟨_, rfl, tno fun e => (by rw [hb.2 (hx.1 e).1] at g1; cases g1), rfl⟩ trivial rfl trivial (fun _ => rfl)
  refine CaseB.mk (fun k3 => ?_) (fun k3 => ?_)
  · skip
    have hx := opOk2 (p := p.pure) (o := o) (.inr (by simpa using k3))
    refine draw_start tabOk (by kernel_rfl) (by kernel_rfl) (by kernel_rfl) 200 [((0, 0), .v (p.h0.val p.sems.length)), ((1, 0), .v (.int .i64 o.kind)), ((1, 1), .v (.int .i64 o.on)), ((1, 2), .v (.int .i64 o.arg))] [0] [_] ⟨⟨_, rfl, rfl, (by first | exact trivial | exact Nat.le_of_ble_eq_true rfl)⟩, ⟨_, rfl, rfl, (by first | exact trivial | exact Nat.le_of_ble_eq_true rfl)⟩, ⟨_, rfl, rfl, (by first | exact trivial | exact Nat.le_of_ble_eq_true rfl)⟩, ⟨_, rfl, rfl, (by first | exact trivial | exact Nat.le_of_ble_eq_true rfl)⟩, trivial⟩ ⟨⟨_, rfl⟩, ⟨_, rfl⟩, ⟨_, rfl⟩, ⟨_, rfl⟩, trivial⟩ ⟨rfl, trivial⟩ rfl ?_
    refine d_call _ cl49 rfl rfl rfl rfl ⟨rfl, rfl⟩ (fun A w hW => opOn_c p.h0 p.sems.length o (A 1) w ⟨hW.var rfl rfl, trivial⟩) ?_
    rintro v L ⟨b, rfl, hb, rfl⟩
    refine CaseB.mk (fun g1 => ?_) (fun g1 => ?_)
    · obtain ⟨c1, c2⟩ := hb.1 g1
      have hlt : o.on.toNat < p.sems.length := by omega
      have e : p.pure.sems.getD o.on.toNat 0 = p.sems[o.on.toNat] := by simp [ProgH.pure, List.getD, hlt]
      refine CaseB.mk (fun g2 => ?_) (fun g2 => ?_)
      · have c3 : 1 ≤ o.arg := by simp at g2; omega
        refine d_idx (ti := tiOf tab) encInt tabOk rfl rfl rfl rfl rfl ⟨rfl, rfl⟩ (rdVia 0 rfl (.ofR (progO_sems p))) o.on.toNat (by omega) (by first | omega | (simp; done) | (simp; omega) | (unfold maxLen; omega) | (unfold maxLen; simp; done) | (unfold maxLen; simp; omega)) (fun ad => ?_)
        refine retw [] ⟨_, rfl, ?_, rfl⟩ trivial rfl trivial (fun _ => rfl)
        rw [hx, e]
        show _ ↔ (0 ≤ o.on ∧ o.on < (p.sems.length : Int)) ∧ _
        simp [c1, c2, c3]
      · have c3 : ¬ 1 ≤ o.arg := by simp at g2; omega
        exact retw [] ⟨_, rfl, tno fun e => c3 (hx.1 e).2.1, rfl⟩ trivial rfl trivial (fun _ => rfl)
    · exact retw [] ⟨_, rfl, tno fun e => (by rw [hb.2 (hx.1 e).1] at g1; cases g1), rfl⟩ trivial rfl trivial (fun _ => rfl)
  refine CaseB.mk (fun k4 => ?_) (fun k4 => ?_)
  · have hx := opOk4 (p := p.pure) (o := o) (by simpa using k4)
    refine CaseB.mk (fun g => ?_) (fun g => ?_)
    · have g1 : 0 ≤ o.on := by simp at g; omega
      refine CaseB.mk (fun g => ?_) (fun g => ?_)
      · have g2 : o.on ≤ 2 := by simp at g; omega
        refine stop_call _ cl36 rfl rfl rfl rfl ⟨rfl, rfl⟩ (fun A w hW => isValue_c _ w) ?_
        rintro v L ⟨rfl, rfl⟩
        exact retw [] ⟨_, rfl, by rw [hx]; simp [g1, g2], rfl⟩ trivial rfl trivial (fun _ => rfl)
      · have g2 : ¬ o.on ≤ 2 := by simp at g; omega
        exact retw [] ⟨_, rfl, tno fun e => g2 (hx.1 e).2.1, rfl⟩ trivial rfl trivial (fun _ => rfl)
    · have g1 : ¬ 0 ≤ o.on := by simp at g; omega
      exact retw [] ⟨_, rfl, tno fun e => g1 (hx.1 e).1, rfl⟩ trivial rfl trivial (fun _ => rfl)
  refine CaseB.mk (fun k5 => ?_) (fun k5 => ?_)
  · skip
    have hx := opOk5 (p := p.pure) (o := o) (by simpa using k5)
    refine stop_call _ cl49 rfl rfl rfl rfl ⟨rfl, rfl⟩ (fun A w hW => opOn_c p.h1 p.groups.length o (A 1) w ⟨hW.var rfl rfl, trivial⟩) ?_
    rintro v L ⟨b, rfl, hb, rfl⟩
    refine CaseB.mk (fun g1 => ?_) (fun g1 => ?_)
    rotate_left
    · exact retw [] ⟨_, rfl, tno fun e => (by rw [hb.2 (hx.1 e).1] at g1; cases g1), rfl⟩ trivial rfl trivial (fun _ => rfl)
    have c := hb.1 g1
    have c' : 0 ≤ o.on ∧ o.on < (p.pure.groups.length : Int) := c
    refine CaseB.mk (fun g2 => ?_) (fun g2 => ?_)
    · have c3 : -9 ≤ o.arg := by simp at g2; omega
      exact retw [] ⟨_, rfl, by rw [hx]; simp only [c', c3, true_and, and_self]; simp, rfl⟩ trivial rfl trivial (fun _ => rfl)
    · have c3 : ¬ -9 ≤ o.arg := by simp at g2; omega
      exact retw [] ⟨_, rfl, tno fun e => c3 (hx.1 e).2.1, rfl⟩ trivial rfl trivial (fun _ => rfl)
  refine CaseB.mk (fun k6 => ?_) (fun k6 => ?_)
  · skip
    have hx := opOk6 (p := p.pure) (o := o) (by simpa using k6)
    refine stop_call _ cl49 rfl rfl rfl rfl ⟨rfl, rfl⟩ (fun A w hW => opOn_c p.h1 p.groups.length o (A 1) w ⟨hW.var rfl rfl, trivial⟩) ?_
    rintro v L ⟨b, rfl, hb, rfl⟩
    refine CaseB.mk (fun g1 => ?_) (fun g1 => ?_)
    rotate_left
    · exact retw [] ⟨_, rfl, tno fun e => (by rw [hb.2 (hx.1 e).1] at g1; cases g1), rfl⟩ trivial rfl trivial (fun _ => rfl)
    have c := hb.1 g1
    have c' : 0 ≤ o.on ∧ o.on < (p.pure.groups.length : Int) := c
    exact retw [] ⟨_, rfl, by rw [hx]; simp only [c', true_and, and_self]; simp, rfl⟩ trivial rfl trivial (fun _ => rfl)
  refine CaseB.mk (fun k7 => ?_) (fun k7 => ?_)
  · skip
    have hx := opOk7 (p := p.pure) (o := o) (by simpa using k7)
    refine stop_call _ cl49 rfl rfl rfl rfl ⟨rfl, rfl⟩ (fun A w hW => opOn_c p.h2 p.barriers.length o (A 1) w ⟨hW.var rfl rfl, trivial⟩) ?_
    rintro v L ⟨b, rfl, hb, rfl⟩
    refine CaseB.mk (fun g1 => ?_) (fun g1 => ?_)
    rotate_left
    · exact retw [] ⟨_, rfl, tno fun e => (by rw [hb.2 (hx.1 e).1] at g1; cases g1), rfl⟩ trivial rfl trivial (fun _ => rfl)
    have c := hb.1 g1
    have c' : 0 ≤ o.on ∧ o.on < (p.pure.barriers.length : Int) := c
    exact retw [] ⟨_, rfl, by rw [hx]; simp only [c', true_and, and_self]; simp, rfl⟩ trivial rfl trivial (fun _ => rfl)
  refine CaseB.mk (fun k8 => ?_) (fun k8 => ?_)
  · skip
    have hx := opOk8 (p := p.pure) (o := o) (by simpa using k8)
    refine stop_call _ cl49 rfl rfl rfl rfl ⟨rfl, rfl⟩ (fun A w hW => opOn_c p.h3 p.rooms.length o (A 1) w ⟨hW.var rfl rfl, trivial⟩) ?_
    rintro v L ⟨b, rfl, hb, rfl⟩
    refine CaseB.mk (fun g1 => ?_) (fun g1 => ?_)
    rotate_left
    · exact retw [] ⟨_, rfl, tno fun e => (by rw [hb.2 (hx.1 e).1] at g1; cases g1), rfl⟩ trivial rfl trivial (fun _ => rfl)
    have c := hb.1 g1
    have c' : 0 ≤ o.on ∧ o.on < (p.pure.rooms.length : Int) := c
    refine stop_call _ cl36 rfl rfl rfl rfl ⟨rfl, rfl⟩ (fun A w hW => isValue_c _ w) ?_
    rintro v L ⟨rfl, rfl⟩
    exact retw [] ⟨_, rfl, by rw [hx]; simp only [c', true_and, and_self], rfl⟩ trivial rfl trivial (fun _ => rfl)
  refine CaseB.mk (fun k9 => ?_) (fun k9 => ?_)
  · refine CaseB.mk (fun _ => ?_) (fun g => by rw [k9] at g; cases g)
    have hx := opOk9 (p := p.pure) (o := o) (.inl (by simpa using k9))
    refine stop_call _ cl49 rfl rfl rfl rfl ⟨rfl, rfl⟩ (fun A w hW => opOn_c p.h3 p.rooms.length o (A 1) w ⟨hW.var rfl rfl, trivial⟩) ?_
    rintro v L ⟨b, rfl, hb, rfl⟩
    refine CaseB.mk (fun g1 => ?_) (fun g1 => ?_)
    rotate_left
    · exact retw [] ⟨_, rfl, tno fun e => (by rw [hb.2 (hx.1 e).1] at g1; cases g1), rfl⟩ trivial rfl trivial (fun _ => rfl)
    have c := hb.1 g1
    have c' : 0 ≤ o.on ∧ o.on < (p.pure.rooms.length : Int) := c
    exact retw [] ⟨_, rfl, by rw [hx]; simp only [c', true_and, and_self]; simp, rfl⟩ trivial rfl trivial (fun _ => rfl)
  refine CaseB.mk (fun k10 => ?_) (fun k10 => ?_)
  · skip
    have hx := opOk9 (p := p.pure) (o := o) (.inr (by simpa using k10))
    refine stop_call _ cl49 rfl rfl rfl rfl ⟨rfl, rfl⟩ (fun A w hW => opOn_c p.h3 p.rooms.length o (A 1) w ⟨hW.var rfl rfl, trivial⟩) ?_
    rintro v L ⟨b, rfl, hb, rfl⟩
    refine CaseB.mk (fun g1 => ?_) (fun g1 => ?_)
    rotate_left
    · exact retw [] ⟨_, rfl, tno fun e => (by rw [hb.2 (hx.1 e).1] at g1; cases g1), rfl⟩ trivial rfl trivial (fun _ => rfl)
    have c := hb.1 g1
    have c' : 0 ≤ o.on ∧ o.on < (p.pure.rooms.length : Int) := c
    exact retw [] ⟨_, rfl, by rw [hx]; simp only [c', true_and, and_self]; simp, rfl⟩ trivial rfl trivial (fun _ => rfl)
  have hno : ¬ OpOk p.pure o := opOk0 (by simp at k1 k2 k3 k4 k5 k6 k7 k8 k9 k10; omega)
  exact retw [] ⟨_, rfl, tno hno, rfl⟩ trivial rfl trivial (fun _ => rfl)

end Go.Proofs.Ytjkkoonennpceaa
