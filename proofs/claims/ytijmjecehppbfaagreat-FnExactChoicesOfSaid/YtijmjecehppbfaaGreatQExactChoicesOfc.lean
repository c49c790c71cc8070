/- FnExactChoicesOf: texts that its proof stands on, part 3. -/
import Derived.Laws.StructEq
import Derived.Laws.Strings
import Derived.Test.YtijmjecehppbfaaGreatQExactChoicesOfb
namespace Go.Sx
open Go Go.RowKit
structure Rd (f g : Fct) : Prop where
 p : ∀ w, f.P w → g.P w
 foot : ∀ b, g.foot b → f.foot b
theorem Rd.refl (f : Fct) : Rd f f := z144
theorem Rd.trans {f g e : Fct} (h : Rd f g) (k : Rd g e) : Rd f e := ⟨fun w x => k.p w (h.p w x), fun b x => h.foot b (k.foot b x)⟩
theorem Rd.aged (f : Fct) : Rd f f.aged := ⟨f.aged_out.1, f.aged_out.2⟩
theorem Rd.sl {o o' : Bool} {i : Sl} {sz n : Nat} {cs : List Value} : Rd (fSl o i sz cs n) (fSl o' i sz cs n) := z144
theorem Rd.own {o o' : Bool} {i : Sl} {e sz n : Nat} {cs : List Value} : Rd (fOwn o i e sz cs n) (fSl o' i sz cs n) := ⟨fun _ h => own_rd h, fun _ h => h.2⟩
theorem ob_st (G : List Fct) (w w' : World) (hb : ∀ b, (∃ f ∈ G, f.foot b) → w'.heap[b]? = w.heap[b]?) (h : (∀ f ∈ G, f.P w ∧ f.isOwn = true ∧ f.old = false) ∧ G.Pairwise Dj) : (∀ f ∈ G, f.P w' ∧ f.isOwn = true ∧ f.old = false) ∧ G.Pairwise Dj :=
 ⟨fun f hf => ⟨f.st w w' (fun b hfb => hb b ⟨f, hf, hfb⟩) (h.1 f hf).1, (h.1 f hf).2⟩, h.2⟩
abbrev fO (G : List Fct) : Fct := .other false true (fun b => ∃ f ∈ G, f.foot b) (fun w => (∀ f ∈ G, f.P w ∧ f.isOwn = true ∧ f.old = false) ∧ G.Pairwise Dj) (ob_st G)
abbrev fR (G : List Fct) : Fct := fB true (G.map Fct.aged)
def RdIn (G : List Fct) (g : Fct) : Prop := ∃ f ∈ G, Rd f.aged g
theorem RdIn.own {G : List Fct} {o o' : Bool} {i : Sl} {e sz n : Nat} {cs : List Value} (h : fOwn o i e sz cs n ∈ G) : RdIn G (fSl o' i sz cs n) := ⟨_, h, Rd.sl⟩
theorem Rd.ofO {G : List Fct} {g : Fct} (h : RdIn G g) : Rd (fO G) g := by
 obtain ⟨f, hf, h⟩ := h
 exact ⟨fun w hw => h.p w (f.aged_out.1 w (hw.1 f hf).1), fun b hb => ⟨f, hf, f.aged_out.2 b (h.foot b hb)⟩⟩
theorem Rd.ofR {G : List Fct} {g : Fct} (h : RdIn G g) : Rd (fR G) g := by
 obtain ⟨f, hf, h⟩ := h
 exact ⟨fun w hw => h.p w (hw _ (List.mem_map_of_mem hf)), fun b hb => ⟨_, List.mem_map_of_mem hf, h.foot b hb⟩⟩
theorem Rd.O_R {G G' : List Fct} (h : ∀ g ∈ G', g ∈ G) : Rd (fO G) (fR G') := by
 refine ⟨fun w hw g hg => ?_, ?_⟩
 · obtain ⟨f, hf, rfl⟩ := List.mem_map.1 hg
   exact f.aged_out.1 w (hw.1 f (h f hf)).1
 · rintro b ⟨g, hg, hb⟩
   obtain ⟨f, hf, rfl⟩ := List.mem_map.1 hg
   exact ⟨f, h f hf, f.aged_out.2 b hb⟩
theorem Rd.R_R {G G' : List Fct} (h : ∀ g ∈ G', g ∈ G) : Rd (fR G) (fR G') := by
 refine ⟨fun w hw g hg => ?_, ?_⟩
 · obtain ⟨f, hf, rfl⟩ := List.mem_map.1 hg
   exact hw _ (List.mem_map_of_mem (h f hf))
 · rintro b ⟨g, hg, hb⟩
   obtain ⟨f, hf, rfl⟩ := List.mem_map.1 hg
   exact ⟨_, List.mem_map_of_mem (h f hf), hb⟩
def Shift (F F' : List Fct) : Prop := ∀ (E : Env) (A : Nat → Nat) (n : Nat) (B : List (Nat × TypeId × Nat)) (M : List ((Nat × Nat) × SV)) (w : World), WD E A n B M F w → WD E A n B M F' w
theorem Shift.trans {F F' F'' : List Fct} (h : Shift F F') (k : Shift F' F'') : Shift F F'' := fun E A n B M w x => k E A n B M w (h E A n B M w x)
inductive DerO : Fct → List Fct → Prop
 | own {i : Sl} {e sz n : Nat} {cs : List Value} : DerO (fOwn false i e sz cs n) [fOwn false i e sz cs n]
 | o {G : List Fct} : DerO (fO G) G
theorem DerO.out {f : Fct} {G : List Fct} (h : DerO f G) : (∀ w, f.P w → (∀ g ∈ G, g.P w ∧ g.isOwn = true ∧ g.old = false) ∧ G.Pairwise Dj) ∧ (∀ g ∈ G, ∀ b, g.foot b → f.foot b) ∧ f.isOwn = true ∧ f.old = false := by
 cases h with
 | own => exact ⟨fun w h => ⟨fun g hg => by obtain rfl := List.mem_singleton.1 hg; exact ⟨h, rfl, rfl⟩, List.pairwise_singleton _ _⟩, fun g hg b hb => by obtain rfl := List.mem_singleton.1 hg; exact hb, rfl, rfl⟩
 | o => exact ⟨fun w h => h, fun g hg b hb => ⟨g, hg, hb⟩, rfl, rfl⟩
def FJ (F : List Fct) : List Nat → List (List Fct) → Prop
 | [], [] => True
 | j :: jx, G :: r => ((∃ f, F[j]? = some f ∧ DerO f G) ∨ (F.length ≤ j ∧ ∀ g ∈ G, nilFact g)) ∧ FJ F jx r
 | _, _ => False
theorem nil_foot {g : Fct} (h : nilFact g) : ∀ b, ¬ g.foot b := by
 cases g with
 | own old i e sz cs n => obtain ⟨_, rfl, _⟩ := h; rintro b ⟨ad, h, _⟩; cases h
 | _ => exact h.elim
theorem nil_own {g : Fct} (h : nilFact g) : g.isOwn = true := by
 cases g with
 | own => rfl
 | _ => exact h.elim
theorem nil_pairwise {G : List Fct} (h : ∀ g ∈ G, nilFact g) : G.Pairwise Dj := by
 rw [List.pairwise_iff_getElem]
 intro i j hi hj _ _ b hb
 exact (nil_foot (h _ (List.getElem_mem hi)) b hb).elim
theorem FJ_len {F : List Fct} : ∀ {ix : List Nat} {Gs : List (List Fct)}, FJ F ix Gs → ix.length = Gs.length
 | [], [], _ => rfl
 | [], _ :: _, h => h.elim
 | _ :: _, [], h => h.elim
 | _ :: _, _ :: _, h => by simp [FJ_len h.2]
theorem FJ_get {F : List Fct} : ∀ {ix : List Nat} {Gs : List (List Fct)}, FJ F ix Gs → ∀ (p j : Nat) (G : List Fct), ix[p]? = some j → Gs[p]? = some G → (∃ f, F[j]? = some f ∧ DerO f G) ∨ ∀ g ∈ G, nilFact g
 | [], _, _, p, j, G, h, _ => by simp at h
 | _ :: _, [], h, _, _, _, _, _ => h.elim
 | i :: ix, G :: r, h, p, j, G', h1, h2 => by
   cases p with
   | zero =>
     simp at h1 h2
     subst h1; subst h2
     exact h.1.imp id (·.2)
   | succ p => exact FJ_get h.2 p j G' (by simpa using h1) (by simpa using h2)
section
variable {E : Env} {A : Nat → Nat} {T : List (Nat × SV)} {n c : Nat} {B : List (Nat × TypeId × Nat)} {M Ms : List ((Nat × Nat) × SV)} {F F' Fs : List Fct} {o : Oper} {next : St → Prop} {w : World}
theorem Shift.splitO (k : Nat) {L G G' : List Fct} (hk : F[k]? = some (fO G)) (hp : G.Perm (L ++ G')) : Shift F (L ++ fO G' :: F.eraseIdx k) := by
 intro E A n B M w h
 obtain ⟨⟨h1, hpw⟩, h2, h3⟩ := h.fct _ (List.mem_of_getElem? hk)
 have hsub := h.sub (eraseIdx_sub F k)
 have hdj := pairwise_nth_erase h.dj hk
 have hpw' := (hp.pairwise_iff (fun h => Dj.symm h)).1 hpw
 rw [List.pairwise_append] at hpw'
 obtain ⟨q1, q2, q3⟩ := hpw'
 have hL : ∀ f ∈ L, f ∈ G := fun f hf => hp.mem_iff.2 (List.mem_append_left _ hf)
 have hG' : ∀ f ∈ G', f ∈ G := fun f hf => hp.mem_iff.2 (List.mem_append_right _ hf)
 refine ⟨h.key, h.inj, h.mem, h.a0, h.n0, h.ext, fun f hf => ?_, ?_⟩
 · rcases List.mem_append.1 hf with hf | hf
   · exact ⟨(h1 f (hL f hf)).1, fun b hb => h2 b ⟨f, hL f hf, hb⟩, fun _ b hb => h3 rfl b ⟨f, hL f hf, hb⟩⟩
   · rcases List.mem_cons.1 hf with rfl | hf
     · refine ⟨⟨fun g hg => h1 g (hG' g hg), q2⟩, ?_, ?_⟩
       · rintro b ⟨g, hg, hb⟩; exact h2 b ⟨g, hG' g hg, hb⟩
       · rintro _ b ⟨g, hg, hb⟩; exact h3 rfl b ⟨g, hG' g hg, hb⟩
     · exact hsub.fct f hf
 · rw [List.pairwise_append]
   refine ⟨q1, ?_, fun f hf g hg ho b hb hb' => ?_⟩
   · rw [List.pairwise_cons]
     refine ⟨fun f hf ho b hb hb' => ?_, hsub.dj⟩
     obtain ⟨g, hg, hgb⟩ := hb
     exact hdj f hf (.inl rfl) b ⟨g, hG' g hg, hgb⟩ hb'
   · rcases List.mem_cons.1 hg with rfl | hg
     · obtain ⟨g, hg, hgb⟩ := hb'
       exact q3 f hf g hg (.inl (h1 f (hL f hf)).2.1) b hb hgb
     · exact hdj g hg (.inl rfl) b ⟨f, hL f hf, hb⟩ hb'
theorem Shift.joinO (ix : List Nat) {Gs : List (List Fct)} (hG : FJ F ix Gs) (hix : nodupB ix = true) {G : List Fct} (hp : Gs.flatten.Perm G) : Shift F (fO G :: dropAt ix 0 F) := by
 intro E A n B M w h
 have hsub := h.sub (dropAt_sub ix F 0)
 have hnd := nodupB_ok hix
 have hlen := FJ_len hG
 have hmem : ∀ g ∈ Gs.flatten, g.isOwn = true ∧ g.old = false ∧ ((∃ i ∈ ix, ∃ f, F[i]? = some f ∧ f.isOwn = true ∧ f.old = false ∧ g.P w ∧ ∀ b, g.foot b → f.foot b) ∨ nilFact g) := by
   intro g hg
   obtain ⟨G0, h0, hg0⟩ := List.mem_flatten.1 hg
   obtain ⟨p, hpp⟩ := List.getElem?_of_mem h0
   have hplt : p < ix.length := by rw [hlen]; exact (List.getElem?_eq_some_iff.1 hpp).1
   rcases FJ_get hG p ix[p] G0 (List.getElem?_eq_getElem hplt) hpp with ⟨f, hf, hd⟩ | hn
   · obtain ⟨d1, d2, d3, d4⟩ := hd.out
     have hfw := (h.nth _ hf).1
     exact ⟨((d1 w hfw).1 g hg0).2.1, ((d1 w hfw).1 g hg0).2.2, .inl ⟨_, List.getElem_mem hplt, f, hf, d3, d4, ((d1 w hfw).1 g hg0).1, d2 g hg0⟩⟩
   · exact ⟨nil_own (hn g hg0), (nilFact_ok (hn g hg0) w).2.2, .inr (hn g hg0)⟩
 have hpw : Gs.flatten.Pairwise Dj := by
   rw [List.pairwise_flatten]
   refine ⟨fun l hl => ?_, ?_⟩
   · obtain ⟨p, hpp⟩ := List.getElem?_of_mem hl
     have hplt : p < ix.length := by rw [hlen]; exact (List.getElem?_eq_some_iff.1 hpp).1
     rcases FJ_get hG p ix[p] l (List.getElem?_eq_getElem hplt) hpp with ⟨f, hf, hd⟩ | hn
     · exact (hd.out.1 w (h.nth _ hf).1).2
     · exact nil_pairwise hn
   · rw [List.pairwise_iff_getElem]
     intro p q hp' hq' hpq x hx y hy _ b hb hb'
     have hpi : p < ix.length := by rw [hlen]; exact hp'
     have hqi : q < ix.length := by rw [hlen]; exact hq'
     rcases FJ_get hG p ix[p] _ (List.getElem?_eq_getElem hpi) (List.getElem?_eq_getElem hp') with ⟨f, hf, hd⟩ | hn
     · rcases FJ_get hG q ix[q] _ (List.getElem?_eq_getElem hqi) (List.getElem?_eq_getElem hq') with ⟨f', hf', hd'⟩ | hn
       · have hne : ix[p] ≠ ix[q] := List.pairwise_iff_getElem.1 hnd p q hpi hqi hpq
         exact pairwise_pick h.dj hne hf hf' (.inl hd.out.2.2.1) b (hd.out.2.1 x hx b hb) (hd'.out.2.1 y hy b hb')
       · exact nil_foot (hn y hy) b hb'
     · exact nil_foot (hn x hx) b hb
 have hm' : ∀ g ∈ G, g ∈ Gs.flatten := fun g hg => hp.mem_iff.2 hg
 refine ⟨hsub.key, hsub.inj, hsub.mem, hsub.a0, hsub.n0, hsub.ext, fun f hf => ?_, ?_⟩
 · rcases List.mem_cons.1 hf with rfl | hf
   · refine ⟨⟨fun g hg => ?_, (hp.pairwise_iff (fun h => Dj.symm h)).1 hpw⟩, ?_, ?_⟩
     · obtain ⟨m1, m2, m3⟩ := hmem g (hm' g hg)
       refine ⟨?_, m1, m2⟩
       rcases m3 with ⟨i, _, f, _, _, _, hgP, _⟩ | hn
       · exact hgP
       · exact (nilFact_ok hn w).1
     · rintro b ⟨g, hg, hb⟩
       rcases (hmem g (hm' g hg)).2.2 with ⟨i, _, f, hf, _, _, _, hfoot⟩ | hn
       · exact (h.fct _ (List.mem_of_getElem? hf)).2.1 b (hfoot b hb)
       · exact (nil_foot hn b hb).elim
     · rintro _ b ⟨g, hg, hb⟩
       rcases (hmem g (hm' g hg)).2.2 with ⟨i, _, f, hf, _, hold, _, hfoot⟩ | hn
       · exact (h.fct _ (List.mem_of_getElem? hf)).2.2 hold b (hfoot b hb)
       · exact (nil_foot hn b hb).elim
   · exact hsub.fct f hf
 · rw [List.pairwise_cons]
   refine ⟨fun r hr ho b hb hb' => ?_, hsub.dj⟩
   obtain ⟨g, hg, hgb⟩ := hb
   rcases (hmem g (hm' g hg)).2.2 with ⟨i, hi, f, hf, hown, _, _, hfoot⟩ | hn
   · obtain ⟨j, hj1, hj2⟩ := dropAt_at ix F 0 r hr
     rw [Nat.zero_add] at hj2
     exact pairwise_pick h.dj (fun e => hj2 (by rw [← e]; exact hi)) hf hj1 (.inl hown) b (hfoot b hgb) hb'
   · exact nil_foot hn b hgb
theorem Shift.read (k : Nat) {f g : Fct} (hk : F[k]? = some f) (hf : f.isOwn = false) (hg : g.isOwn = false) (ho : f.old = g.old) (h : Rd f g) : Shift F (g :: F) := by
 intro E A n B M w hW
 obtain ⟨h1, h2, h3⟩ := hW.fct _ (List.mem_of_getElem? hk)
 refine ⟨hW.key, hW.inj, hW.mem, hW.a0, hW.n0, hW.ext, fun f' hf' => ?_, ?_⟩
 · rcases List.mem_cons.1 hf' with rfl | hf'
   · exact ⟨h.p w h1, fun b hb => h2 b (h.foot b hb), fun e b hb => h3 (ho.trans e) b (h.foot b hb)⟩
   · exact hW.fct f' hf'
 · rw [List.pairwise_cons]
   refine ⟨fun r hr hor b hb hb' => ?_, hW.dj⟩
   rw [hg] at hor
   rcases hor with hor | hor
   · cases hor
   · obtain ⟨j, hj, rfl⟩ := List.getElem_of_mem hr
     have hj' : F[j]? = some F[j] := List.getElem?_eq_getElem hj
     by_cases e : k = j
     · subst e
       rw [hk] at hj'
       injection hj' with hj'
       rw [← hj', hf] at hor
       cases hor
     · exact pairwise_pick hW.dj e hk hj' (.inr hor) b (h.foot b hb) hb'
theorem Shift.pick (ix : List Nat) (hF : FW F ix F') (hix : nodupB ix = true) : Shift F F' := fun _ _ _ _ _ _ h => h.pick ix hF hix
theorem stop_shift (h : Shift F F') (k : OpW (opStop E o next T n c B M F')) : OpW (opStop E o next T n c B M F) := ⟨fun A a w hW hT => k.out A a w (h E A n B M w hW) hT⟩
theorem weak_shift {s : St} (h : Shift F F') (k : Weak E (.mk T n c B M F') s) : Weak E (.mk T n c B M F) s := fun a w ⟨A, hW, hT⟩ => k a w ⟨A, h E A n B M w hW, hT⟩
theorem ret_shift {X : (Nat → Nat) → World → Prop} (h : Shift F F') (k : RetW (∀ A w, WD E A n B M F' w → X A w)) : RetW (∀ A w, WD E A n B M F w → X A w) := ⟨fun A w hW => k.out A w (h E A n B M w hW)⟩
theorem draw_shift {X : Act → World → Prop} (h : Shift F F') (k : DrawW (∀ a w, Den E (.mk T n c B M F') a w → X a w)) : DrawW (∀ a w, Den E (.mk T n c B M F) a w → X a w) := ⟨fun a w ⟨A, hW, hT⟩ => k.out a w ⟨A, h E A n B M w hW, hT⟩⟩
theorem d_shift (h : Shift F F') (hkeep : keepF Fs F → keepF Fs F') (k : OpW (opD E o Ms Fs next T n c B M F')) : OpW (opD E o Ms Fs next T n c B M F) :=
 ⟨fun hm hf A a w hW hT => k.out hm (hkeep hf) A a w (h E A n B M w hW) hT⟩
theorem WD.get (h : WD E A n B M F w) (k : Nat) {f g : Fct} (hk : F[k]? = some f) (r : Rd f g) : g.P w ∧ ∀ b, g.foot b → b < w.heap.size :=
 ⟨r.p w (h.nth k hk).1, fun b hb => (h.nth k hk).2 b (r.foot b hb)⟩
theorem rdVia {F : List Fct} (k : Nat) {f : Fct} (hk : F[k]? = some f) {o : Bool} {i : Sl} {sz m : Nat} {cs : List Value} (r : Rd f (fSl o i sz cs m)) : ∀ w, (∀ f ∈ F, f.P w) → RdS w i sz cs m :=
 fun w h => r.p w (h f (List.mem_of_getElem? hk))
end
end Go.Sx
namespace Go.Proofs.YtijmjecehppbfaaGreat
open Go Go.Sx Go.RowKit
structure Waiter where
 t : Int
 n : Int
 deriving DecidableEq
def cWaiter (l : Waiter) : List Value := [.int .i64 l.t, .int .i64 l.n]
theorem encWaiter : Enc cWaiter 2 := ⟨fun _ => rfl, fun _ u hu => by simp [cWaiter] at hu; rcases hu with rfl | rfl <;> rfl⟩
structure Sem where
 free : Int
 limit : Int
 queue : List Waiter
 deriving DecidableEq
structure Once where
 state : Int
 owner : Int
 value : Int
 waits : List Int
 deriving DecidableEq
structure Group where
 count : Int
 waits : List Int
 deriving DecidableEq
structure Barrier where
 parties : Int
 round : Int
 waits : List Int
 deriving DecidableEq
def semV (m : Sem) (q : Sl) : Value := .agg #[.int .i64 m.free, .int .i64 m.limit, q.val m.queue.length]
def onceV (m : Once) (q : Sl) : Value := .agg #[.int .i64 m.state, .int .i64 m.owner, .int .i64 m.value, q.val m.waits.length]
def groupV (m : Group) (q : Sl) : Value := .agg #[.int .i64 m.count, q.val m.waits.length]
def barrierV (m : Barrier) (q : Sl) : Value := .agg #[.int .i64 m.parties, .int .i64 m.round, q.val m.waits.length]
def nestO {α : Type} (h : Sl) (ty : TypeId) (enc : α → List Value) (sz : Nat) (inner : α → List Fct) (xs : List α) : List Fct := own h ty enc sz xs :: xs.flatMap inner
theorem nest_in {α : Type} {h : Sl} {ty : TypeId} {enc : α → List Value} {sz : Nat} {inner : α → List Fct} {xs : List α} {j : Nat} (hj : j < xs.length) {f : Fct} (hf : f ∈ inner xs[j]) : f ∈ nestO h ty enc sz inner xs :=
 List.mem_cons_of_mem _ (List.mem_flatMap.2 ⟨_, List.getElem_mem hj, hf⟩)
theorem nest_h {α : Type} {h : Sl} {ty : TypeId} {enc : α → List Value} {sz : Nat} {inner : α → List Fct} {xs : List α} : RdIn (nestO h ty enc sz inner xs) (slo h enc sz xs) := RdIn.own (List.mem_cons_self ..)
structure SemH where
 m : Sem
 q : Sl
structure OnceH where
 m : Once
 q : Sl
structure GroupH where
 m : Group
 q : Sl
structure BarrierH where
 m : Barrier
 q : Sl
structure ChanH where
 m : Chan
 q0 : Sl
 q1 : Sl
 q2 : Sl
def cSemH (x : SemH) : List Value := [.int .i64 x.m.free, .int .i64 x.m.limit, x.q.val x.m.queue.length]
def cOnceH (x : OnceH) : List Value := [.int .i64 x.m.state, .int .i64 x.m.owner, .int .i64 x.m.value, x.q.val x.m.waits.length]
def cGroupH (x : GroupH) : List Value := [.int .i64 x.m.count, x.q.val x.m.waits.length]
def cBarrierH (x : BarrierH) : List Value := [.int .i64 x.m.parties, .int .i64 x.m.round, x.q.val x.m.waits.length]
def cChanH (x : ChanH) : List Value := [.int .i64 x.m.room, x.q0.val x.m.items.length, x.q1.val x.m.senders.length, x.q2.val x.m.getters.length, .bool x.m.closed]
theorem encSemH : Enc cSemH 3 := ⟨fun _ => rfl, fun _ u hu => by simp [cSemH] at hu; rcases hu with rfl | rfl | rfl <;> rfl⟩
theorem encOnceH : Enc cOnceH 4 := ⟨fun _ => rfl, fun _ u hu => by simp [cOnceH] at hu; rcases hu with rfl | rfl | rfl | rfl <;> rfl⟩
theorem encGroupH : Enc cGroupH 2 := ⟨fun _ => rfl, fun _ u hu => by simp [cGroupH] at hu; rcases hu with rfl | rfl <;> rfl⟩
theorem encBarrierH : Enc cBarrierH 3 := ⟨fun _ => rfl, fun _ u hu => by simp [cBarrierH] at hu; rcases hu with rfl | rfl | rfl <;> rfl⟩
theorem encChanH : Enc cChanH 5 := ⟨fun _ => rfl, fun _ u hu => by simp [cChanH] at hu; rcases hu with rfl | rfl | rfl | rfl | rfl <;> rfl⟩
def semO (x : SemH) : List Fct := [own x.q 184 cWaiter 2 x.m.queue]
def onceO (x : OnceH) : List Fct := [own x.q 3 cInt 1 x.m.waits]
def groupO (x : GroupH) : List Fct := [own x.q 3 cInt 1 x.m.waits]
def barrierO (x : BarrierH) : List Fct := [own x.q 3 cInt 1 x.m.waits]
def chanO (x : ChanH) : List Fct := [own x.q0 3 cInt 1 x.m.items, own x.q1 187 cLet 2 x.m.senders, own x.q2 3 cInt 1 x.m.getters]
def semsO (h : Sl) (xs : List SemH) : List Fct := nestO h 95 cSemH 3 semO xs
def oncesO (h : Sl) (xs : List OnceH) : List Fct := nestO h 102 cOnceH 4 onceO xs
def groupsO (h : Sl) (xs : List GroupH) : List Fct := nestO h 108 cGroupH 2 groupO xs
def barriersO (h : Sl) (xs : List BarrierH) : List Fct := nestO h 114 cBarrierH 3 barrierO xs
def chansO (h : Sl) (xs : List ChanH) : List Fct := nestO h 119 cChanH 5 chanO xs
theorem semsO_0 (h : Sl) (xs : List SemH) (j : Nat) (hj : j < xs.length) : RdIn (semsO h xs) (slo (xs[j]).q cWaiter 2 (xs[j]).m.queue) := RdIn.own (nest_in hj (List.mem_cons_self ..))
theorem oncesO_0 (h : Sl) (xs : List OnceH) (j : Nat) (hj : j < xs.length) : RdIn (oncesO h xs) (slo (xs[j]).q cInt 1 (xs[j]).m.waits) := RdIn.own (nest_in hj (List.mem_cons_self ..))
theorem groupsO_0 (h : Sl) (xs : List GroupH) (j : Nat) (hj : j < xs.length) : RdIn (groupsO h xs) (slo (xs[j]).q cInt 1 (xs[j]).m.waits) := RdIn.own (nest_in hj (List.mem_cons_self ..))
theorem barriersO_0 (h : Sl) (xs : List BarrierH) (j : Nat) (hj : j < xs.length) : RdIn (barriersO h xs) (slo (xs[j]).q cInt 1 (xs[j]).m.waits) := RdIn.own (nest_in hj (List.mem_cons_self ..))
theorem chansO_0 (h : Sl) (xs : List ChanH) (j : Nat) (hj : j < xs.length) : RdIn (chansO h xs) (slo (xs[j]).q0 cInt 1 (xs[j]).m.items) := RdIn.own (nest_in hj (List.mem_cons_self ..))
theorem chansO_1 (h : Sl) (xs : List ChanH) (j : Nat) (hj : j < xs.length) : RdIn (chansO h xs) (slo (xs[j]).q1 cLet 2 (xs[j]).m.senders) := RdIn.own (nest_in hj (List.mem_cons_of_mem _ (List.mem_cons_self ..)))
theorem chansO_2 (h : Sl) (xs : List ChanH) (j : Nat) (hj : j < xs.length) : RdIn (chansO h xs) (slo (xs[j]).q2 cInt 1 (xs[j]).m.getters) := RdIn.own (nest_in hj (List.mem_cons_of_mem _ (List.mem_cons_of_mem _ (List.mem_cons_self ..))))
def szList {α : Type} (f : α → Int → Int) : List α → Int → Int
 | [], l => l
 | x :: r, l => if f x l < 0 then -1 else szList f r (f x l)
def szAll {α : Type} (f : α → Int → Int) (xs : List α) (l : Int) : Int := if l - xs.length < 0 then -1 else szList f xs (l - xs.length)
theorem szList_all {α : Type} {f : α → Int → Int} {P : α → Prop} (hf : ∀ x l, l ≤ 1048576 → ¬ f x l < 0 → P x ∧ f x l ≤ l) : ∀ {xs : List α} {l : Int}, l ≤ 1048576 → ¬ szList f xs l < 0 → (∀ x ∈ xs, P x) ∧ szList f xs l ≤ l
 | [], l, hl, h => ⟨by simp, Int.le_refl _⟩
 | x :: r, l, hl, h => by
   simp only [szList] at h ⊢
   split at h
   · omega
   · rename_i h1
     obtain ⟨g1, g2⟩ := hf x l hl h1
     obtain ⟨k1, k2⟩ := szList_all hf (Int.le_trans g2 hl) h
     rw [if_neg h1]
     refine ⟨fun y hy => ?_, Int.le_trans k2 g2⟩
     rcases List.mem_cons.1 hy with rfl | hy
     · exact g1
     · exact k1 y hy
theorem szAll_all {α : Type} {f : α → Int → Int} {P : α → Prop} (hf : ∀ x l, l ≤ 1048576 → ¬ f x l < 0 → P x ∧ f x l ≤ l) {xs : List α} {l : Int} (hl : l ≤ 1048576) (h : ¬ szAll f xs l < 0) : xs.length ≤ 1048576 ∧ (∀ x ∈ xs, P x) ∧ szAll f xs l ≤ l := by
 unfold szAll at h ⊢
 split at h
 · omega
 · rename_i h1
   obtain ⟨k1, k2⟩ := szList_all hf (l := l - xs.length) (by omega) h
   rw [if_neg h1]
   exact ⟨by omega, k1, by omega⟩
theorem map_take_succ {α β : Type} {f : α → β} {xs : List α} {ys : List β} {k : Nat} (hk : k < xs.length) (h : ys = (xs.map f).take k) {y : β} (hy : y = f xs[k]) : ys ++ [y] = (xs.map f).take (k + 1) := by
 subst hy; subst h
 rw [List.take_succ_eq_append_getElem (by simpa using hk), List.getElem_map]
theorem e_wrap {x : Int} (h0 : -9223372036854775808 ≤ x) (h : x < 9223372036854775808) : IntKind.i64.wrap x = x := by
 rw [IntKind.wrap_i64]; omega
theorem e_succ (k n : Nat) (h : k < n) (hn : n ≤ 4611686018427387904) : IntKind.i64.wrap ((k : Int) + 1) = ((k + 1 : Nat) : Int) := by
 rw [IntKind.wrap_i64]; omega
theorem e_take {α : Type} {xs ys : List α} {k : Nat} (h : xs.take k = ys.take k) (hx : k < xs.length) (hy : k < ys.length) : (xs[k] = ys[k] → xs.take (k + 1) = ys.take (k + 1)) ∧ (xs[k] ≠ ys[k] → xs ≠ ys) := by
 refine ⟨fun e => by rw [List.take_succ_eq_append_getElem hx, List.take_succ_eq_append_getElem hy, h, e], fun e he => ?_⟩
 subst he
 exact e rfl
def szN (k : Nat) (left : Int) : Int := if left - k < 0 then -1 else left - k
set_option maxRecDepth 100000 in
theorem szIntS_c (i : Sl) (xs : List Int) (left : Int) (w : World) (h : At w [slo i cInt 1 xs]) (h0 : -1 ≤ left) (h1 : left ≤ 1048576) :
   Calls Tryz.prog 51 #[i.val xs.length, .int .i64 left] w (Ret w fun v L => v = .int .i64 (szN xs.length left) ∧ L = []) := by
 obtain ⟨⟨⟨_, b1, b2, _⟩, _⟩, _⟩ := h
 unfold maxLen at b2
 have e : IntKind.i64.wrap (left - (xs.length : Int)) = left - xs.length := e_wrap (by omega) (by omega)
 refine calls2 Tryz.func51 rfl tabOk w _ rfl _ rfl [] trivial trivial _ _ (by decide) ?_
 refine CaseB.mk (fun h => ?_) (fun h => ?_)
 · rw [e] at h
   have h2 : left - (xs.length : Int) < 0 := by simpa using h
   exact ret0 ⟨by rw [szN, if_pos h2], rfl⟩ (fun _ => rfl)
 · rw [e] at h
   have h2 : ¬ left - (xs.length : Int) < 0 := by simpa using h
   refine ret0 ⟨by rw [szN, if_neg h2], rfl⟩ (fun _ => ?_)
   simp only [resV, SV.den, e]
set_option maxRecDepth 100000 in
theorem toIntS_c (i : Sl) (xs : List Int) (w : World) (h : At w [slo i cInt 1 xs]) (hb : xs.length ≤ 1048576) :
   Calls Tryz.prog 20 #[i.val xs.length] w (Ret w fun v L => ∃ y : Sl, v = y.val xs.length ∧ L = [own y 3 cInt 1 xs]) := by
 refine calls1 Tryz.func20 rfl tabOk w _ rfl _ rfl _ h ⟨rfl, rfl, trivial⟩ _ (by decide) ?_
 refine stop_make encInt 0 tabOk rfl rfl rfl rfl rfl (by decide) ⟨rfl, rfl⟩ xs.length rfl z45 z45 (fun y => ?_)
 refine LoopW.mk ⟨{ k : Nat // k ≤ xs.length },
   fun k => .mk [(0, .v (i.val xs.length)), (3, .v (y.val (xs.take k.1 ++ List.replicate (xs.length - k.1) 0).length)), (4, .v (.int .i64 (k.1 : Int)))] 0 0 [] [] [own y 3 cInt 1 (xs.take k.1 ++ List.replicate (xs.length - k.1) 0), slo i cInt 1 xs],
   fun k => xs.length - k.1, ⟨0, Nat.zero_le _⟩, ?_, ?_⟩
 · exact weak_mk [0, 1] zw8 zw0 zw8 zw5 zw26 rfl rfl
 · rintro ⟨k, hk⟩
   refine CaseB.mk (fun h => ?_) (fun h => ?_)
   · have hlt : k < xs.length := by simpa using h
     have hT : (xs.take k ++ List.replicate (xs.length - k) 0).set k xs[k] = xs.take (k + 1) ++ List.replicate (xs.length - (k + 1)) 0 := by
       rw [List.set_append_right _ _ z96, List.take_succ_eq_append_getElem hlt, show k - (List.take k xs).length = 0 by simp; omega, show xs.length - k = (xs.length - (k + 1)) + 1 by omega, List.replicate_succ, List.append_assoc]
       rfl
     refine stop_idx encInt tabOk rfl rfl rfl rfl rfl ⟨rfl, rfl⟩ z38 k rfl z45 (fun ad => ?_)
     refine stop_idxW encInt 0 tabOk rfl rfl rfl rfl rfl ⟨rfl, rfl⟩ rfl z88 k rfl z45 (fun g hg => ?_)
     refine stop_storeW encInt 0 tabOk rfl rfl rfl rfl rfl rfl rfl rfl hg k 0 (xs[k]) rfl z45 rfl [.int .i64 (xs[k])] (fun _ => rfl) rfl ?_
     have hw := e_succ k _ hlt (by omega)
     refine ⟨⟨k + 1, by omega⟩, ?_, by simp; omega⟩
     exact weak_mk [0, 1] zw7 zw0 zw7 zw5 zw23 rfl rfl
   · have hge : xs.length ≤ k := by simpa using h
     have hT : xs.take k ++ List.replicate (xs.length - k) 0 = xs := by rw [List.take_of_length_le hge, show xs.length - k = 0 by omega]; simp
     exact retw [0] ⟨y, rfl, rfl⟩ z141 rfl ⟨rfl, trivial⟩ (fun _ => z83)
set_option maxRecDepth 100000 in
theorem eqIntS_c (i j : Sl) (xs ys : List Int) (w : World) (h : At w [slo i cInt 1 xs, slo j cInt 1 ys]) (hb : xs.length ≤ 4294967296) (hb2 : ys.length ≤ 4294967296) :
   Calls Tryz.prog 22 #[i.val xs.length, j.val ys.length] w (Ret w fun v L => v = .bool (decide (xs = ys)) ∧ L = []) := by
 refine calls2 Tryz.func22 rfl tabOk w _ rfl _ rfl _ h ⟨rfl, rfl, rfl, rfl, trivial⟩ _ _ (by decide) ?_
 refine CaseB.mk (fun h => ?_) (fun h => ?_)
 · have hne : xs ≠ ys := by rintro rfl; simp at h
   refine ret0 ⟨?_, rfl⟩ (fun _ => rfl)
   simp [hne]
 · have hl : xs.length = ys.length := by simp at h; omega
   refine LoopW.mk ⟨{ k : Nat // k ≤ xs.length ∧ xs.take k = ys.take k },
     fun p => .mk [(0, .v (i.val xs.length)), (1, .v (j.val ys.length)), (5, .v (.int .i64 p.1))] 0 0 [] [] [slo i cInt 1 xs, slo j cInt 1 ys],
     fun p => xs.length - p.1, ⟨0, Nat.zero_le _, rfl⟩, ?_, ?_⟩
   · exact weak_mk [0, 1] zw2 zw0 zw2 zw5 zw4 rfl rfl
   · rintro ⟨k, hk, he⟩
     refine CaseB.mk (fun h => ?_) (fun h => ?_)
     · have hlt : k < xs.length := by simpa using h
       have hlt2 : k < ys.length := by omega
       obtain ⟨q1, q2⟩ := e_take he hlt hlt2
       refine draw_start tabOk z97 z97 z97 200 [] [0, 1] [_, _] trivial trivial ⟨rfl, rfl, trivial⟩ rfl ?_
       refine d_idx (ti := tiOf tab) encInt tabOk rfl rfl rfl rfl rfl ⟨rfl, rfl⟩ z38 k rfl z45 (fun ad => ?_)
       refine d_idx (ti := tiOf tab) encInt tabOk rfl rfl rfl rfl rfl ⟨rfl, rfl⟩ z38 k rfl z45 (fun ad2 => ?_)
       refine CaseB.mk (fun h => ?_) (fun h => ?_)
       · have hne := q2 z91
         refine ret0 ⟨?_, rfl⟩ (fun _ => rfl)
         simp [hne]
       · have heq := q1 z91
         have hw := e_succ k _ hlt (by omega)
         refine ⟨⟨k + 1, by omega, heq⟩, ?_, by simp; omega⟩
         exact weak_mk [0, 1] zw1 zw0 zw1 zw5 zw3 rfl rfl
     · have hge : xs.length ≤ k := by simpa using h
       have heq : xs = ys := by rw [List.take_of_length_le hge, List.take_of_length_le (by omega)] at he; exact he
       refine ret0 ⟨?_, rfl⟩ (fun _ => rfl)
       simp [heq]
def marks (k : Nat) : Nat → List Int
 | 0 => []
 | n + 1 => (k : Int) :: marks (k + 1) n
theorem marks_len (k n : Nat) : (marks k n).length = n := by
 induction n generalizing k with
 | zero => rfl
 | succ n ih => simp [marks, ih]
theorem marks_get (k n j : Nat) (hj : j < n) : (marks k n)[j]? = some ((k + j : Nat) : Int) := by
 induction n generalizing k j with
 | zero => omega
 | succ n ih =>
   cases j with
   | zero => simp [marks]
   | succ j => simp only [marks, List.getElem?_cons_succ]; rw [ih (k + 1) j (by omega)]; congr 2; omega
theorem marks_set (xs : List Int) (k j : Nat) (hj : j < xs.length) : (marks k j ++ xs.drop j).set j ((k + j : Nat) : Int) = marks k (j + 1) ++ xs.drop (j + 1) := by
 have h1 : marks k (j + 1) = marks k j ++ [((k + j : Nat) : Int)] := by
   apply List.ext_getElem?
   intro q
   rcases Nat.lt_or_ge q j with hq | hq
   · rw [List.getElem?_append_left (by rw [marks_len]; exact hq), marks_get _ _ _ hq, marks_get _ _ _ (by omega)]
   · rcases Nat.eq_or_lt_of_le hq with rfl | hq
     · rw [marks_get _ _ _ (by omega), List.getElem?_append_right (by rw [marks_len]; exact Nat.le_refl _), marks_len]; simp
     · rw [List.getElem?_eq_none (by rw [marks_len]; omega), List.getElem?_eq_none (by simp [marks_len]; omega)]
 rw [List.set_append_right _ _ (by rw [marks_len]; exact Nat.le_refl _), marks_len, Nat.sub_self, List.drop_eq_getElem_cons hj, h1, List.append_assoc]
 rfl
set_option maxRecDepth 100000 in
theorem markIntS_c (i : Sl) (xs : List Int) (k : Nat) (w : World) (h : AtG w [own i 3 cInt 1 xs] []) (hb : xs.length ≤ 4294967296) (hk : k ≤ 1152921504606846976) :
   Calls Tryz.prog 25 #[i.val xs.length, .int .i64 (k : Int)] w (RetG w [own i 3 cInt 1 xs] fun v L => v = .int .i64 ((k + xs.length : Nat) : Int) ∧ L = [own i 3 cInt 1 (marks k xs.length)]) := by
 refine callsG_fn Tryz.func25 rfl tabOk w _ rfl _ rfl _ _ h trivial _ _ rfl rfl ?_
 refine LoopW.mk ⟨{ j : Nat // j ≤ xs.length },
   fun j => .mk [(0, .v (i.val (marks k j.1 ++ xs.drop j.1).length)), (1, .v (.int .i64 ((k + j.1 : Nat) : Int))), (5, .v (.int .i64 (j.1 : Int)))] 0 0 [] [] [own i 3 cInt 1 (marks k j.1 ++ xs.drop j.1)],
   fun j => xs.length - j.1, ⟨0, Nat.zero_le _⟩, ?_, ?_⟩
 · refine weak_mk [0] ?_ ?_ ?_ ?_ ?_ rfl rfl
   · exact zw30
   · exact zw0
   · exact zw30
   · exact zw5
   · repeat (first | exact trivial | refine ⟨.inl ⟨_, rfl, (by first | rfl | ((simp [marks])))⟩, ?_⟩ | refine ⟨.inr z136, ?_⟩)
 · rintro ⟨j, hj⟩
   have hl : (marks k j ++ xs.drop j).length = xs.length := by rw [List.length_append, marks_len, List.length_drop]; omega
   refine CaseB.mk (fun h => ?_) (fun h => ?_)
   · have hlt : j < xs.length := by simp only [hl] at h; simpa using h
     have hT := marks_set xs k j hlt
     refine stop_idxW encInt 0 tabOk rfl rfl rfl rfl rfl ⟨rfl, rfl⟩ rfl z88 j rfl (Nat.lt_of_lt_of_eq hlt hl.symm) (fun g hg => ?_)
     refine stop_storeW encInt 0 tabOk rfl rfl rfl rfl rfl rfl rfl rfl hg j 0 ((k + j : Nat) : Int) rfl (Nat.lt_of_lt_of_eq hlt hl.symm) rfl [.int .i64 ((k + j : Nat) : Int)] (fun _ => rfl) rfl ?_
     have hw := e_succ j _ hlt (by omega)
     have hw2 := e_succ (k + j) (k + xs.length) (by omega) (by omega)
     refine ⟨⟨j + 1, by omega⟩, ?_, by simp; omega⟩
     refine weak_mk [0] ?_ ?_ ?_ ?_ ?_ rfl rfl
     · exact zw15
     · exact zw0
     · exact zw15
     · exact zw5
     · repeat (first | exact trivial | refine ⟨.inl ⟨_, rfl, (by first | rfl | ((first | (rw [hT]; done) | (simp only [hT]; done) | exact congrArg (fun z => SV.v (Value.int .i64 z)) hw | exact congrArg (fun z => SV.v (Value.int .i64 z)) hw2 | (rw [← hT]; simp))))⟩, ?_⟩ | refine ⟨.inr z136, ?_⟩)
   · have hge : xs.length ≤ j := by simp only [hl] at h; simpa using h
     have hje : j = xs.length := by omega
     have hT : marks k j ++ xs.drop j = marks k xs.length := by rw [hje]; simp
     exact retG [0] ⟨rfl, rfl⟩ ⟨.inl ⟨_, rfl, z58⟩, trivial⟩ rfl ⟨rfl, trivial⟩ (fun _ => z58)
set_option maxRecDepth 100000 in
theorem heldIntS_c (i : Sl) (k n : Nat) (w : World) (h : At w [slo i cInt 1 (marks k n)]) (hb : n ≤ 4294967296) (hk : k ≤ 1152921504606846976) :
   Calls Tryz.prog 26 #[i.val (marks k n).length, .int .i64 (k : Int)] w (Ret w fun v L => v = .int .i64 ((k + n : Nat) : Int) ∧ L = []) := by
 refine calls2 Tryz.func26 rfl tabOk w _ rfl _ rfl _ h ⟨rfl, rfl, trivial⟩ _ _ (by decide) ?_
 refine LoopW.mk ⟨{ j : Nat // j ≤ n },
   fun j => .mk [(0, .v (i.val (marks k n).length)), (1, .v (.int .i64 ((k + j.1 : Nat) : Int))), (5, .v (.int .i64 (j.1 : Int)))] 0 0 [] [] [slo i cInt 1 (marks k n)],
   fun j => n - j.1, ⟨0, Nat.zero_le _⟩, ?_, ?_⟩
 · exact weak_mk [0] zw2 zw0 zw2 zw5 zw4 rfl rfl
 · rintro ⟨j, hj⟩
   refine CaseB.mk (fun h => ?_) (fun h => ?_)
   · have hlt : j < n := by rw [marks_len] at h; simpa using h
     have hlt2 : j < (marks k n).length := by rw [marks_len]; exact hlt
     have hv : (marks k n)[j] = ((k + j : Nat) : Int) := by
       have := marks_get k n j hlt
       rw [List.getElem?_eq_getElem hlt2] at this
       injection this
     refine stop_idx encInt tabOk rfl rfl rfl rfl rfl ⟨rfl, rfl⟩ z38 j rfl z45 (fun ad => ?_)
     refine CaseB.mk (fun h => by rw [hv] at h; simp at h) (fun h => ?_)
     have hw := e_succ j _ hlt (by omega)
     have hw2 := e_succ (k + j) (k + n) (by omega) (by omega)
     refine ⟨⟨j + 1, by omega⟩, ?_, by simp; omega⟩
     refine weak_mk [0] ?_ ?_ ?_ ?_ ?_ rfl rfl
     · exact zw21
     · exact zw0
     · exact zw21
     · exact zw5
     · repeat (first | exact trivial | refine ⟨.inl ⟨_, rfl, (by first | rfl | ((first | exact congrArg (fun z => SV.v (Value.int .i64 z)) hw | exact congrArg (fun z => SV.v (Value.int .i64 z)) hw2)))⟩, ?_⟩ | refine ⟨.inr z136, ?_⟩)
   · have hge : n ≤ j := by rw [marks_len] at h; simpa using h
     have hje : j = n := by omega
     subst hje
     exact ret0 ⟨rfl, rfl⟩ (fun _ => rfl)
theorem heldIntS_n (i : Sl) (k n : Nat) (w : World) (h : At w [slo i cInt 1 (marks k n)]) (hb : n ≤ 4294967296) (hk : k ≤ 1152921504606846976) :
   Calls Tryz.prog 26 #[i.val n, .int .i64 (k : Int)] w (Ret w fun v L => v = .int .i64 ((k + n : Nat) : Int) ∧ L = []) := by
 have := heldIntS_c i k n w h hb hk
 rwa [marks_len] at this
structure Op where
 kind : Int
 on : Int
 arg : Int
 deriving DecidableEq
def cOp (l : Op) : List Value := [.int .i64 l.kind, .int .i64 l.on, .int .i64 l.arg]
theorem encOp : Enc cOp 3 := ⟨fun _ => rfl, fun _ u hu => by simp [cOp] at hu; rcases hu with rfl | rfl | rfl <;> rfl⟩
def Op0 : Op := ⟨0, 0, 0⟩
structure OpSH where
 m : List Op
 q : Sl
def cOpSH (x : OpSH) : List Value := [x.q.val x.m.length]
theorem encOpSH : Enc cOpSH 1 := ⟨fun _ => rfl, fun _ u hu => by simp [cOpSH] at hu; subst hu; rfl⟩
def opSO (x : OpSH) : List Fct := [own x.q 65 cOp 3 x.m]
def threadsO (h : Sl) (xs : List OpSH) : List Fct := nestO h 68 cOpSH 1 opSO xs
theorem threadsO_0 (h : Sl) (xs : List OpSH) (j : Nat) (hj : j < xs.length) : RdIn (threadsO h xs) (slo (xs[j]).q cOp 3 (xs[j]).m) := RdIn.own (nest_in hj (List.mem_cons_self ..))
structure Prog where
 sems : List Int
 groups : List Int
 barriers : List Int
 rooms : List Int
 threads : List (List Op)
 deriving DecidableEq
structure ProgH where
 sems : List Int
 groups : List Int
 barriers : List Int
 rooms : List Int
 threads : List OpSH
 h0 : Sl
 h1 : Sl
 h2 : Sl
 h3 : Sl
 h4 : Sl
def ProgH.pure (s : ProgH) : Prog := ⟨s.sems, s.groups, s.barriers, s.rooms, s.threads.map (·.m)⟩
def progV (s : ProgH) : Value := .agg #[s.h0.val s.sems.length, s.h1.val s.groups.length, s.h2.val s.barriers.length, s.h3.val s.rooms.length, s.h4.val s.threads.length]
def progO (s : ProgH) : List Fct := own s.h0 3 cInt 1 s.sems :: own s.h1 3 cInt 1 s.groups :: own s.h2 3 cInt 1 s.barriers :: own s.h3 3 cInt 1 s.rooms :: threadsO s.h4 s.threads
theorem progO_sems (s : ProgH) : RdIn (progO s) (slo s.h0 cInt 1 s.sems) := RdIn.own (o := false) (e := 3) (by simp [progO])
theorem progO_groups (s : ProgH) : RdIn (progO s) (slo s.h1 cInt 1 s.groups) := RdIn.own (o := false) (e := 3) (by simp [progO])
theorem progO_barriers (s : ProgH) : RdIn (progO s) (slo s.h2 cInt 1 s.barriers) := RdIn.own (o := false) (e := 3) (by simp [progO])
theorem progO_rooms (s : ProgH) : RdIn (progO s) (slo s.h3 cInt 1 s.rooms) := RdIn.own (o := false) (e := 3) (by simp [progO])
theorem progO_threads (s : ProgH) : ∀ g ∈ threadsO s.h4 s.threads, g ∈ progO s := fun g hg => by simp [progO, hg]
structure State where
 places : List Int
 status : List Int
 sems : List Sem
 onces : List Once
 groups : List Group
 barriers : List Barrier
 chans : List Chan
 said : List Int
 fault : Int
 deriving DecidableEq
structure StateH where
 places : List Int
 status : List Int
 sems : List SemH
 onces : List OnceH
 groups : List GroupH
 barriers : List BarrierH
 chans : List ChanH
 said : List Int
 fault : Int
 h0 : Sl
 h1 : Sl
 h2 : Sl
 h3 : Sl
 h4 : Sl
 h5 : Sl
 h6 : Sl
 h7 : Sl
def StateH.pure (s : StateH) : State := ⟨s.places, s.status, s.sems.map (·.m), s.onces.map (·.m), s.groups.map (·.m), s.barriers.map (·.m), s.chans.map (·.m), s.said, s.fault⟩
def stateV (s : StateH) : Value := .agg #[s.h0.val s.places.length, s.h1.val s.status.length, s.h2.val s.sems.length, s.h3.val s.onces.length, s.h4.val s.groups.length, s.h5.val s.barriers.length, s.h6.val s.chans.length, s.h7.val s.said.length, .int .i64 s.fault]
def stateO (s : StateH) : List Fct := own s.h0 3 cInt 1 s.places :: own s.h1 3 cInt 1 s.status :: (semsO s.h2 s.sems ++ (oncesO s.h3 s.onces ++ (groupsO s.h4 s.groups ++ (barriersO s.h5 s.barriers ++ (chansO s.h6 s.chans ++ [own s.h7 3 cInt 1 s.said])))))
theorem stateO_places (s : StateH) : RdIn (stateO s) (slo s.h0 cInt 1 s.places) := RdIn.own (o := false) (e := 3) z92
theorem stateO_status (s : StateH) : RdIn (stateO s) (slo s.h1 cInt 1 s.status) := RdIn.own (o := false) (e := 3) z92
theorem stateO_said (s : StateH) : RdIn (stateO s) (slo s.h7 cInt 1 s.said) := RdIn.own (o := false) (e := 3) z92
theorem stateO_sems (s : StateH) : ∀ g ∈ semsO s.h2 s.sems, g ∈ stateO s := fun g hg => by simp [stateO, hg]
theorem stateO_onces (s : StateH) : ∀ g ∈ oncesO s.h3 s.onces, g ∈ stateO s := fun g hg => by simp [stateO, hg]
theorem stateO_groups (s : StateH) : ∀ g ∈ groupsO s.h4 s.groups, g ∈ stateO s := fun g hg => by simp [stateO, hg]
theorem stateO_barriers (s : StateH) : ∀ g ∈ barriersO s.h5 s.barriers, g ∈ stateO s := fun g hg => by simp [stateO, hg]
theorem stateO_chans (s : StateH) : ∀ g ∈ chansO s.h6 s.chans, g ∈ stateO s := fun g hg => by simp [stateO, hg]
theorem RdIn.sub {G G' : List Fct} {g : Fct} (h : RdIn G g) (hs : ∀ f ∈ G, f ∈ G') : RdIn G' g := by
 obtain ⟨f, hf, k⟩ := h
 exact ⟨f, hs f hf, k⟩
def szSeq (fs : List (Int → Int)) (l : Int) : Int := szList (fun f l => f l) fs l
def allS {α : Type} (P : α → Prop) (xs : List α) : Prop := xs.length ≤ 1048576 ∧ ∀ x ∈ xs, P x
theorem szN_gen {k : Nat} {l : Int} (hl : l ≤ 1048576) (h : ¬ szN k l < 0) : k ≤ 1048576 ∧ szN k l ≤ l := by
 simp only [szN] at h ⊢
 omega
theorem szAll_gen {α : Type} {f : α → Int → Int} {P : α → Prop} (hf : ∀ x l, l ≤ 1048576 → ¬ f x l < 0 → P x ∧ f x l ≤ l) {xs : List α} {l : Int} (hl : l ≤ 1048576) (h : ¬ szAll f xs l < 0) : allS P xs ∧ szAll f xs l ≤ l := by
 obtain ⟨h1, h2, h3⟩ := szAll_all hf hl h
 exact ⟨⟨h1, h2⟩, h3⟩
theorem allS_map {α β : Type} {P : β → Prop} {f : α → β} {xs : List α} (h : allS P (xs.map f)) : xs.length ≤ 1048576 ∧ ∀ x ∈ xs, P (f x) :=
 ⟨by simpa using h.1, fun x hx => h.2 _ (List.mem_map_of_mem hx)⟩
theorem ret_abs {P : Program} {g : FuncId} {args : Array Value} {w : World} {x : Int} (h : Calls P g args w (Ret w fun v L => v = .int .i64 x ∧ L = [])) : Calls P g args w (Ret w fun v L => ∃ a, a = x ∧ v = .int .i64 a ∧ L = []) :=
 h.mono fun _ _ ⟨v, L, h1, h2, h3, h4, h5⟩ => ⟨v, L, h1, h2, h3, x, rfl, h4, h5⟩
end Go.Proofs.YtijmjecehppbfaaGreat
namespace Go.Sx
open Go Go.RowKit
def flds (it : TypeId) : Nat → Nat → List (Bool × TypeId × Nat)
 | _, 0 => []
 | k, n + 1 => (false, it, k) :: flds it (k + 1) n
def vInt (x : Int) : Value := .int .i64 x
theorem part_one' {P : Program} {t : TypeId} {d : TypeDesc} (hd : P.underlying t = some d) (ha : isAggD d = false) (cs : Array Value) (off : Nat) (v : Value) (h : cs[off]? = some v) (w : World) : (part t cs off).run P w = .ok v w := by
 unfold part
 rw [Sem.run_bind, run_isAgg hd, ha]
 simp [h]
theorem eqFields_ints {P : Program} (w : World) {it : TypeId} (hI : P.underlying it = some (.int .i64)) (d : Nat) : ∀ (fs : List Field) (us bs : List Int) (p q : List Value), p.length = q.length → us.length = bs.length →
   fs.map (fun f => (f.name == "_", f.type, f.offset)) = flds it p.length us.length →
   (Op.eqFields (d + 1) (p ++ us.map vInt).toArray (q ++ bs.map vInt).toArray fs).run P w = .ok (decide (us = bs)) w
 | [], us, bs, p, q, hp, hl, hf => by
   cases us with
   | nil => cases bs with
     | nil => simp [Op.eqFields]
     | cons _ _ => simp at hl
   | cons _ _ => simp [flds] at hf
 | f :: fs, us, bs, p, q, hp, hl, hf => by
   cases us with
   | nil => simp [flds] at hf
   | cons a us =>
     cases bs with
     | nil => simp at hl
     | cons b bs =>
       simp only [List.map_cons, List.length_cons, flds, List.cons.injEq, Prod.mk.injEq] at hf
       obtain ⟨⟨f1, f2, f3⟩, hf⟩ := hf
       have f1' : f.name ≠ "_" := by simpa using f1
       have ih := eqFields_ints w hI d fs us bs (p ++ [vInt a]) (q ++ [vInt b]) (by simp [hp]) (by simpa using hl) (by simpa using hf)
       simp only [List.append_assoc, List.cons_append, List.nil_append] at ih
       have p1 := part_one' hI rfl (p ++ (a :: us).map vInt).toArray p.length (vInt a) (by simp) w
       have p2 := part_one' hI rfl (q ++ (b :: bs).map vInt).toArray p.length (vInt b) (by simp [hp]) w
       have q1 : (Op.equalIn (d + 1) it (vInt a) (vInt b)).run P w = .ok (a == b) w := run_equalIn_int w d it .i64 .i64 a b hI
       simp only [List.map_cons] at p1 p2
       simp only [Op.eqFields, f2, f3, f1', ne_eq, not_false_eq_true, if_true, Sem.run_bind, p1, p2, Result.andThen_ok, q1, List.map_cons]
       by_cases h1 : a = b
       · subst h1
         simp [ih]
       · simp [h1]
theorem neq_ints {P : Program} {t it : TypeId} {xs ys : List Int} (hS : P.underlying t = some (.struct (P.fieldsOf t))) (hp : P.stoodInHeld t = false) (hI : P.underlying it = some (.int .i64))
   (hl : xs.length = ys.length) (hF : (P.fieldsOf t).toList.map (fun f => (f.name == "_", f.type, f.offset)) = flds it 0 xs.length) (w : World) :
   (binOp .neq t (.agg (xs.map vInt).toArray) (.agg (ys.map vInt).toArray)).run P w = .ok (.bool (decide (xs ≠ ys))) w := by
 have := eqFields_ints w hI 9998 (P.fieldsOf t).toList xs ys [] [] rfl hl hF
 simp only [List.nil_append] at this
 rw [run_neq_struct, show (10000 : Nat) = 9999 + 1 from rfl, run_equalIn_agg w 9999 t _ _ hS hp, this]
 by_cases h : xs = ys <;> simp [h]
theorem fB_of {w : World} {G : List Fct} (h : ∀ g ∈ G, g.P w ∧ ∀ b, g.foot b → b < w.heap.size) : (fB true G).P w ∧ ∀ b, (fB true G).foot b → b < w.heap.size :=
 ⟨fun g hg => (h g hg).1, fun b ⟨g, hg, hb⟩ => (h g hg).2 b hb⟩
theorem fB_two {w : World} {f g : Fct} (h : f.P w ∧ ∀ b, f.foot b → b < w.heap.size) (k : g.P w ∧ ∀ b, g.foot b → b < w.heap.size) : (fB true [f, g]).P w ∧ ∀ b, (fB true [f, g]).foot b → b < w.heap.size :=
 fB_of fun e he => by
   simp only [List.mem_cons, List.not_mem_nil, or_false] at he
   rcases he with rfl | rfl
   · exact h
   · exact k
theorem fB_mem {w : World} {G : List Fct} (h : (fB true G).P w ∧ ∀ b, (fB true G).foot b → b < w.heap.size) {g : Fct} (hg : g ∈ G) : g.P w ∧ ∀ b, g.foot b → b < w.heap.size :=
 ⟨h.1 g hg, fun b hb => h.2 b ⟨g, hg, hb⟩⟩
section
variable {E : Env} {ti : Nat → TI} {A : Nat → Nat} {T : List (Nat × SV)} {n c : Nat} {B : List (Nat × TypeId × Nat)} {M Ms : List ((Nat × Nat) × SV)} {F Fs : List Fct} {o : Oper} {next : St → Prop} {w : World}
theorem stop_loadF (k1 : Nat) {t ty : TypeId} {x : Operand} {g off d : Nat} {cs : List Value} {v : Value} {size : Nat} {zero : List Value} {fs : List (Nat × Nat × Bool)} {el : Option TypeId} {ik : Option IntKind} {kk bytes : Nat}
   (hti : ∀ t, TIok E.P t (ti t)) (hop : o.op = .load t x) (hx : evalO T x = some (.v (.pointer (some ⟨g, off, none⟩)))) (ht : ti t = .mk false size zero fs el ik kk bytes) (hF : F[k1]? = some (fVar g ty cs)) (hv : cs[off]? = some v) (hd : Dst E o d)
   (hnext : next (.mk ((d, .v v) :: T) n c B M F)) : OpW (opStop E o next T n c B M F) := by
 refine ⟨fun A a w hW hT => ?_⟩
 have htt := hti t
 rw [ht] at htt
 obtain ⟨ii, dd, z, e1, e2, e3, e4, e5, e6, e7, e8, e9, e10, e11⟩ := tiSum_parts htt
 have hx' : a.eval x = .pointer (some ⟨g, off, none⟩) := (evalO_sound hT hx).1
 have hb : Blk w g ty cs := (hW.nth k1 hF).1
 have hc : w.cell? ⟨g, off, none⟩ = some v := by
   rw [cell_of_row _ _ _ _ _ _ hb]
   show cs.toArray[off]? = some v
   simpa using hv
 have hr : (execOp a.eval o).run E.P w = .ok (.value v) w := by
   simp [execOp, hop, hx', Instr.loadAt, Instr.sureAddr, run_loadVar_one (w := w) e2 e3 _ _ hc]
 refine upon_of_value hr ?_
 rw [hd.1]
 exact ⟨_, ⟨_, hW, hT.put (v := .v v) hd.lt trivial⟩, hnext⟩
end
theorem eqGuard_str {P : Program} {op : BinOp} {t : TypeId} {x y : Operand} {a b : ByteArray} (w : World) : (eqGuard op t x y (.string a) (.string b)).run P w = .ok () w := by
 cases op <;> rfl
theorem eql_str {P : Program} {t : TypeId} {a b : ByteArray} (w : World) : (binOp .eql t (.string a) (.string b)).run P w = .ok (.bool (a.toList == b.toList)) w := by
 rw [binOp_string_eql]; rfl
section
variable {P : Program} {f : FuncId} {fn : Func} {x : Code} {R : Ending → World → Prop} {ti : Nat → TI}
theorem callsPGc_fn (hf : P.funcs[f]? = some fn) (hb : fn.body = some x) (hti : ∀ t, TIok P t (ti t)) (w : World) (N : Nat) (hN : fn.ntmps = N) (rs : List ResultVar) (hrs : fn.results.toList = rs) (g : Nat) (ty : TypeId) (cs : List Value) (sz : Nat) (hsz : listLen cs = sz) (hg : Blk w g ty cs) (G Fo : List Fct) (hF : AtG w G Fo) (hoff : ∀ f ∈ G ++ Fo, ∀ b, f.foot b → b ≠ g) (ho : initOk Fo)
   (l : List Value) (args : Array Value) (ha : args.toList = l ++ [.pointer (some ⟨g, 0, none⟩)]) (hl : Nat.ble (l.length + 1) N = true)
   (hv : vcCode (mkEnvPG P w N g G) ti x (bodyK (mkEnvPG P w N g G) ti rs R) (.mk (initT 0 (l.map .v ++ [.p 0 0])) 1 0 [(0, ty, sz)] (storeL 0 0 (cs.map .v) []) (G ++ Fo))) : Calls P f args w R := by
 subst hN; subst hrs
 rw [listLen_eq] at hsz
 subst hsz
 exact calls_sx hf hb (mkEnvPG P w fn.ntmps g G) rfl rfl hti (l.map .v ++ [.p 0 0]) 1 [(0, ty, cs.length)] (storeL 0 0 (cs.map .v) []) (G ++ Fo) (A := fun _ => g) z62
   (fun s hs => by
     rcases List.mem_append.1 hs with hs | hs
     · obtain ⟨u, _, rfl⟩ := List.mem_map.1 hs; trivial
     · obtain rfl := List.mem_singleton.1 hs; exact Nat.zero_lt_one) z84 (WD.initPG P w _ _ _ _ hg hF hoff ho) hv
end
theorem map_erase {α β : Type} (f : α → β) : ∀ (l : List α) (j : Nat), (l.eraseIdx j).map f = (l.map f).eraseIdx j
 | [], _ => rfl
 | x :: r, 0 => rfl
 | x :: r, j + 1 => by simp [map_erase f r j]
theorem small1 {n k o : Nat} (h : Nat.blt k n = true) : ∀ x ∈ [(k, o)], x.1 < n := fun x hx => by
 obtain rfl := List.mem_singleton.1 hx
 simpa using h
def adel {β : Type} : List (Int × β) → Int → List (Int × β)
 | [], _ => []
 | (k, u) :: r, x => if k = x then r else (k, u) :: adel r x
theorem adel_some {β : Type} : ∀ {ps : List (Int × β)} {x : Int} {j : Nat} {u : β}, aidx ps x = some (j, u) → adel ps x = ps.eraseIdx j
 | [], x, j, u, h => by simp [aidx] at h
 | (k, q) :: r, x, j, u, h => by
   simp only [aidx] at h
   by_cases e : k = x
   · simp [e] at h
     obtain ⟨rfl, rfl⟩ := h
     simp [adel, e]
   · simp only [e, if_false, Option.map_eq_some_iff, Prod.mk.injEq] at h
     obtain ⟨p, h1, rfl, rfl⟩ := h
     simp [adel, e, adel_some (j := p.1) (u := p.2) h1]
theorem adel_none {β : Type} : ∀ {ps : List (Int × β)} {x : Int}, aidx ps x = none → adel ps x = ps
 | [], x, _ => rfl
 | (k, q) :: r, x, h => by
   simp only [aidx] at h
   by_cases e : k = x
   · simp [e] at h
   · simp only [e, if_false, Option.map_eq_none_iff] at h
     simp [adel, e, adel_none h]
section
variable {E : Env} {ti : Nat → TI} {A : Nat → Nat} {T : List (Nat × SV)} {n c : Nat} {B : List (Nat × TypeId × Nat)} {M Ms : List ((Nat × Nat) × SV)} {F Fs : List Fct} {o : Oper} {next : St → Prop} {a : Act} {w w' : World}
theorem stop_callPGc (R : Value → List Value → List Fct → Prop) (ix : List Nat) {G : List Fct} {k : Call} {fo : Operand} {g : FuncId} {l : List SV} {d kb ty sz : Nat} {cs : List Value} (hc : callable E.P g = true)
   (hop : o.op = .call k) (hk : k.callee = .value fo) (hf : evalO T fo = some (.f g [(kb, 0)])) (ha : evalOs T k.args.toList = some l) (hd : Dst E o d) (hB : lookBT B kb = some (ty, sz)) (hM : loadN M kb 0 sz = some cs) (hG : FK F ix G) (hok : grantOk G)
   (hcall : ∀ A w ga, ga = A kb → WD E A n B M F w → Blk w ga ty cs → Calls E.P g ((l.map (SV.den A)) ++ [Value.pointer (some ⟨ga, 0, none⟩)]).toArray w (RetPG w ga ty sz G R))
   (hnext : ∀ v cs L, R v cs L → storeK kb 0 (cs.map .v) M fun M' => next (.mk ((d, .v v) :: T) n (c + 1) B M' (L ++ dropAt ix 0 F))) :
   OpW (opStop E o next T n c B M F) := by
 refine ⟨fun A a w hW hT => ?_⟩
 unfold Oper.wp
 rw [call_enter hT hc hop hk hf ha, Oper.upon_enter]
 refine (hcall A w (A kb) rfl hW (hW.blk (lookBT_mem hB) hM).1).mono ?_
 rintro e w' ⟨v, cs', L, rfl, he, hb, hl, hL, hoff, hR⟩
 have hn := hnext v cs' L hR
 rw [storeK_eq] at hn
 refine ⟨_, ⟨_, hW.callPG (lookBT_mem hB) hG hok he hb hl hL, ?_⟩, hn⟩
 rw [hd.1]
 exact (hT.step w').put (v := .v v) hd.lt trivial
theorem lookup_run {β : Type} {venc : β → Value} (hW : WD E A n B M F w) (hT : TD E A T n c a w) (k1 : Nat) {t kt et : TypeId} {x y : Operand} {r : Nat} {q : Int} {ps : List (Int × β)} {z : Value} {qk : IntKind}
   (hop : o.op = .lookup t x y false) (hx : evalO T x = some (.v (.map (some r)))) (hy : evalO T y = some (.v (.int .i64 q))) (hF : F[k1]? = some (fMap r venc ps))
   (ht : E.P.underlying t = some (.map kt et)) (hkt : E.P.underlying kt = some (.int qk)) (hz : (E.P.info? et).bind (·.zero) = some z) :
   (execOp a.eval o).run E.P w = .ok (.value (match aget ps q with | some v => venc v | none => z)) w := by
 obtain ⟨es, clock, h1, h2⟩ := (hW.nth k1 hF).1
 have hx' := (evalO_sound hT hx).1
 have hy' := (evalO_sound hT hy).1
 simp only [SV.den] at hx' hy'
 rw [aget_idx]
 simp only [execOp, hop, hx', hy', Instr.lookup, Sem.run_bind, underlying, run_program, Result.andThen_ok, ht, Sem.run_pure, run_getObj_map' h1, run_checkKey_int hkt, run_findKey_int hkt venc q es ps h2]
 cases aidx ps q with
 | none =>
   cases hi : E.P.info? et with
   | none => rw [hi] at hz; simp at hz
   | some i =>
     rw [hi] at hz
     simp at hz
     simp [zeroValue, typeInfo, hi, hz]
 | some p => simp
theorem d_lookup {β : Type} {venc : β → Value} (k1 : Nat) {t kt et : TypeId} {x y : Operand} {r : Nat} {q : Int} {ps : List (Int × β)} {d : Nat} {z : Value} {qk : IntKind}
   (hop : o.op = .lookup t x y false) (hx : evalO T x = some (.v (.map (some r)))) (hy : evalO T y = some (.v (.int .i64 q))) (hF : F[k1]? = some (fMap r venc ps)) (hd : Dst E o d)
   (ht : E.P.underlying t = some (.map kt et)) (hkt : E.P.underlying kt = some (.int qk)) (hz : (E.P.info? et).bind (·.zero) = some z) (rv : Value) (hrv : (match aget ps q with | some v => venc v | none => z) = rv)
   (hnext : next (.mk ((d, .v rv) :: T) n (c + 1) B M F)) : OpW (opD E o Ms Fs next T n c B M F) := by
 subst hrv
 refine ⟨opD0.up fun hkf A a w hW hT => ?_⟩
 refine upon_of_value (lookup_run hW hT k1 hop hx hy hF ht hkt hz) ?_
 rw [hd.1]
 exact ⟨_, _, F, hW, fun w2 => (hT.step w2).put (v := .v _) hd.lt trivial, hkf, hnext⟩
theorem mapset_run {β : Type} {venc : β → Value} (hW : WD E A n B M F w) (hT : TD E A T n c a w) (k1 : Nat) (v : β) {t kt et : TypeId} {x y z : Operand} {r : Nat} {q : Int} {ps : List (Int × β)} {qk : IntKind} {s : SV}
   (hop : o.op = .mapUpdate t x y z) (hx : evalO T x = some (.v (.map (some r)))) (hy : evalO T y = some (.v (.int .i64 q))) (hz : evalO T z = some s) (hs : ∀ A, s.den A = venc v) (hF : F[k1]? = some (fMap r venc ps))
   (ht : E.P.underlying t = some (.map kt et)) (hkt : E.P.underlying kt = some (.int qk)) :
   ∃ ob, (execOp a.eval o).run E.P w = .ok .skip { w with heap := w.heap.setIfInBounds r ob } ∧ mapIs r venc (aset ps q v) { w with heap := w.heap.setIfInBounds r ob } := by
 obtain ⟨es, clock, h1, h2⟩ := (hW.nth k1 hF).1
 have hx' := (evalO_sound hT hx).1
 have hy' := (evalO_sound hT hy).1
 have hz' := (evalO_sound hT hz).1.trans (hs A)
 simp only [SV.den] at hx' hy'
 have hlt : r < w.heap.size := (Array.getElem?_eq_some_iff.1 h1).1
 cases hi : aidx ps q with
 | none =>
   refine ⟨.map (es.push { key := .int .i64 q, val := venc v, born := clock }) (clock + 1), ?_, ?_⟩
   · simp only [execOp, hop, hx', hy', hz', Instr.mapUpdate, Sem.run_bind, underlying, run_program, Result.andThen_ok, ht, Sem.run_pure, run_getObj_map' h1, run_checkKey_int hkt, run_findKey_int hkt venc q es ps h2, hi, Option.map_none, run_setObj_map' h1]
   · refine ⟨es.push { key := .int .i64 q, val := venc v, born := clock }, clock + 1, by simp [hlt], ?_⟩
     rw [aset_none v hi]
     simp only [prs, Array.toList_push, List.map_append, kv] at h2 ⊢
     rw [h2]; rfl
 | some p =>
   obtain ⟨j, u⟩ := p
   obtain ⟨g1, g2⟩ := aset_some v hi
   have hkey : (es[j]?).map (·.key) = some (.int .i64 q) := by
     have := congrArg (fun l => l[j]?) h2
     simp only [prs, kv, List.getElem?_map, g2, Option.map_some, Array.getElem?_toList] at this
     cases he : es[j]? with
     | none => rw [he] at this; simp at this
     | some e => rw [he] at this; simp at this; simp [this.1]
   refine ⟨.map (es.modify j fun e => { e with key := .int .i64 q, val := venc v }) clock, ?_, ?_⟩
   · have hks : (Instr.keyThatStays (.int .i64 q) (.int .i64 q)).run E.P w = .ok (.int .i64 q) w := by
       have hsb : Instr.sameBits 10000 (.int .i64 q) (.int .i64 q) = true := by
         show Instr.sameBits (9999 + 1) (.int .i64 q) (.int .i64 q) = true
         simp [Instr.sameBits]
       simp [Instr.keyThatStays, hsb]
     simp only [execOp, hop, hx', hy', hz', Instr.mapUpdate, Sem.run_bind, underlying, run_program, Result.andThen_ok, ht, Sem.run_pure, run_getObj_map' h1, run_checkKey_int hkt, run_findKey_int hkt venc q es ps h2, hi, Option.map_some, hkey, Option.getD_some, hks, run_setObj_map' h1]
   · refine ⟨es.modify j fun e => { e with key := .int .i64 q, val := venc v }, clock, by simp [hlt], ?_⟩
     rw [g1]
     simp only [prs, kv, Array.toList_modify, List.map_set] at h2 ⊢
     rw [← h2]
     apply List.ext_getElem?
     intro k
     simp only [List.getElem?_map, List.getElem?_modify, List.getElem?_set]
     by_cases e : j = k
     · subst e
       simp only [if_true]
       cases he : es.toList[j]? with
       | none =>
         have : es[j]? = none := by simpa using he
         rw [this] at hkey; simp at hkey
       | some x =>
         have hl : j < es.size := by simpa using (List.getElem?_eq_some_iff.1 he).1
         simp [hl]
     · simp [e]
theorem d_mapset {β : Type} {venc : β → Value} (k1 : Nat) (v : β) {t kt et : TypeId} {x y z : Operand} {r : Nat} {q : Int} {ps : List (Int × β)} {qk : IntKind} {s : SV}
   (hop : o.op = .mapUpdate t x y z) (hx : evalO T x = some (.v (.map (some r)))) (hy : evalO T y = some (.v (.int .i64 q))) (hz : evalO T z = some s) (hs : ∀ A, s.den A = venc v) (hF : F[k1]? = some (fMap r venc ps)) (hd : o.dst = none)
   (ht : E.P.underlying t = some (.map kt et)) (hkt : E.P.underlying kt = some (.int qk)) (qs : List (Int × β)) (hqs : aset ps q v = qs) (hkeep : keepF Fs F → keepF Fs (F.eraseIdx k1))
   (hnext : next (.mk T n (c + 1) B M (fMap r venc qs :: F.eraseIdx k1))) : OpW (opD E o Ms Fs next T n c B M F) := by
 subst hqs
 refine ⟨fun hm hf A a w hW hT => ?_⟩
 obtain ⟨ob, h3, h4⟩ := mapset_run hW hT k1 v hop hx hy hz hs hF ht hkt
 refine upon_of_skip h3 ?_
 rw [hd]
 exact ⟨A, _, n, _, B, M, _, fun _ _ => rfl, Nat.le_refl _, fun _ h => h, hm, fun f hfs => List.mem_cons_of_mem _ (hkeep hf f hfs), hW.turnMap hF ob h4, fun w2 => hT.step w2, hnext⟩
theorem stop_delete {β : Type} {venc : β → Value} (k1 : Nat) {k : Call} {t tk kt et : TypeId} {x y : Operand} {r : Nat} {q : Int} {ps : List (Int × β)} {qk : IntKind}
   (hop : o.op = .call k) (hk : k.callee = .builtin .delete) (ha : k.args.toList = [x, y]) (hty : k.argTypes.toList = [t, tk])
   (hx : evalO T x = some (.v (.map (some r)))) (hy : evalO T y = some (.v (.int .i64 q))) (hF : F[k1]? = some (fMap r venc ps)) (hd : o.dst = none)
   (ht : E.P.underlying t = some (.map kt et)) (hkt : E.P.underlying kt = some (.int qk)) (qs : List (Int × β)) (hqs : adel ps q = qs)
   (hnext : next (.mk T n (c + 1) B M (fMap r venc qs :: F.eraseIdx k1))) : OpW (opStop E o next T n c B M F) := by
 subst hqs
 refine ⟨fun A a w hW hT => ?_⟩
 obtain ⟨es, clock, h1, h2⟩ := (hW.nth k1 hF).1
 have hx' := (evalO_sound hT hx).1
 have hy' := (evalO_sound hT hy).1
 simp only [SV.den] at hx' hy'
 have hlt : r < w.heap.size := (Array.getElem?_eq_some_iff.1 h1).1
 have hargs : k.args = #[x, y] := by apply Array.ext'; simpa using ha
 have htys : k.argTypes = #[t, tk] := by apply Array.ext'; simpa using hty
 have key : ∃ ob, (Builtin.delete_ #[t, tk] o.type #[.map (some r), .int .i64 q]).run E.P w = .ok (.tuple #[]) { w with heap := w.heap.setIfInBounds r ob } ∧ mapIs r venc (adel ps q) { w with heap := w.heap.setIfInBounds r ob } := by
   cases hi : aidx ps q with
   | none =>
     refine ⟨.map es clock, ?_, ⟨es, clock, by simp [hlt], by rw [adel_none hi]; exact h2⟩⟩
     simp [Builtin.delete_, underlying, ht, run_getObj_map' h1, run_checkKey_int hkt, run_findKey_int hkt venc q es ps h2, hi, run_setObj_map' h1]
   | some p =>
     obtain ⟨j, u⟩ := p
     refine ⟨.map (es.eraseIdxIfInBounds j) clock, ?_, ⟨es.eraseIdxIfInBounds j, clock, by simp [hlt], ?_⟩⟩
     · simp [Builtin.delete_, underlying, ht, run_getObj_map' h1, run_checkKey_int hkt, run_findKey_int hkt venc q es ps h2, hi, run_setObj_map' h1]
     · rw [adel_some hi]
       simp only [prs, kv] at h2 ⊢
       rw [Array.toList_eraseIdxIfInBounds, map_erase, h2, map_erase]
 obtain ⟨ob, h3, h4⟩ := key
 have hr : (execOp a.eval o).run E.P w = .ok (.value (.tuple #[])) { w with heap := w.heap.setIfInBounds r ob } := by
   simp only [execOp, hop, resolve, hk, hargs, htys, Sem.run_bind, Sem.run_pure, Result.andThen_ok, invoke, builtin, List.map_toArray, List.map_cons, List.map_nil, hx', hy', h3]
 refine upon_of_value hr ?_
 rw [hd]
 exact ⟨_, ⟨_, hW.turnMap hF ob h4, hT.step _⟩, hnext⟩
theorem stop_lenM {β : Type} {venc : β → Value} (k1 : Nat) {k : Call} {t kt et : TypeId} {x : Operand} {r : Nat} {ps : List (Int × β)} {d : Nat}
   (hop : o.op = .call k) (hk : k.callee = .builtin .len) (ha : k.args.toList = [x]) (hty : k.argTypes.toList = [t])
   (hx : evalO T x = some (.v (.map (some r)))) (hF : F[k1]? = some (fMap r venc ps)) (hd : Dst E o d) (ht : E.P.underlying t = some (.map kt et))
   (hnext : next (.mk ((d, .v (.int .i64 (ps.length : Int))) :: T) n c B M F)) : OpW (opStop E o next T n c B M F) := by
 refine ⟨fun A a w hW hT => ?_⟩
 obtain ⟨es, clock, h1, h2⟩ := (hW.nth k1 hF).1
 have hx' := (evalO_sound hT hx).1
 simp only [SV.den] at hx'
 have hargs : k.args = #[x] := by apply Array.ext'; simpa using ha
 have htys : k.argTypes = #[t] := by apply Array.ext'; simpa using hty
 have hl : es.size = ps.length := by have := congrArg List.length h2; simpa [prs, kv] using this
 have hr : (execOp a.eval o).run E.P w = .ok (.value (.int .i64 (ps.length : Int))) w := by
   simp [execOp, hop, resolve, hk, hargs, htys, invoke, builtin, hx', Builtin.len_, underlying, ht, run_getObj_map' h1, hl, goInt]
 refine upon_of_value hr ?_
 rw [hd.1]
 exact ⟨_, ⟨_, hW, hT.put (v := .v (.int .i64 (ps.length : Int))) hd.lt trivial⟩, hnext⟩
end
end Go.Sx
namespace Go.Proofs.YtijmjecehppbfaaGreat
open Go Go.Sx Go.RowKit
structure Waiting where
 kind : Int
 on : Int
 arg : Int
 deriving DecidableEq
def cWait (l : Waiting) : List Value := [.int .i64 l.kind, .int .i64 l.on, .int .i64 l.arg]
theorem encWait : Enc cWait 3 := ⟨fun _ => rfl, fun _ u hu => by simp [cWait] at hu; rcases hu with rfl | rfl | rfl <;> rfl⟩
structure LH (β : Type) where
 q : Sl
 xs : List β
def LH.nil {β : Type} : LH β := ⟨⟨none, 0⟩, []⟩
def venH {β : Type} (h : LH β) : Value := h.q.val h.xs.length
def rowsM {β : Type} (ty : TypeId) (enc : β → List Value) (sz : Nat) (ps : List (Int × LH β)) : List Fct := ps.flatMap fun p => [own p.2.q ty enc sz p.2.xs]
def pm {β : Type} (ps : List (Int × LH β)) : List (Int × List β) := ps.map fun p => (p.1, p.2.xs)
def addM {β : Type} (m : List (Int × List β)) (e : Int × β) : List (Int × List β) := aset m e.1 ((aget m e.1).getD [] ++ [e.2])
def mapOf {β : Type} (es : List (Int × β)) : List (Int × List β) := es.foldl addM []
theorem mapOf_snoc {β : Type} (es : List (Int × β)) (e : Int × β) : mapOf (es ++ [e]) = addM (mapOf es) e := by simp [mapOf]
theorem pm_aget {β : Type} (ps : List (Int × LH β)) (t : Int) : aget (pm ps) t = (aget ps t).map (·.xs) := by
 induction ps with
 | nil => rfl
 | cons p r ih =>
   obtain ⟨k, h⟩ := p
   show (if k = t then some h.xs else aget (pm r) t) = (if k = t then some h else aget r t).map (·.xs)
   by_cases e : k = t
   · simp [e]
   · simp [e, ih]
theorem pm_aset {β : Type} (ps : List (Int × LH β)) (t : Int) (h : LH β) : pm (aset ps t h) = aset (pm ps) t h.xs := by
 induction ps with
 | nil => rfl
 | cons p r ih =>
   obtain ⟨k, u⟩ := p
   show pm (if k = t then (k, h) :: r else (k, u) :: aset r t h) = (if k = t then (k, h.xs) :: pm r else (k, u.xs) :: aset (pm r) t h.xs)
   by_cases e : k = t
   · simp [e, pm]
   · rw [if_neg e, if_neg e]
     show (k, u.xs) :: pm (aset r t h) = _
     rw [ih]
theorem pm_add {β : Type} (ps : List (Int × LH β)) (t : Int) (w : β) (y : Sl) : pm (aset ps t ⟨y, ((aget ps t).getD LH.nil).xs ++ [w]⟩) = addM (pm ps) (t, w) := by
 rw [pm_aset, addM, pm_aget]
 cases aget ps t <;> rfl
theorem rows_perm_some {β : Type} {ty : TypeId} {enc : β → List Value} {sz : Nat} : ∀ {ps : List (Int × LH β)} {t : Int} {h : LH β}, aget ps t = some h → (rowsM ty enc sz ps).Perm ([own h.q ty enc sz h.xs] ++ rowsM ty enc sz (adel ps t))
 | [], t, h, e => by simp [aget] at e
 | (k, u) :: r, t, h, e => by
   simp only [aget] at e
   by_cases hk : k = t
   · simp only [hk, if_true, Option.some.injEq] at e
     subst e
     rw [show adel ((k, u) :: r) t = r from by simp [adel, hk]]
     exact .refl _
   · simp only [hk, if_false] at e
     rw [show adel ((k, u) :: r) t = (k, u) :: adel r t from by simp [adel, hk]]
     have ih := rows_perm_some (ty := ty) (enc := enc) (sz := sz) e
     show (own u.q ty enc sz u.xs :: rowsM ty enc sz r).Perm (own h.q ty enc sz h.xs :: own u.q ty enc sz u.xs :: rowsM ty enc sz (adel r t))
     exact (List.Perm.cons _ ih).trans (List.Perm.swap _ _ _)
theorem adel_of_none {β : Type} : ∀ {ps : List (Int × β)} {t : Int}, aget ps t = none → adel ps t = ps
 | [], _, _ => rfl
 | (k, u) :: r, t, e => by
   simp only [aget] at e
   by_cases hk : k = t
   · simp [hk] at e
   · simp only [hk, if_false] at e
     simp [adel, hk, adel_of_none e]
theorem rows_perm_set {β : Type} {ty : TypeId} {enc : β → List Value} {sz : Nat} (t : Int) (h : LH β) : ∀ (ps : List (Int × LH β)), ([own h.q ty enc sz h.xs] ++ rowsM ty enc sz (adel ps t)).Perm (rowsM ty enc sz (aset ps t h))
 | [] => .refl _
 | (k, u) :: r => by
   by_cases hk : k = t
   · rw [show adel ((k, u) :: r) t = r from by simp [adel, hk], show aset ((k, u) :: r) t h = (k, h) :: r from by simp [aset, hk]]
     exact .refl _
   · rw [show adel ((k, u) :: r) t = (k, u) :: adel r t from by simp [adel, hk], show aset ((k, u) :: r) t h = (k, u) :: aset r t h from by simp [aset, hk]]
     show (own h.q ty enc sz h.xs :: own u.q ty enc sz u.xs :: rowsM ty enc sz (adel r t)).Perm (own u.q ty enc sz u.xs :: rowsM ty enc sz (aset r t h))
     exact (List.Perm.swap _ _ _).trans (List.Perm.cons _ (rows_perm_set t h r))
theorem Shift.rowOut {FF : List Fct} {β : Type} {ty : TypeId} {enc : β → List Value} {sz : Nat} (k : Nat) {ps : List (Int × LH β)} (t : Int) (hk : FF[k]? = some (fO (rowsM ty enc sz ps))) :
   Shift FF (own ((aget ps t).getD LH.nil).q ty enc sz ((aget ps t).getD LH.nil).xs :: fO (rowsM ty enc sz (adel ps t)) :: FF.eraseIdx k) := by
 cases h : aget ps t with
 | some u => exact Shift.splitO k (L := [own u.q ty enc sz u.xs]) hk (rows_perm_some h)
 | none =>
   rw [adel_of_none h]
   intro E A n B M w hW
   have h1 := Shift.splitO k (L := []) (G' := rowsM ty enc sz ps) hk (.refl _) E A n B M w hW
   have hn : nilFact (own (LH.nil : LH β).q ty enc sz (LH.nil : LH β).xs) := ⟨rfl, rfl, rfl, rfl⟩
   obtain ⟨n1, n2, n3⟩ := nilFact_ok hn w
   refine ⟨h1.key, h1.inj, h1.mem, h1.a0, h1.n0, h1.ext, fun f hf => ?_, ?_⟩
   · rcases List.mem_cons.1 hf with rfl | hf
     · exact ⟨n1, fun b hb => (n2 b hb).elim, fun _ b hb => (n2 b hb).elim⟩
     · exact h1.fct f hf
   · rw [List.pairwise_cons]
     exact ⟨fun g _ _ b hb => (n2 b hb).elim, h1.dj⟩
abbrev fMW (r : Nat) (ps : List (Int × LH Waiting)) : Fct := fMap r venH ps
abbrev rW (ps : List (Int × LH Waiting)) : List Fct := rowsM 179 cWait 3 ps
abbrev rI (ps : List (Int × LH Int)) : List Fct := rowsM 3 cInt 1 ps
set_option maxHeartbeats 4000000 in
set_option maxRecDepth 100000 in
theorem wAdd_c (t kind on arg : Int) (g r : Nat) (ps : List (Int × LH Waiting)) (w : World) (hg : Blk w g 173 [.map (some r)]) (h : AtG w [fMW r ps, fO (rW ps)] []) (hoff : ∀ f ∈ [fMW r ps, fO (rW ps)] ++ [], ∀ b, f.foot b → b ≠ g)
   (hb : ((aget ps t).getD LH.nil).xs.length ≤ 1048576) :
   Calls Tryz.prog 166 #[.int .i64 t, .int .i64 kind, .int .i64 on, .int .i64 arg, .pointer (some ⟨g, 0, none⟩)] w
     (RetPG w g 173 1 [fMW r ps, fO (rW ps)] fun v cs L => v = .tuple #[] ∧ cs = [.map (some r)] ∧ ∃ qs : List (Int × LH Waiting), pm qs = addM (pm ps) (t, ⟨kind, on, arg⟩) ∧ L = [fMW r qs, fO (rW qs)]) := by
 refine callsPGc_fn Tryz.func166 rfl tabOk w _ rfl _ rfl _ 173 _ 1 rfl hg _ _ h hoff trivial [.int .i64 t, .int .i64 kind, .int .i64 on, .int .i64 arg] _ rfl rfl ?_
 obtain ⟨u, hu⟩ : ∃ u, u = (aget ps t).getD LH.nil := ⟨_, rfl⟩
 have hpm : ∀ y, pm (aset ps t ⟨y, u.xs ++ [⟨kind, on, arg⟩]⟩) = addM (pm ps) (t, ⟨kind, on, arg⟩) := fun y => by rw [hu]; exact pm_add ps t _ y
 refine draw_shift (Shift.rowOut 1 t rfl) ?_
 rw [← hu] at hb ⊢
 refine draw_start tabOk z97 z97 z97 200 [((0, 0), .v (.map (some r)))] [] [] z142 z146 trivial rfl ?_
 refine BothW.mk ?_ ?_
 · refine d_lookup 2 (qk := .i64) (kt := 3) (et := 177) (z := .slice none 0 0) rfl rfl rfl rfl ⟨rfl, rfl⟩ z97 z97 z97 (u.q.val u.xs.length) (by rw [hu]; cases aget ps t <;> rfl) ?_
   refine AllSl.mk fun b => ?_
   refine d_app (ti := tiOf tab) encWait 1 tabOk (ys := [⟨kind, on, arg⟩]) rfl rfl rfl rfl rfl rfl rfl rfl rfl (by decide) ⟨rfl, rfl⟩ rfl z38 z45 z45 z95 (fun y => ?_)
   refine d_mapset 3 (⟨y, u.xs ++ [⟨kind, on, arg⟩]⟩ : LH Waiting) (qk := .i64) (kt := 3) (et := 177) rfl rfl rfl rfl (fun _ => rfl) rfl rfl z97 z97 _ rfl z95 ?_
   refine ret_shift (.joinO [1, 3] (Gs := [[_], _]) z132 rfl (G := rW (aset ps t ⟨y, u.xs ++ [⟨kind, on, arg⟩]⟩)) (.trans (.of_eq (by simp)) (rows_perm_set t (⟨y, u.xs ++ [⟨kind, on, arg⟩]⟩ : LH Waiting) ps))) ?_
   exact retPG [1, 0] ⟨rfl, rfl, _, hpm y, rfl⟩ rfl rfl z133 rfl ⟨rfl, rfl, trivial⟩ (fun _ => rfl)
 · refine AllSl.mk fun b => ?_
   refine d_lookup 3 (qk := .i64) (kt := 3) (et := 177) (z := .slice none 0 0) rfl rfl rfl rfl ⟨rfl, rfl⟩ z97 z97 z97 (u.q.val u.xs.length) (by rw [hu]; cases aget ps t <;> rfl) ?_
   refine d_app (ti := tiOf tab) encWait 1 tabOk (ys := [⟨kind, on, arg⟩]) rfl rfl rfl rfl rfl rfl rfl rfl rfl (by decide) ⟨rfl, rfl⟩ rfl z38 z45 z45 z95 (fun y => ?_)
   refine d_mapset 3 (⟨y, u.xs ++ [⟨kind, on, arg⟩]⟩ : LH Waiting) (qk := .i64) (kt := 3) (et := 177) rfl rfl rfl rfl (fun _ => rfl) rfl rfl z97 z97 _ rfl z95 ?_
   refine ret_shift (.joinO [1, 3] (Gs := [[_], _]) z132 rfl (G := rW (aset ps t ⟨y, u.xs ++ [⟨kind, on, arg⟩]⟩)) (.trans (.of_eq (by simp)) (rows_perm_set t (⟨y, u.xs ++ [⟨kind, on, arg⟩]⟩ : LH Waiting) ps))) ?_
   exact retPG [1, 0] ⟨rfl, rfl, _, hpm y, rfl⟩ rfl rfl z133 rfl ⟨rfl, rfl, trivial⟩ (fun _ => rfl)
def evL {α β : Type} (f : Nat → α → List β) : Nat → List α → List β
 | _, [] => []
 | i, x :: r => f i x ++ evL f (i + 1) r
theorem evL_append {α β : Type} (f : Nat → α → List β) : ∀ (i : Nat) (xs ys : List α), evL f i (xs ++ ys) = evL f i xs ++ evL f (i + xs.length) ys
 | i, [], ys => by simp [evL]
 | i, x :: r, ys => by
   simp only [List.cons_append, evL, List.length_cons, evL_append f (i + 1) r ys, List.append_assoc]
   rw [show i + 1 + r.length = i + (r.length + 1) by omega]
theorem evL_succ {α β : Type} (f : Nat → α → List β) (xs : List α) {k : Nat} (hk : k < xs.length) : evL f 0 (xs.take (k + 1)) = evL f 0 (xs.take k) ++ f k xs[k] := by
 rw [List.take_succ_eq_append_getElem hk, evL_append]
 simp only [evL, List.append_nil, Nat.zero_add, List.length_take]
 rw [Nat.min_eq_left (by omega)]
theorem evL_pre {α β : Type} (f : Nat → α → List β) (xs : List α) {k : Nat} (hk : k < xs.length) : (evL f 0 (xs.take k)).length + (f k xs[k]).length ≤ (evL f 0 xs).length := by
 have h := evL_append f 0 (xs.take (k + 1)) (xs.drop (k + 1))
 rw [List.take_append_drop] at h
 rw [h, List.length_append, evL_succ f xs hk, List.length_append]
 omega
def evSem (i : Nat) (x : Sem) : List (Int × Waiting) := x.queue.map fun w => (w.t, ⟨2, (i : Int), w.n⟩)
def evOnce (i : Nat) (x : Once) : List (Int × Waiting) := x.waits.map fun t => (t, ⟨4, (i : Int), 0⟩)
def evGroup (i : Nat) (x : Group) : List (Int × Waiting) := x.waits.map fun t => (t, ⟨6, (i : Int), 0⟩)
def evBarrier (i : Nat) (x : Barrier) : List (Int × Waiting) := x.waits.map fun t => (t, ⟨7, (i : Int), 0⟩)
def evChan (i : Nat) (x : Chan) : List (Int × Waiting) := (x.senders.map fun l => (l.t, ⟨8, (i : Int), l.v⟩)) ++ x.getters.map fun t => (t, ⟨9, (i : Int), 0⟩)
def evOwn (i : Nat) (x : Once) : List (Int × Int) := if x.state = 1 then [(x.owner, (i : Int))] else []
def events (s : State) : List (Int × Waiting) := evL evSem 0 s.sems ++ evL evOnce 0 s.onces ++ evL evGroup 0 s.groups ++ evL evBarrier 0 s.barriers ++ evL evChan 0 s.chans
def owners (s : State) : List (Int × Int) := evL evOwn 0 s.onces
theorem addM_len {β : Type} (m : List (Int × List β)) (e : Int × β) (t : Int) : ((aget (addM m e) t).getD []).length ≤ ((aget m t).getD []).length + 1 := by
 obtain ⟨k, x⟩ := e
 simp only [addM]
 generalize hu : (aget m k).getD [] = u
 have : ∀ m : List (Int × List β), (aget m k).getD [] = u → ((aget (aset m k (u ++ [x])) t).getD []).length ≤ ((aget m t).getD []).length + 1 := fun m => by
   induction m with
   | nil =>
     intro h
     have hu0 : u = [] := by simpa [aget] using h.symm
     subst hu0
     simp only [aset, aget]
     by_cases e : k = t <;> simp [e]
   | cons p r ih =>
     intro h
     obtain ⟨q, v⟩ := p
     simp only [aset, aget] at h ⊢
     by_cases e : q = k
     · subst e
       simp only [if_true, Option.getD_some] at h
       subst h
       simp only [if_true, aget]
       by_cases e2 : q = t
       · simp [e2]
       · simp [e2]
     · simp only [e, if_false] at h ⊢
       simp only [aget]
       by_cases e2 : q = t
       · simp [e2]
       · simp only [e2, if_false]
         exact ih h
 exact this m hu
theorem mapOf_len {β : Type} (es : List (Int × β)) (t : Int) : ((aget (mapOf es) t).getD []).length ≤ es.length := by
 have : ∀ (es : List (Int × β)) (m : List (Int × List β)), ((aget (es.foldl addM m) t).getD []).length ≤ ((aget m t).getD []).length + es.length := fun es => by
   induction es with
   | nil => intro m; simp
   | cons e r ih =>
     intro m
     have h1 := ih (addM m e)
     have h2 := addM_len m e t
     simp only [List.foldl_cons, List.length_cons]
     omega
 have := this es []
 simpa [mapOf, aget] using this
theorem pm_len {β : Type} {ps : List (Int × LH β)} {es : List (Int × β)} (h : pm ps = mapOf es) (t : Int) : ((aget ps t).getD LH.nil).xs.length ≤ es.length := by
 have h1 := mapOf_len es t
 rw [← h, pm_aget] at h1
 cases hq : aget ps t with
 | none => simp [LH.nil]
 | some u => rw [hq] at h1; simpa using h1
set_option maxHeartbeats 40000000 in
set_option maxRecDepth 100000 in
theorem waitingsOf_c (s : StateH) (w : World) (h : At w [fR (stateO s)]) (hN : (events s.pure).length ≤ 1048576) (hl : s.sems.length ≤ 1048576 ∧ s.onces.length ≤ 1048576 ∧ s.groups.length ≤ 1048576 ∧ s.barriers.length ≤ 1048576 ∧ s.chans.length ≤ 1048576) :
   Calls Tryz.prog 125 #[stateV s] w (Ret w fun v L => ∃ (r r2 : Nat) (ps : List (Int × LH Waiting)) (os : List (Int × LH Int)), v = .tuple #[.map (some r), .map (some r2)] ∧ pm ps = mapOf (events s.pure) ∧ pm os = mapOf (owners s.pure) ∧ L = [fMW r ps, fO (rW ps), fMap r2 venH os, fO (rI os)]) := by
 obtain ⟨l0, l1, l2, l3, l4⟩ := hl
 have hN' := hN
 simp only [events, List.length_append] at hN'
 have mlen : ∀ {α β : Type} (f : α → β) (xs : List α), (xs.map f).length = xs.length := fun f xs => by simp
 refine calls1 Tryz.func125 rfl tabOk w _ rfl _ rfl _ h ⟨rfl, rfl, trivial⟩ _ (by decide) ?_
 refine stop_makeMap (venH (β := Waiting)) rfl ⟨rfl, rfl⟩ (fun r => ?_)
 refine stop_makeMap (venH (β := Int)) rfl ⟨rfl, rfl⟩ (fun r2 => ?_)
 have hE0 : ∃ E : List (Int × Waiting), E = [] := ⟨[], rfl⟩
 have len0 : s.pure.sems.length = s.sems.length := mlen _ _
 refine LoopW.mk ⟨{ p : Nat × List (Int × LH Waiting) × List (Int × LH Int) // p.1 ≤ s.sems.length ∧ pm p.2.1 = mapOf (([] : List (Int × Waiting)) ++ evL evSem 0 (s.pure.sems.take p.1)) ∧ pm p.2.2 = mapOf ([] : List (Int × Int)) },
   fun p => .mk [(1, .p 0 0), (4, .p 1 0), (5, .v (.map (some r2))), (6, .f 166 [(1, 0)]), (33, .v (s.h2.val s.sems.length)), (34, .v (.int .i64 (s.sems.length : Int))), (35, .v (.int .i64 (p.1.1 : Int)))] 2 0 [(0, 35, 9), (1, 173, 1)]
     [((0, 2), .v (s.h2.val s.sems.length)), ((0, 3), .v (s.h3.val s.onces.length)), ((0, 4), .v (s.h4.val s.groups.length)), ((0, 5), .v (s.h5.val s.barriers.length)), ((0, 6), .v (s.h6.val s.chans.length)), ((1, 0), .v (.map (some r)))] [fMW r p.1.2.1, fO (rW p.1.2.1), fMap r2 venH p.1.2.2, fO (rI p.1.2.2), fR (stateO s)],
   fun p => s.sems.length - p.1.1, ⟨(0, [], []), Nat.zero_le _, rfl, rfl⟩, ?_, ?_⟩
 · refine weak_shift (.joinO [] (Gs := []) trivial rfl (G := rI []) (.refl _)) ?_
   refine weak_shift (.joinO [] (Gs := []) trivial rfl (G := rW []) (.refl _)) ?_
   exact weak_mk [3, 0, 2, 1, 4] zw2 zw0 zw2 zw5 zw4 rfl rfl
 rintro ⟨⟨k, ps, os⟩, hk, hps, hos⟩
 simp only at hk hps hos
 apply CaseB.mk <;> intro g
 · have hlt : k < s.sems.length := by simpa using g
   have hltp : k < s.pure.sems.length := by rw [len0]; exact hlt
   have hget : s.pure.sems[k] = (s.sems[k]).m := by simp [StateH.pure]
   have hpre := evL_pre evSem s.pure.sems hltp
   have hsucc := evL_succ evSem s.pure.sems hltp
   rw [hget] at hpre hsucc
   have hw := e_succ k _ hlt (by omega)
   refine stop_idx encSemH tabOk rfl rfl rfl rfl rfl ⟨rfl, rfl⟩ (rdVia 4 rfl (.trans (.R_R (stateO_sems s)) (.ofR nest_h))) k rfl z45 (fun ad => ?_)
   refine LoopW.mk ⟨{ p : Nat × List (Int × LH Waiting) // p.1 ≤ (s.sems[k]).m.queue.length ∧ pm p.2 = mapOf (([] : List (Int × Waiting)) ++ evL evSem 0 (s.pure.sems.take k) ++ ((s.sems[k]).m.queue.take p.1).map fun x => (x.t, ⟨2, (k : Int), x.n⟩)) },
     fun p => .mk [(1, .p 0 0), (4, .p 1 0), (5, .v (.map (some r2))), (6, .f 166 [(1, 0)]), (33, .v (s.h2.val s.sems.length)), (34, .v (.int .i64 (s.sems.length : Int))), (35, .v (.int .i64 (k : Int))), (7, .v (.int .i64 (k : Int))), (8, .p 2 0), (41, .v ((s.sems[k]).q.val (s.sems[k]).m.queue.length)), (42, .v (.int .i64 ((s.sems[k]).m.queue.length : Int))), (43, .v (.int .i64 (p.1.1 : Int)))] 3 0 ((2, 95, 3) :: [(0, 35, 9), (1, 173, 1)])
       [((0, 2), .v (s.h2.val s.sems.length)), ((0, 3), .v (s.h3.val s.onces.length)), ((0, 4), .v (s.h4.val s.groups.length)), ((0, 5), .v (s.h5.val s.barriers.length)), ((0, 6), .v (s.h6.val s.chans.length)), ((1, 0), .v (.map (some r)))] [fMW r p.1.2, fO (rW p.1.2), fMap r2 venH os, fO (rI os), fR (stateO s)],
     fun p => (s.sems[k]).m.queue.length - p.1.1, ⟨(0, ps), Nat.zero_le _, by simpa using hps⟩, ?_, ?_⟩
   · exact weak_mk [0, 1, 2, 3, 4] zw2 zw0 zw2 zw5 zw4 rfl rfl
   rintro ⟨⟨j, ps⟩, hj, hps⟩
   simp only at hj hps
   apply CaseB.mk <;> intro g
   · have hlj : j < (s.sems[k]).m.queue.length := by simpa using g
     have hwj := e_succ j (s.sems[k]).m.queue.length hlj (by simp only [evSem, List.length_map] at hpre; omega)
     have hbnd : ∀ t, ((aget ps t).getD LH.nil).xs.length ≤ 1048576 := fun t => by
       have h1 := pm_len hps t
       simp only [List.length_append, List.length_map, List.length_take, List.length_nil] at h1
       have h2 : min j (s.sems[k]).m.queue.length ≤ (s.sems[k]).m.queue.length := Nat.min_le_right _ _
       simp only [evSem, List.length_map] at hpre; omega
     refine stop_idx encWaiter tabOk rfl rfl rfl rfl rfl ⟨rfl, rfl⟩ (rdVia 4 rfl (.trans (.R_R (stateO_sems s)) (.ofR (semsO_0 _ _ k hlt)))) j rfl z45 (fun ad2 => ?_)
     refine stop_callPGc _ [0, 1] (G := [_, _]) cl166 rfl rfl rfl rfl ⟨rfl, rfl⟩ rfl rfl ⟨rfl, rfl, trivial⟩ ⟨rfl, rfl, rfl, rfl, trivial⟩ (fun A w ga hga hW hblk => wAdd_c _ _ _ _ ga r ps w hblk (hW.atG [0, 1] (G := [_, _]) ⟨rfl, rfl, trivial⟩ rfl ⟨rfl, rfl, rfl, rfl, trivial⟩ [] (Fo := []) trivial rfl) (hW.atG_off z98 hga (ix := [0, 1]) (G := [_, _]) ⟨rfl, rfl, trivial⟩ (jx := []) (Fo := []) trivial) (hbnd _)) ?_
     rintro v cs L ⟨rfl, rfl, qs, hqs, rfl⟩
     refine ⟨⟨(j + 1, qs), by omega, ?_⟩, ?_, by simp only; omega⟩
     · rw [hqs, hps, ← mapOf_snoc, List.take_succ_eq_append_getElem hlj, List.map_append, List.map_cons, List.map_nil, List.append_assoc _ _ [_]]
     · exact weak_mk [0, 1, 2, 3, 4] zw6 zw0 zw6 zw5 zw11 rfl rfl
   have hgj : (s.sems[k]).m.queue.length ≤ j := by simpa using g
   rw [List.take_of_length_le hgj] at hps
   refine ⟨⟨(k + 1, ps, os), by omega, ?_, hos⟩, ?_, by simp only; omega⟩
   · have e : ([] : List (Int × Waiting)) ++ evL evSem 0 (s.pure.sems.take (k + 1)) = ([] : List (Int × Waiting)) ++ evL evSem 0 (s.pure.sems.take k) ++ (s.sems[k]).m.queue.map fun x => (x.t, ⟨2, (k : Int), x.n⟩) := by rw [hsucc]; simp [evSem]
     show pm ps = mapOf _
     rw [e]; exact hps
   · exact weak_mk [0, 1, 2, 3, 4] zw1 zw0 zw1 zw5 zw3 rfl rfl
 have hge : s.sems.length ≤ k := by simpa using g
 rw [List.take_of_length_le (by rw [len0]; exact hge)] at hps
 rw [List.nil_append] at hps
 have len1 : s.pure.onces.length = s.onces.length := mlen _ _
 refine LoopW.mk ⟨{ p : Nat × List (Int × LH Waiting) × List (Int × LH Int) // p.1 ≤ s.onces.length ∧ pm p.2.1 = mapOf (evL evSem 0 s.pure.sems ++ evL evOnce 0 (s.pure.onces.take p.1)) ∧ pm p.2.2 = mapOf (evL evOwn 0 (s.pure.onces.take p.1)) },
   fun p => .mk [(1, .p 0 0), (4, .p 1 0), (5, .v (.map (some r2))), (6, .f 166 [(1, 0)]), (57, .v (s.h3.val s.onces.length)), (58, .v (.int .i64 (s.onces.length : Int))), (59, .v (.int .i64 (p.1.1 : Int)))] 2 0 [(0, 35, 9), (1, 173, 1)]
     [((0, 2), .v (s.h2.val s.sems.length)), ((0, 3), .v (s.h3.val s.onces.length)), ((0, 4), .v (s.h4.val s.groups.length)), ((0, 5), .v (s.h5.val s.barriers.length)), ((0, 6), .v (s.h6.val s.chans.length)), ((1, 0), .v (.map (some r)))] [fMW r p.1.2.1, fO (rW p.1.2.1), fMap r2 venH p.1.2.2, fO (rI p.1.2.2), fR (stateO s)],
   fun p => s.onces.length - p.1.1, ⟨(0, ps, os), Nat.zero_le _, by simpa [evL] using hps, by simpa [evL] using hos⟩, ?_, ?_⟩
 · exact weak_mk [0, 1, 2, 3, 4] zw2 zw0 zw2 zw5 zw4 rfl rfl
 rintro ⟨⟨k, ps, os⟩, hk, hps, hos⟩
 simp only at hk hps hos
 apply CaseB.mk <;> intro g
 · have hlt : k < s.onces.length := by simpa using g
   have hltp : k < s.pure.onces.length := by rw [len1]; exact hlt
   have hget : s.pure.onces[k] = (s.onces[k]).m := by simp [StateH.pure]
   have hpre := evL_pre evOnce s.pure.onces hltp
   have hsucc := evL_succ evOnce s.pure.onces hltp
   rw [hget] at hpre hsucc
   have hw := e_succ k _ hlt (by omega)
   refine stop_idx encOnceH tabOk rfl rfl rfl rfl rfl ⟨rfl, rfl⟩ (rdVia 4 rfl (.trans (.R_R (stateO_onces s)) (.ofR nest_h))) k rfl z45 (fun ad => ?_)
   refine LoopW.mk ⟨{ p : Nat × List (Int × LH Waiting) // p.1 ≤ (s.onces[k]).m.waits.length ∧ pm p.2 = mapOf (evL evSem 0 s.pure.sems ++ evL evOnce 0 (s.pure.onces.take k) ++ ((s.onces[k]).m.waits.take p.1).map fun x => (x, ⟨4, (k : Int), 0⟩)) },
     fun p => .mk [(1, .p 0 0), (4, .p 1 0), (5, .v (.map (some r2))), (6, .f 166 [(1, 0)]), (57, .v (s.h3.val s.onces.length)), (58, .v (.int .i64 (s.onces.length : Int))), (59, .v (.int .i64 (k : Int))), (11, .v (.int .i64 (k : Int))), (12, .p 2 0), (65, .v ((s.onces[k]).q.val (s.onces[k]).m.waits.length)), (66, .v (.int .i64 ((s.onces[k]).m.waits.length : Int))), (67, .v (.int .i64 (p.1.1 : Int)))] 3 0 ((2, 102, 4) :: [(0, 35, 9), (1, 173, 1)])
       [((0, 2), .v (s.h2.val s.sems.length)), ((0, 3), .v (s.h3.val s.onces.length)), ((0, 4), .v (s.h4.val s.groups.length)), ((0, 5), .v (s.h5.val s.barriers.length)), ((0, 6), .v (s.h6.val s.chans.length)), ((1, 0), .v (.map (some r))), ((2, 0), .v (.int .i64 (s.onces[k]).m.state)), ((2, 1), .v (.int .i64 (s.onces[k]).m.owner))] [fMW r p.1.2, fO (rW p.1.2), fMap r2 venH os, fO (rI os), fR (stateO s)],
     fun p => (s.onces[k]).m.waits.length - p.1.1, ⟨(0, ps), Nat.zero_le _, by simpa using hps⟩, ?_, ?_⟩
   · exact weak_mk [0, 1, 2, 3, 4] zw2 zw0 zw2 zw5 zw4 rfl rfl
   rintro ⟨⟨j, ps⟩, hj, hps⟩
   simp only at hj hps
   apply CaseB.mk <;> intro g
   · have hlj : j < (s.onces[k]).m.waits.length := by simpa using g
     have hwj := e_succ j (s.onces[k]).m.waits.length hlj (by simp only [evOnce, List.length_map] at hpre; omega)
     have hbnd : ∀ t, ((aget ps t).getD LH.nil).xs.length ≤ 1048576 := fun t => by
       have h1 := pm_len hps t
       simp only [List.length_append, List.length_map, List.length_take] at h1
       have h2 : min j (s.onces[k]).m.waits.length ≤ (s.onces[k]).m.waits.length := Nat.min_le_right _ _
       simp only [evOnce, List.length_map] at hpre; omega
     refine stop_idx encInt tabOk rfl rfl rfl rfl rfl ⟨rfl, rfl⟩ (rdVia 4 rfl (.trans (.R_R (stateO_onces s)) (.ofR (oncesO_0 _ _ k hlt)))) j rfl z45 (fun ad2 => ?_)
     refine stop_callPGc _ [0, 1] (G := [_, _]) cl166 rfl rfl rfl rfl ⟨rfl, rfl⟩ rfl rfl ⟨rfl, rfl, trivial⟩ ⟨rfl, rfl, rfl, rfl, trivial⟩ (fun A w ga hga hW hblk => wAdd_c _ _ _ _ ga r ps w hblk (hW.atG [0, 1] (G := [_, _]) ⟨rfl, rfl, trivial⟩ rfl ⟨rfl, rfl, rfl, rfl, trivial⟩ [] (Fo := []) trivial rfl) (hW.atG_off z98 hga (ix := [0, 1]) (G := [_, _]) ⟨rfl, rfl, trivial⟩ (jx := []) (Fo := []) trivial) (hbnd _)) ?_
     rintro v cs L ⟨rfl, rfl, qs, hqs, rfl⟩
     refine ⟨⟨(j + 1, qs), by omega, ?_⟩, ?_, by simp only; omega⟩
     · rw [hqs, hps, ← mapOf_snoc, List.take_succ_eq_append_getElem hlj, List.map_append, List.map_cons, List.map_nil, List.append_assoc _ _ [_]]
     · exact weak_mk [0, 1, 2, 3, 4] zw6 zw0 zw6 zw5 zw11 rfl rfl
   have hgj : (s.onces[k]).m.waits.length ≤ j := by simpa using g
   rw [List.take_of_length_le hgj] at hps
   apply CaseB.mk <;> intro g
   · have hst : (s.onces[k]).m.state = 1 := by simpa using g
     have hob := pm_len hos (s.onces[k]).m.owner
     have hoL : (evL evOwn 0 (s.pure.onces.take k)).length ≤ 1048576 := by
       have : ∀ (i : Nat) (xs : List Once), (evL evOwn i xs).length ≤ xs.length := fun i xs => by
         induction xs generalizing i with
         | nil => simp [evL]
         | cons x r ih =>
           have := ih (i + 1)
           simp only [evL, evOwn, List.length_append, List.length_cons]
           split <;> simp <;> omega
       have h2 := this 0 (s.pure.onces.take k)
       simp only [List.length_take] at h2
       omega
     obtain ⟨u, hu⟩ : ∃ u, u = (aget os (s.onces[k]).m.owner).getD LH.nil := ⟨_, rfl⟩
     have hpm : ∀ y, pm (aset os (s.onces[k]).m.owner ⟨y, u.xs ++ [(k : Int)]⟩) = addM (pm os) ((s.onces[k]).m.owner, (k : Int)) := fun y => by rw [hu]; exact pm_add os _ _ y
     have hsO := evL_succ evOwn s.pure.onces hltp
     rw [hget] at hsO
     have hfin : ∀ y, pm (aset os (s.onces[k]).m.owner ⟨y, u.xs ++ [(k : Int)]⟩) = mapOf (evL evOwn 0 (s.pure.onces.take (k + 1))) := fun y => by
       rw [hpm, hos, ← mapOf_snoc, hsO]; simp [evOwn, hst]
     rw [← hu] at hob
     refine draw_shift (Shift.rowOut 3 (s.onces[k]).m.owner rfl) ?_
     rw [← hu]
     refine draw_start tabOk z97 z97 z97 200 [((2, 1), .v (.int .i64 (s.onces[k]).m.owner))] [] [] z142 z146 trivial rfl ?_
     refine BothW.mk ?_ ?_
     · refine d_lookup 4 (qk := .i64) (kt := 3) (et := 23) (z := .slice none 0 0) rfl rfl rfl rfl ⟨rfl, rfl⟩ z97 z97 z97 (u.q.val u.xs.length) (by rw [hu]; cases aget os (s.onces[k]).m.owner <;> rfl) ?_
       refine AllSl.mk fun b => ?_
       refine d_app (ti := tiOf tab) encInt 1 tabOk (ys := [(k : Int)]) rfl rfl rfl rfl rfl rfl rfl rfl rfl (by decide) ⟨rfl, rfl⟩ rfl z38 z45 z45 z95 (fun y => ?_)
       refine d_mapset 5 (⟨y, u.xs ++ [(k : Int)]⟩ : LH Int) (qk := .i64) (kt := 3) (et := 23) rfl rfl rfl rfl (fun _ => rfl) rfl rfl z97 z97 _ rfl z95 ?_
       refine ⟨⟨(k + 1, ps, aset os (s.onces[k]).m.owner ⟨y, u.xs ++ [(k : Int)]⟩), by omega, ?_, hfin y⟩, ?_, by simp only; omega⟩
       · have e : evL evSem 0 s.pure.sems ++ evL evOnce 0 (s.pure.onces.take (k + 1)) = evL evSem 0 s.pure.sems ++ evL evOnce 0 (s.pure.onces.take k) ++ (s.onces[k]).m.waits.map fun x => (x, ⟨4, (k : Int), 0⟩) := by rw [hsucc]; simp [evOnce]
         show pm ps = mapOf _
         rw [e]; exact hps
       · refine weak_shift (.joinO [1, 3] (Gs := [[_], _]) z132 rfl (G := rI (aset os (s.onces[k]).m.owner ⟨y, u.xs ++ [(k : Int)]⟩)) (.trans (.of_eq (by simp)) (rows_perm_set _ (⟨y, u.xs ++ [(k : Int)]⟩ : LH Int) os))) ?_
         exact weak_mk [3, 4, 1, 0, 5] zw1 zw0 zw1 zw5 zw3 rfl rfl
     · refine AllSl.mk fun b => ?_
       refine d_lookup 5 (qk := .i64) (kt := 3) (et := 23) (z := .slice none 0 0) rfl rfl rfl rfl ⟨rfl, rfl⟩ z97 z97 z97 (u.q.val u.xs.length) (by rw [hu]; cases aget os (s.onces[k]).m.owner <;> rfl) ?_
       refine d_app (ti := tiOf tab) encInt 1 tabOk (ys := [(k : Int)]) rfl rfl rfl rfl rfl rfl rfl rfl rfl (by decide) ⟨rfl, rfl⟩ rfl z38 z45 z45 z95 (fun y => ?_)
       refine d_mapset 5 (⟨y, u.xs ++ [(k : Int)]⟩ : LH Int) (qk := .i64) (kt := 3) (et := 23) rfl rfl rfl rfl (fun _ => rfl) rfl rfl z97 z97 _ rfl z95 ?_
       refine ⟨⟨(k + 1, ps, aset os (s.onces[k]).m.owner ⟨y, u.xs ++ [(k : Int)]⟩), by omega, ?_, hfin y⟩, ?_, by simp only; omega⟩
       · have e : evL evSem 0 s.pure.sems ++ evL evOnce 0 (s.pure.onces.take (k + 1)) = evL evSem 0 s.pure.sems ++ evL evOnce 0 (s.pure.onces.take k) ++ (s.onces[k]).m.waits.map fun x => (x, ⟨4, (k : Int), 0⟩) := by rw [hsucc]; simp [evOnce]
         show pm ps = mapOf _
         rw [e]; exact hps
       · refine weak_shift (.joinO [1, 3] (Gs := [[_], _]) z132 rfl (G := rI (aset os (s.onces[k]).m.owner ⟨y, u.xs ++ [(k : Int)]⟩)) (.trans (.of_eq (by simp)) (rows_perm_set _ (⟨y, u.xs ++ [(k : Int)]⟩ : LH Int) os))) ?_
         exact weak_mk [3, 4, 1, 0, 5] zw1 zw0 zw1 zw5 zw3 rfl rfl
   have hst : ¬ (s.onces[k]).m.state = 1 := by simpa using g
   have hsO := evL_succ evOwn s.pure.onces hltp
   rw [hget] at hsO
   refine ⟨⟨(k + 1, ps, os), by omega, ?_, by rw [hsO]; simpa [evOwn, hst] using hos⟩, ?_, by simp only; omega⟩
   · have e : evL evSem 0 s.pure.sems ++ evL evOnce 0 (s.pure.onces.take (k + 1)) = evL evSem 0 s.pure.sems ++ evL evOnce 0 (s.pure.onces.take k) ++ (s.onces[k]).m.waits.map fun x => (x, ⟨4, (k : Int), 0⟩) := by rw [hsucc]; simp [evOnce]
     show pm ps = mapOf _
     rw [e]; exact hps
   · exact weak_mk [0, 1, 2, 3, 4] zw1 zw0 zw1 zw5 zw3 rfl rfl
 have hge : s.onces.length ≤ k := by simpa using g
 rw [List.take_of_length_le (by rw [len1]; exact hge)] at hps
 rw [List.take_of_length_le (by rw [len1]; exact hge)] at hos
 have len2 : s.pure.groups.length = s.groups.length := mlen _ _
 refine LoopW.mk ⟨{ p : Nat × List (Int × LH Waiting) × List (Int × LH Int) // p.1 ≤ s.groups.length ∧ pm p.2.1 = mapOf (evL evSem 0 s.pure.sems ++ evL evOnce 0 s.pure.onces ++ evL evGroup 0 (s.pure.groups.take p.1)) ∧ pm p.2.2 = mapOf (owners s.pure) },
   fun p => .mk [(1, .p 0 0), (4, .p 1 0), (5, .v (.map (some r2))), (6, .f 166 [(1, 0)]), (91, .v (s.h4.val s.groups.length)), (92, .v (.int .i64 (s.groups.length : Int))), (93, .v (.int .i64 (p.1.1 : Int)))] 2 0 [(0, 35, 9), (1, 173, 1)]
     [((0, 2), .v (s.h2.val s.sems.length)), ((0, 3), .v (s.h3.val s.onces.length)), ((0, 4), .v (s.h4.val s.groups.length)), ((0, 5), .v (s.h5.val s.barriers.length)), ((0, 6), .v (s.h6.val s.chans.length)), ((1, 0), .v (.map (some r)))] [fMW r p.1.2.1, fO (rW p.1.2.1), fMap r2 venH p.1.2.2, fO (rI p.1.2.2), fR (stateO s)],
   fun p => s.groups.length - p.1.1, ⟨(0, ps, os), Nat.zero_le _, by simpa [evL] using hps, hos⟩, ?_, ?_⟩
 · exact weak_mk [0, 1, 2, 3, 4] zw2 zw0 zw2 zw5 zw4 rfl rfl
 rintro ⟨⟨k, ps, os⟩, hk, hps, hos⟩
 simp only at hk hps hos
 apply CaseB.mk <;> intro g
 · have hlt : k < s.groups.length := by simpa using g
   have hltp : k < s.pure.groups.length := by rw [len2]; exact hlt
   have hget : s.pure.groups[k] = (s.groups[k]).m := by simp [StateH.pure]
   have hpre := evL_pre evGroup s.pure.groups hltp
   have hsucc := evL_succ evGroup s.pure.groups hltp
   rw [hget] at hpre hsucc
   have hw := e_succ k _ hlt (by omega)
   refine stop_idx encGroupH tabOk rfl rfl rfl rfl rfl ⟨rfl, rfl⟩ (rdVia 4 rfl (.trans (.R_R (stateO_groups s)) (.ofR nest_h))) k rfl z45 (fun ad => ?_)
   refine LoopW.mk ⟨{ p : Nat × List (Int × LH Waiting) // p.1 ≤ (s.groups[k]).m.waits.length ∧ pm p.2 = mapOf (evL evSem 0 s.pure.sems ++ evL evOnce 0 s.pure.onces ++ evL evGroup 0 (s.pure.groups.take k) ++ ((s.groups[k]).m.waits.take p.1).map fun x => (x, ⟨6, (k : Int), 0⟩)) },
     fun p => .mk [(1, .p 0 0), (4, .p 1 0), (5, .v (.map (some r2))), (6, .f 166 [(1, 0)]), (91, .v (s.h4.val s.groups.length)), (92, .v (.int .i64 (s.groups.length : Int))), (93, .v (.int .i64 (k : Int))), (15, .v (.int .i64 (k : Int))), (16, .p 2 0), (99, .v ((s.groups[k]).q.val (s.groups[k]).m.waits.length)), (100, .v (.int .i64 ((s.groups[k]).m.waits.length : Int))), (101, .v (.int .i64 (p.1.1 : Int)))] 3 0 ((2, 108, 2) :: [(0, 35, 9), (1, 173, 1)])
       [((0, 2), .v (s.h2.val s.sems.length)), ((0, 3), .v (s.h3.val s.onces.length)), ((0, 4), .v (s.h4.val s.groups.length)), ((0, 5), .v (s.h5.val s.barriers.length)), ((0, 6), .v (s.h6.val s.chans.length)), ((1, 0), .v (.map (some r)))] [fMW r p.1.2, fO (rW p.1.2), fMap r2 venH os, fO (rI os), fR (stateO s)],
     fun p => (s.groups[k]).m.waits.length - p.1.1, ⟨(0, ps), Nat.zero_le _, by simpa using hps⟩, ?_, ?_⟩
   · exact weak_mk [0, 1, 2, 3, 4] zw2 zw0 zw2 zw5 zw4 rfl rfl
   rintro ⟨⟨j, ps⟩, hj, hps⟩
   simp only at hj hps
   apply CaseB.mk <;> intro g
   · have hlj : j < (s.groups[k]).m.waits.length := by simpa using g
     have hwj := e_succ j (s.groups[k]).m.waits.length hlj (by simp only [evGroup, List.length_map] at hpre; omega)
     have hbnd : ∀ t, ((aget ps t).getD LH.nil).xs.length ≤ 1048576 := fun t => by
       have h1 := pm_len hps t
       simp only [List.length_append, List.length_map, List.length_take] at h1
       have h2 : min j (s.groups[k]).m.waits.length ≤ (s.groups[k]).m.waits.length := Nat.min_le_right _ _
       simp only [evGroup, List.length_map] at hpre; omega
     refine stop_idx encInt tabOk rfl rfl rfl rfl rfl ⟨rfl, rfl⟩ (rdVia 4 rfl (.trans (.R_R (stateO_groups s)) (.ofR (groupsO_0 _ _ k hlt)))) j rfl z45 (fun ad2 => ?_)
     refine stop_callPGc _ [0, 1] (G := [_, _]) cl166 rfl rfl rfl rfl ⟨rfl, rfl⟩ rfl rfl ⟨rfl, rfl, trivial⟩ ⟨rfl, rfl, rfl, rfl, trivial⟩ (fun A w ga hga hW hblk => wAdd_c _ _ _ _ ga r ps w hblk (hW.atG [0, 1] (G := [_, _]) ⟨rfl, rfl, trivial⟩ rfl ⟨rfl, rfl, rfl, rfl, trivial⟩ [] (Fo := []) trivial rfl) (hW.atG_off z98 hga (ix := [0, 1]) (G := [_, _]) ⟨rfl, rfl, trivial⟩ (jx := []) (Fo := []) trivial) (hbnd _)) ?_
     rintro v cs L ⟨rfl, rfl, qs, hqs, rfl⟩
     refine ⟨⟨(j + 1, qs), by omega, ?_⟩, ?_, by simp only; omega⟩
     · rw [hqs, hps, ← mapOf_snoc, List.take_succ_eq_append_getElem hlj, List.map_append, List.map_cons, List.map_nil, List.append_assoc _ _ [_]]
     · exact weak_mk [0, 1, 2, 3, 4] zw6 zw0 zw6 zw5 zw11 rfl rfl
   have hgj : (s.groups[k]).m.waits.length ≤ j := by simpa using g
   rw [List.take_of_length_le hgj] at hps
   refine ⟨⟨(k + 1, ps, os), by omega, ?_, hos⟩, ?_, by simp only; omega⟩
   · have e : evL evSem 0 s.pure.sems ++ evL evOnce 0 s.pure.onces ++ evL evGroup 0 (s.pure.groups.take (k + 1)) = evL evSem 0 s.pure.sems ++ evL evOnce 0 s.pure.onces ++ evL evGroup 0 (s.pure.groups.take k) ++ (s.groups[k]).m.waits.map fun x => (x, ⟨6, (k : Int), 0⟩) := by rw [hsucc]; simp [evGroup]
     show pm ps = mapOf _
     rw [e]; exact hps
   · exact weak_mk [0, 1, 2, 3, 4] zw1 zw0 zw1 zw5 zw3 rfl rfl
 have hge : s.groups.length ≤ k := by simpa using g
 rw [List.take_of_length_le (by rw [len2]; exact hge)] at hps
 have len3 : s.pure.barriers.length = s.barriers.length := mlen _ _
 refine LoopW.mk ⟨{ p : Nat × List (Int × LH Waiting) × List (Int × LH Int) // p.1 ≤ s.barriers.length ∧ pm p.2.1 = mapOf (evL evSem 0 s.pure.sems ++ evL evOnce 0 s.pure.onces ++ evL evGroup 0 s.pure.groups ++ evL evBarrier 0 (s.pure.barriers.take p.1)) ∧ pm p.2.2 = mapOf (owners s.pure) },
   fun p => .mk [(1, .p 0 0), (4, .p 1 0), (5, .v (.map (some r2))), (6, .f 166 [(1, 0)]), (112, .v (s.h5.val s.barriers.length)), (113, .v (.int .i64 (s.barriers.length : Int))), (114, .v (.int .i64 (p.1.1 : Int)))] 2 0 [(0, 35, 9), (1, 173, 1)]
     [((0, 2), .v (s.h2.val s.sems.length)), ((0, 3), .v (s.h3.val s.onces.length)), ((0, 4), .v (s.h4.val s.groups.length)), ((0, 5), .v (s.h5.val s.barriers.length)), ((0, 6), .v (s.h6.val s.chans.length)), ((1, 0), .v (.map (some r)))] [fMW r p.1.2.1, fO (rW p.1.2.1), fMap r2 venH p.1.2.2, fO (rI p.1.2.2), fR (stateO s)],
   fun p => s.barriers.length - p.1.1, ⟨(0, ps, os), Nat.zero_le _, by simpa [evL] using hps, hos⟩, ?_, ?_⟩
 · exact weak_mk [0, 1, 2, 3, 4] zw2 zw0 zw2 zw5 zw4 rfl rfl
 rintro ⟨⟨k, ps, os⟩, hk, hps, hos⟩
 simp only at hk hps hos
 apply CaseB.mk <;> intro g
 · have hlt : k < s.barriers.length := by simpa using g
   have hltp : k < s.pure.barriers.length := by rw [len3]; exact hlt
   have hget : s.pure.barriers[k] = (s.barriers[k]).m := by simp [StateH.pure]
   have hpre := evL_pre evBarrier s.pure.barriers hltp
   have hsucc := evL_succ evBarrier s.pure.barriers hltp
   rw [hget] at hpre hsucc
   have hw := e_succ k _ hlt (by omega)
   refine stop_idx encBarrierH tabOk rfl rfl rfl rfl rfl ⟨rfl, rfl⟩ (rdVia 4 rfl (.trans (.R_R (stateO_barriers s)) (.ofR nest_h))) k rfl z45 (fun ad => ?_)
   refine LoopW.mk ⟨{ p : Nat × List (Int × LH Waiting) // p.1 ≤ (s.barriers[k]).m.waits.length ∧ pm p.2 = mapOf (evL evSem 0 s.pure.sems ++ evL evOnce 0 s.pure.onces ++ evL evGroup 0 s.pure.groups ++ evL evBarrier 0 (s.pure.barriers.take k) ++ ((s.barriers[k]).m.waits.take p.1).map fun x => (x, ⟨7, (k : Int), 0⟩)) },
     fun p => .mk [(1, .p 0 0), (4, .p 1 0), (5, .v (.map (some r2))), (6, .f 166 [(1, 0)]), (112, .v (s.h5.val s.barriers.length)), (113, .v (.int .i64 (s.barriers.length : Int))), (114, .v (.int .i64 (k : Int))), (19, .v (.int .i64 (k : Int))), (20, .p 2 0), (120, .v ((s.barriers[k]).q.val (s.barriers[k]).m.waits.length)), (121, .v (.int .i64 ((s.barriers[k]).m.waits.length : Int))), (122, .v (.int .i64 (p.1.1 : Int)))] 3 0 ((2, 114, 3) :: [(0, 35, 9), (1, 173, 1)])
       [((0, 2), .v (s.h2.val s.sems.length)), ((0, 3), .v (s.h3.val s.onces.length)), ((0, 4), .v (s.h4.val s.groups.length)), ((0, 5), .v (s.h5.val s.barriers.length)), ((0, 6), .v (s.h6.val s.chans.length)), ((1, 0), .v (.map (some r)))] [fMW r p.1.2, fO (rW p.1.2), fMap r2 venH os, fO (rI os), fR (stateO s)],
     fun p => (s.barriers[k]).m.waits.length - p.1.1, ⟨(0, ps), Nat.zero_le _, by simpa using hps⟩, ?_, ?_⟩
   · exact weak_mk [0, 1, 2, 3, 4] zw2 zw0 zw2 zw5 zw4 rfl rfl
   rintro ⟨⟨j, ps⟩, hj, hps⟩
   simp only at hj hps
   apply CaseB.mk <;> intro g
   · have hlj : j < (s.barriers[k]).m.waits.length := by simpa using g
     have hwj := e_succ j (s.barriers[k]).m.waits.length hlj (by simp only [evBarrier, List.length_map] at hpre; omega)
     have hbnd : ∀ t, ((aget ps t).getD LH.nil).xs.length ≤ 1048576 := fun t => by
       have h1 := pm_len hps t
       simp only [List.length_append, List.length_map, List.length_take] at h1
       have h2 : min j (s.barriers[k]).m.waits.length ≤ (s.barriers[k]).m.waits.length := Nat.min_le_right _ _
       simp only [evBarrier, List.length_map] at hpre; omega
     refine stop_idx encInt tabOk rfl rfl rfl rfl rfl ⟨rfl, rfl⟩ (rdVia 4 rfl (.trans (.R_R (stateO_barriers s)) (.ofR (barriersO_0 _ _ k hlt)))) j rfl z45 (fun ad2 => ?_)
     refine stop_callPGc _ [0, 1] (G := [_, _]) cl166 rfl rfl rfl rfl ⟨rfl, rfl⟩ rfl rfl ⟨rfl, rfl, trivial⟩ ⟨rfl, rfl, rfl, rfl, trivial⟩ (fun A w ga hga hW hblk => wAdd_c _ _ _ _ ga r ps w hblk (hW.atG [0, 1] (G := [_, _]) ⟨rfl, rfl, trivial⟩ rfl ⟨rfl, rfl, rfl, rfl, trivial⟩ [] (Fo := []) trivial rfl) (hW.atG_off z98 hga (ix := [0, 1]) (G := [_, _]) ⟨rfl, rfl, trivial⟩ (jx := []) (Fo := []) trivial) (hbnd _)) ?_
     rintro v cs L ⟨rfl, rfl, qs, hqs, rfl⟩
     refine ⟨⟨(j + 1, qs), by omega, ?_⟩, ?_, by simp only; omega⟩
     · rw [hqs, hps, ← mapOf_snoc, List.take_succ_eq_append_getElem hlj, List.map_append, List.map_cons, List.map_nil, List.append_assoc _ _ [_]]
     · exact weak_mk [0, 1, 2, 3, 4] zw6 zw0 zw6 zw5 zw11 rfl rfl
   have hgj : (s.barriers[k]).m.waits.length ≤ j := by simpa using g
   rw [List.take_of_length_le hgj] at hps
   refine ⟨⟨(k + 1, ps, os), by omega, ?_, hos⟩, ?_, by simp only; omega⟩
   · have e : evL evSem 0 s.pure.sems ++ evL evOnce 0 s.pure.onces ++ evL evGroup 0 s.pure.groups ++ evL evBarrier 0 (s.pure.barriers.take (k + 1)) = evL evSem 0 s.pure.sems ++ evL evOnce 0 s.pure.onces ++ evL evGroup 0 s.pure.groups ++ evL evBarrier 0 (s.pure.barriers.take k) ++ (s.barriers[k]).m.waits.map fun x => (x, ⟨7, (k : Int), 0⟩) := by rw [hsucc]; simp [evBarrier]
     show pm ps = mapOf _
     rw [e]; exact hps
   · exact weak_mk [0, 1, 2, 3, 4] zw1 zw0 zw1 zw5 zw3 rfl rfl
 have hge : s.barriers.length ≤ k := by simpa using g
 rw [List.take_of_length_le (by rw [len3]; exact hge)] at hps
 have len4 : s.pure.chans.length = s.chans.length := mlen _ _
 refine LoopW.mk ⟨{ p : Nat × List (Int × LH Waiting) × List (Int × LH Int) // p.1 ≤ s.chans.length ∧ pm p.2.1 = mapOf (evL evSem 0 s.pure.sems ++ evL evOnce 0 s.pure.onces ++ evL evGroup 0 s.pure.groups ++ evL evBarrier 0 s.pure.barriers ++ evL evChan 0 (s.pure.chans.take p.1)) ∧ pm p.2.2 = mapOf (owners s.pure) },
   fun p => .mk [(1, .p 0 0), (4, .p 1 0), (5, .v (.map (some r2))), (6, .f 166 [(1, 0)]), (133, .v (s.h6.val s.chans.length)), (134, .v (.int .i64 (s.chans.length : Int))), (135, .v (.int .i64 (p.1.1 : Int)))] 2 0 [(0, 35, 9), (1, 173, 1)]
     [((0, 2), .v (s.h2.val s.sems.length)), ((0, 3), .v (s.h3.val s.onces.length)), ((0, 4), .v (s.h4.val s.groups.length)), ((0, 5), .v (s.h5.val s.barriers.length)), ((0, 6), .v (s.h6.val s.chans.length)), ((1, 0), .v (.map (some r)))] [fMW r p.1.2.1, fO (rW p.1.2.1), fMap r2 venH p.1.2.2, fO (rI p.1.2.2), fR (stateO s)],
   fun p => s.chans.length - p.1.1, ⟨(0, ps, os), Nat.zero_le _, by simpa [evL] using hps, hos⟩, ?_, ?_⟩
 · exact weak_mk [0, 1, 2, 3, 4] zw2 zw0 zw2 zw5 zw4 rfl rfl
 rintro ⟨⟨k, ps, os⟩, hk, hps, hos⟩
 simp only at hk hps hos
 apply CaseB.mk <;> intro g
 · have hlt : k < s.chans.length := by simpa using g
   have hltp : k < s.pure.chans.length := by rw [len4]; exact hlt
   have hget : s.pure.chans[k] = (s.chans[k]).m := by simp [StateH.pure]
   have hpre := evL_pre evChan s.pure.chans hltp
   have hsucc := evL_succ evChan s.pure.chans hltp
   rw [hget] at hpre hsucc
   have hw := e_succ k _ hlt (by omega)
   refine stop_idx encChanH tabOk rfl rfl rfl rfl rfl ⟨rfl, rfl⟩ (rdVia 4 rfl (.trans (.R_R (stateO_chans s)) (.ofR nest_h))) k rfl z45 (fun ad => ?_)
   refine LoopW.mk ⟨{ p : Nat × List (Int × LH Waiting) // p.1 ≤ (s.chans[k]).m.senders.length ∧ pm p.2 = mapOf (evL evSem 0 s.pure.sems ++ evL evOnce 0 s.pure.onces ++ evL evGroup 0 s.pure.groups ++ evL evBarrier 0 s.pure.barriers ++ evL evChan 0 (s.pure.chans.take k) ++ ((s.chans[k]).m.senders.take p.1).map fun x => (x.t, ⟨8, (k : Int), x.v⟩)) },
     fun p => .mk [(1, .p 0 0), (4, .p 1 0), (5, .v (.map (some r2))), (6, .f 166 [(1, 0)]), (133, .v (s.h6.val s.chans.length)), (134, .v (.int .i64 (s.chans.length : Int))), (135, .v (.int .i64 (k : Int))), (23, .v (.int .i64 (k : Int))), (24, .p 2 0), (141, .v ((s.chans[k]).q1.val (s.chans[k]).m.senders.length)), (142, .v (.int .i64 ((s.chans[k]).m.senders.length : Int))), (143, .v (.int .i64 (p.1.1 : Int)))] 3 0 ((2, 119, 5) :: [(0, 35, 9), (1, 173, 1)])
       [((0, 2), .v (s.h2.val s.sems.length)), ((0, 3), .v (s.h3.val s.onces.length)), ((0, 4), .v (s.h4.val s.groups.length)), ((0, 5), .v (s.h5.val s.barriers.length)), ((0, 6), .v (s.h6.val s.chans.length)), ((1, 0), .v (.map (some r))), ((2, 3), .v ((s.chans[k]).q2.val (s.chans[k]).m.getters.length))] [fMW r p.1.2, fO (rW p.1.2), fMap r2 venH os, fO (rI os), fR (stateO s)],
     fun p => (s.chans[k]).m.senders.length - p.1.1, ⟨(0, ps), Nat.zero_le _, by simpa using hps⟩, ?_, ?_⟩
   · exact weak_mk [0, 1, 2, 3, 4] zw2 zw0 zw2 zw5 zw4 rfl rfl
   rintro ⟨⟨j, ps⟩, hj, hps⟩
   simp only at hj hps
   apply CaseB.mk <;> intro g
   · have hlj : j < (s.chans[k]).m.senders.length := by simpa using g
     have hwj := e_succ j (s.chans[k]).m.senders.length hlj z65
     have hbnd : ∀ t, ((aget ps t).getD LH.nil).xs.length ≤ 1048576 := fun t => by
       have h1 := pm_len hps t
       simp only [List.length_append, List.length_map, List.length_take] at h1
       have h2 : min j (s.chans[k]).m.senders.length ≤ (s.chans[k]).m.senders.length := Nat.min_le_right _ _
       simp only [evChan, List.length_append, List.length_map] at hpre; omega
     refine stop_idx encLet tabOk rfl rfl rfl rfl rfl ⟨rfl, rfl⟩ (rdVia 4 rfl (.trans (.R_R (stateO_chans s)) (.ofR (chansO_1 _ _ k hlt)))) j rfl z45 (fun ad2 => ?_)
     refine stop_callPGc _ [0, 1] (G := [_, _]) cl166 rfl rfl rfl rfl ⟨rfl, rfl⟩ rfl rfl ⟨rfl, rfl, trivial⟩ ⟨rfl, rfl, rfl, rfl, trivial⟩ (fun A w ga hga hW hblk => wAdd_c _ _ _ _ ga r ps w hblk (hW.atG [0, 1] (G := [_, _]) ⟨rfl, rfl, trivial⟩ rfl ⟨rfl, rfl, rfl, rfl, trivial⟩ [] (Fo := []) trivial rfl) (hW.atG_off z98 hga (ix := [0, 1]) (G := [_, _]) ⟨rfl, rfl, trivial⟩ (jx := []) (Fo := []) trivial) (hbnd _)) ?_
     rintro v cs L ⟨rfl, rfl, qs, hqs, rfl⟩
     refine ⟨⟨(j + 1, qs), by omega, ?_⟩, ?_, by simp only; omega⟩
     · rw [hqs, hps, ← mapOf_snoc, List.take_succ_eq_append_getElem hlj, List.map_append, List.map_cons, List.map_nil, List.append_assoc _ _ [_]]
     · exact weak_mk [0, 1, 2, 3, 4] zw6 zw0 zw6 zw5 zw11 rfl rfl
   have hgj : (s.chans[k]).m.senders.length ≤ j := by simpa using g
   rw [List.take_of_length_le hgj] at hps
   refine LoopW.mk ⟨{ p : Nat × List (Int × LH Waiting) // p.1 ≤ (s.chans[k]).m.getters.length ∧ pm p.2 = mapOf ((evL evSem 0 s.pure.sems ++ evL evOnce 0 s.pure.onces ++ evL evGroup 0 s.pure.groups ++ evL evBarrier 0 s.pure.barriers ++ evL evChan 0 (s.pure.chans.take k) ++ (s.chans[k]).m.senders.map fun x => (x.t, ⟨8, (k : Int), x.v⟩)) ++ ((s.chans[k]).m.getters.take p.1).map fun x => (x, ⟨9, (k : Int), 0⟩)) },
     fun p => .mk [(1, .p 0 0), (4, .p 1 0), (5, .v (.map (some r2))), (6, .f 166 [(1, 0)]), (133, .v (s.h6.val s.chans.length)), (134, .v (.int .i64 (s.chans.length : Int))), (135, .v (.int .i64 (k : Int))), (23, .v (.int .i64 (k : Int))), (24, .p 2 0), (156, .v ((s.chans[k]).q2.val (s.chans[k]).m.getters.length)), (157, .v (.int .i64 ((s.chans[k]).m.getters.length : Int))), (158, .v (.int .i64 (p.1.1 : Int)))] 3 0 ((2, 119, 5) :: [(0, 35, 9), (1, 173, 1)])
       [((0, 2), .v (s.h2.val s.sems.length)), ((0, 3), .v (s.h3.val s.onces.length)), ((0, 4), .v (s.h4.val s.groups.length)), ((0, 5), .v (s.h5.val s.barriers.length)), ((0, 6), .v (s.h6.val s.chans.length)), ((1, 0), .v (.map (some r)))] [fMW r p.1.2, fO (rW p.1.2), fMap r2 venH os, fO (rI os), fR (stateO s)],
     fun p => (s.chans[k]).m.getters.length - p.1.1, ⟨(0, ps), Nat.zero_le _, by simpa using hps⟩, ?_, ?_⟩
   · exact weak_mk [0, 1, 2, 3, 4] zw2 zw0 zw2 zw5 zw4 rfl rfl
   rintro ⟨⟨j, ps⟩, hj, hps⟩
   simp only at hj hps
   apply CaseB.mk <;> intro g
   · have hlj : j < (s.chans[k]).m.getters.length := by simpa using g
     have hwj := e_succ j (s.chans[k]).m.getters.length hlj z65
     have hbnd : ∀ t, ((aget ps t).getD LH.nil).xs.length ≤ 1048576 := fun t => by
       have h1 := pm_len hps t
       simp only [List.length_append, List.length_map, List.length_take] at h1
       have h2 : min j (s.chans[k]).m.getters.length ≤ (s.chans[k]).m.getters.length := Nat.min_le_right _ _
       simp only [evChan, List.length_append, List.length_map] at hpre; omega
     refine stop_idx encInt tabOk rfl rfl rfl rfl rfl ⟨rfl, rfl⟩ (rdVia 4 rfl (.trans (.R_R (stateO_chans s)) (.ofR (chansO_2 _ _ k hlt)))) j rfl z45 (fun ad2 => ?_)
     refine stop_callPGc _ [0, 1] (G := [_, _]) cl166 rfl rfl rfl rfl ⟨rfl, rfl⟩ rfl rfl ⟨rfl, rfl, trivial⟩ ⟨rfl, rfl, rfl, rfl, trivial⟩ (fun A w ga hga hW hblk => wAdd_c _ _ _ _ ga r ps w hblk (hW.atG [0, 1] (G := [_, _]) ⟨rfl, rfl, trivial⟩ rfl ⟨rfl, rfl, rfl, rfl, trivial⟩ [] (Fo := []) trivial rfl) (hW.atG_off z98 hga (ix := [0, 1]) (G := [_, _]) ⟨rfl, rfl, trivial⟩ (jx := []) (Fo := []) trivial) (hbnd _)) ?_
     rintro v cs L ⟨rfl, rfl, qs, hqs, rfl⟩
     refine ⟨⟨(j + 1, qs), by omega, ?_⟩, ?_, by simp only; omega⟩
     · rw [hqs, hps, ← mapOf_snoc, List.take_succ_eq_append_getElem hlj, List.map_append, List.map_cons, List.map_nil, List.append_assoc _ _ [_]]
     · exact weak_mk [0, 1, 2, 3, 4] zw6 zw0 zw6 zw5 zw11 rfl rfl
   have hgj : (s.chans[k]).m.getters.length ≤ j := by simpa using g
   rw [List.take_of_length_le hgj] at hps
   refine ⟨⟨(k + 1, ps, os), by omega, ?_, hos⟩, ?_, by simp only; omega⟩
   · have e : evL evSem 0 s.pure.sems ++ evL evOnce 0 s.pure.onces ++ evL evGroup 0 s.pure.groups ++ evL evBarrier 0 s.pure.barriers ++ evL evChan 0 (s.pure.chans.take (k + 1)) = (evL evSem 0 s.pure.sems ++ evL evOnce 0 s.pure.onces ++ evL evGroup 0 s.pure.groups ++ evL evBarrier 0 s.pure.barriers ++ evL evChan 0 (s.pure.chans.take k) ++ (s.chans[k]).m.senders.map fun x => (x.t, ⟨8, (k : Int), x.v⟩)) ++ (s.chans[k]).m.getters.map fun x => (x, ⟨9, (k : Int), 0⟩) := by rw [hsucc]; simp [evChan]
     show pm ps = mapOf _
     rw [e]; exact hps
   · exact weak_mk [0, 1, 2, 3, 4] zw1 zw0 zw1 zw5 zw3 rfl rfl
 have hge : s.chans.length ≤ k := by simpa using g
 rw [List.take_of_length_le (by rw [len4]; exact hge)] at hps
 exact retw [0, 1, 2, 3] ⟨r, r2, ps, os, rfl, hps, hos, rfl⟩ z118 rfl ⟨rfl, rfl, rfl, rfl, trivial⟩ (fun _ => rfl)
def within (xs : List Int) (lo hi : Int) : Prop := xs.length ≤ 3 ∧ ∀ x ∈ xs, lo ≤ x ∧ x ≤ hi
def Prog.shared (p : Prog) (k : Int) : Int := if k = 1 then 1 else if k = 2 ∨ k = 3 then p.sems.length else if k = 4 then 3 else if k = 5 ∨ k = 6 then p.groups.length else if k = 7 then p.barriers.length else p.rooms.length
def Prog.argOk (p : Prog) (o : Op) : Prop := if o.kind = 2 ∨ o.kind = 3 then 1 ≤ o.arg ∧ o.arg ≤ p.sems.getD o.on.toNat 0 else if o.kind = 5 then -9 ≤ o.arg ∧ o.arg ≤ 9 else if o.kind = 1 ∨ o.kind = 4 ∨ o.kind = 8 then isValue o.arg = true else o.arg = 0
def OpOk (p : Prog) (o : Op) : Prop := 1 ≤ o.kind ∧ o.kind ≤ 10 ∧ 0 ≤ o.on ∧ o.on < p.shared o.kind ∧ p.argOk o
structure ProgOk (p : Prog) : Prop where
 sems : within p.sems 1 9
 groups : within p.groups 0 9
 barriers : within p.barriers 1 6
 rooms : within p.rooms 0 4
 n1 : 1 ≤ p.threads.length
 n4 : p.threads.length ≤ 4
 ops : ∀ t ∈ p.threads, t.length ≤ 8 ∧ ∀ o ∈ t, OpOk p o
theorem opOk1 {p : Prog} {o : Op} (h : o.kind = 1) : OpOk p o ↔ o.on = 0 ∧ isValue o.arg = true := by
 simp only [OpOk, Prog.shared, Prog.argOk, h]; by_cases hv : isValue o.arg = true <;> simp [hv] <;> omega
theorem opOk2 {p : Prog} {o : Op} (h : o.kind = 2 ∨ o.kind = 3) : OpOk p o ↔ (0 ≤ o.on ∧ o.on < p.sems.length) ∧ 1 ≤ o.arg ∧ o.arg ≤ p.sems.getD o.on.toNat 0 := by
 rcases h with h | h <;> simp only [OpOk, Prog.shared, Prog.argOk, h] <;> simp <;> omega
theorem opOk4 {p : Prog} {o : Op} (h : o.kind = 4) : OpOk p o ↔ 0 ≤ o.on ∧ o.on ≤ 2 ∧ isValue o.arg = true := by
 simp only [OpOk, Prog.shared, Prog.argOk, h]; by_cases hv : isValue o.arg = true <;> simp [hv] <;> omega
theorem opOk5 {p : Prog} {o : Op} (h : o.kind = 5) : OpOk p o ↔ (0 ≤ o.on ∧ o.on < p.groups.length) ∧ -9 ≤ o.arg ∧ o.arg ≤ 9 := by
 simp only [OpOk, Prog.shared, Prog.argOk, h]; simp; omega
theorem opOk6 {p : Prog} {o : Op} (h : o.kind = 6) : OpOk p o ↔ (0 ≤ o.on ∧ o.on < p.groups.length) ∧ o.arg = 0 := by
 simp only [OpOk, Prog.shared, Prog.argOk, h]; simp; omega
theorem opOk7 {p : Prog} {o : Op} (h : o.kind = 7) : OpOk p o ↔ (0 ≤ o.on ∧ o.on < p.barriers.length) ∧ o.arg = 0 := by
 simp only [OpOk, Prog.shared, Prog.argOk, h]; simp; omega
theorem opOk8 {p : Prog} {o : Op} (h : o.kind = 8) : OpOk p o ↔ (0 ≤ o.on ∧ o.on < p.rooms.length) ∧ isValue o.arg = true := by
 simp only [OpOk, Prog.shared, Prog.argOk, h]; by_cases hv : isValue o.arg = true <;> simp [hv] <;> omega
theorem opOk9 {p : Prog} {o : Op} (h : o.kind = 9 ∨ o.kind = 10) : OpOk p o ↔ (0 ≤ o.on ∧ o.on < p.rooms.length) ∧ o.arg = 0 := by
 rcases h with h | h <;> simp only [OpOk, Prog.shared, Prog.argOk, h] <;> simp <;> omega
theorem opOk0 {p : Prog} {o : Op} (h : o.kind < 1 ∨ 10 < o.kind) : ¬ OpOk p o := fun e => by
 obtain ⟨h1, h2, _⟩ := e; omega
theorem tno {P : Prop} (h : ¬ P) : false = true ↔ P := ⟨fun e => z100, fun e => (h e).elim⟩
theorem tyes {P : Prop} (h : P) : true = true ↔ P := ⟨fun _ => h, fun _ => rfl⟩
abbrev Tells (w : World) (P : Prop) : Ending → World → Prop := Ret w fun v L => ∃ b : Bool, v = .bool b ∧ (b = true ↔ P) ∧ L = []
set_option maxRecDepth 100000 in
theorem indexFunc_c {fv : FuncId} {cap : Array Value} {G : List Fct} {q : Int → Bool} (hcl : callable Tryz.prog fv = true) (hc : ∀ x w, At w [fB true G] → Calls Tryz.prog fv ([Value.int .i64 x] ++ cap.toList).toArray w (Ret w fun v L => v = .bool (q x) ∧ L = []))
   (i : Sl) (xs : List Int) (w : World) (h : At w [slo i cInt 1 xs, fB true G]) (hb : xs.length ≤ 4294967296) :
   Calls Tryz.prog 103 #[i.val xs.length, .func (.func fv) #[] cap] w (Ret w fun v L => ∃ k : Int, v = .int .i64 k ∧ (0 ≤ k ↔ ∃ x ∈ xs, q x = true) ∧ L = []) := by
 refine calls2 Tryz.func103 rfl tabOk w _ rfl _ rfl _ h ⟨rfl, rfl, rfl, rfl, trivial⟩ _ _ (by decide) ?_
 refine LoopW.mk ⟨{ k : Nat // k ≤ xs.length ∧ ∀ x ∈ xs.take k, ¬ q x = true },
   fun p => .mk [(0, .v (i.val xs.length)), (1, .v (.func (.func fv) #[] cap)), (7, .v (.int .i64 xs.length)), (8, .v (.int .i64 p.1))] 0 0 [] [] [slo i cInt 1 xs, fB true G],
   fun p => xs.length - p.1, ⟨0, Nat.zero_le _, by simp⟩, ?_, ?_⟩
 · exact weak_mk [0, 1] zw2 zw0 zw2 zw5 zw4 rfl rfl
 · rintro ⟨k, hk, he⟩
   refine CaseB.mk (fun h => ?_) (fun h => ?_)
   · have hlt : k < xs.length := by simpa using h
     refine stop_idx encInt tabOk rfl rfl rfl rfl rfl ⟨rfl, rfl⟩ z38 k rfl z45 (fun ad => ?_)
     refine stop_callV _ hcl rfl rfl rfl rfl ⟨rfl, rfl⟩ (fun A w hW => hc _ w ⟨hW.get 1 rfl (.refl _), trivial⟩) ?_
     rintro v L ⟨rfl, rfl⟩
     refine CaseB.mk (fun h => ?_) (fun h => ?_)
     · exact ret0 ⟨(k : Int), rfl, ⟨fun _ => ⟨xs[k], List.getElem_mem hlt, h⟩, fun _ => Int.natCast_nonneg k⟩, rfl⟩ (fun _ => rfl)
     · have hw := wrapN k _ hlt hb
       refine ⟨⟨k + 1, by omega, fun x hx => ?_⟩, ?_, by simp; omega⟩
       · rw [List.take_succ_eq_append_getElem hlt] at hx
         rcases List.mem_append.1 hx with hx | hx
         · exact he x hx
         · simp at hx; subst hx; simpa using h
       · exact weak_mk [0, 1] zw1 zw0 zw1 zw5 zw3 rfl rfl
   · have hge : xs.length ≤ k := by simpa using h
     rw [List.take_of_length_le hge] at he
     exact ret0 ⟨-1, rfl, ⟨fun h => by omega, fun ⟨x, hx, hq⟩ => (he x hx hq).elim⟩, rfl⟩ (fun _ => rfl)
set_option maxRecDepth 100000 in
theorem containsFunc_c {fv : FuncId} {cap : Array Value} {G : List Fct} {q : Int → Bool} (hcl : callable Tryz.prog fv = true) (hc : ∀ x w, At w [fB true G] → Calls Tryz.prog fv ([Value.int .i64 x] ++ cap.toList).toArray w (Ret w fun v L => v = .bool (q x) ∧ L = []))
   (i : Sl) (xs : List Int) (w : World) (h : At w [slo i cInt 1 xs, fB true G]) (hb : xs.length ≤ 4294967296) :
   Calls Tryz.prog 42 #[i.val xs.length, .func (.func fv) #[] cap] w (Tells w (∃ x ∈ xs, q x = true)) := by
 refine calls2 Tryz.func42 rfl tabOk w _ rfl _ rfl _ h ⟨rfl, rfl, rfl, rfl, trivial⟩ _ _ (by decide) ?_
 refine stop_call _ cl103 rfl rfl rfl rfl ⟨rfl, rfl⟩ (fun A w hW => indexFunc_c hcl hc i xs w ⟨hW.get 0 rfl (.refl _), hW.get 1 rfl (.refl _), trivial⟩ hb) ?_
 rintro v L ⟨k, rfl, hk, rfl⟩
 exact ret0 ⟨_, rfl, by simpa using hk, rfl⟩ (fun _ => rfl)
abbrev varI2 (g : Nat) (t : Int) : Fct := fVar g 3 [.int .i64 t]
set_option maxRecDepth 100000 in
theorem within1_c (x lo hi : Int) (g1 g2 : Nat) (w : World) (h : At w [fB true [varI2 g1 lo, varI2 g2 hi]]) :
   Calls Tryz.prog 192 #[.int .i64 x, .pointer (some ⟨g1, 0, none⟩), .pointer (some ⟨g2, 0, none⟩)] w (Ret w fun v L => v = .bool (decide (x < lo) || decide (hi < x)) ∧ L = []) := by
 have h' : At w [varI2 g1 lo, varI2 g2 hi] := ⟨fB_mem h.1 (by simp), fB_mem h.1 (by simp), trivial⟩
 refine calls3 Tryz.func192 rfl tabOk w _ rfl _ rfl _ h' ⟨rfl, rfl, rfl, rfl, trivial⟩ _ _ _ (by decide) ?_
 refine stop_loadV 0 tabOk rfl rfl rfl rfl rfl ⟨rfl, rfl⟩ ?_
 apply CaseB.mk <;> intro g
 · refine ret0 ⟨?_, rfl⟩ (fun _ => rfl)
   have : x < lo := by simpa using g
   simp [this]
 · refine stop_loadV 1 tabOk rfl rfl rfl rfl rfl ⟨rfl, rfl⟩ ?_
   refine ret0 ⟨?_, rfl⟩ (fun _ => rfl)
   have : ¬ x < lo := by simpa using g
   simp [this]
set_option maxRecDepth 100000 in
theorem within_c (i : Sl) (xs : List Int) (lo hi : Int) (w : World) (h : At w [slo i cInt 1 xs]) (hb : xs.length ≤ 4294967296) :
   Calls Tryz.prog 163 #[i.val xs.length, .int .i64 lo, .int .i64 hi] w (Tells w (within xs lo hi)) := by
 refine calls3 Tryz.func163 rfl tabOk w _ rfl _ rfl _ h ⟨rfl, rfl, trivial⟩ _ _ _ (by decide) ?_
 apply CaseB.mk <;> intro g
 · have hl : xs.length ≤ 3 := by simp at g; omega
   refine stop_call _ cl42 rfl rfl rfl rfl ⟨rfl, rfl⟩ (fun A w hW => containsFunc_c (fv := 192) (q := fun x => decide (x < lo) || decide (hi < x)) (G := [varI2 (A 0) lo, varI2 (A 1) hi]) cl192 (fun x w h => within1_c x lo hi _ _ w h) i xs w ⟨hW.get 0 rfl (.refl _), fB_two (hW.var rfl rfl) (hW.var rfl rfl), trivial⟩ hb) ?_
   rintro v L ⟨b, rfl, hbb, rfl⟩
   refine ret0 ⟨_, rfl, ?_, rfl⟩ (fun _ => rfl)
   simp only [Bool.not_eq_true', ← Bool.not_eq_true, hbb, within]
   constructor
   · intro hn
     refine ⟨hl, fun x hx => ?_⟩
     rcases Int.lt_or_le x lo with h1 | h1
     · exact (hn ⟨x, hx, by simp [h1]⟩).elim
     · rcases Int.lt_or_le hi x with h2 | h2
       · exact (hn ⟨x, hx, by simp [h2]⟩).elim
       · exact ⟨h1, h2⟩
   · rintro ⟨_, hx⟩ ⟨x, hx', hq⟩
     have := hx x hx'
     simp at hq
     omega
 · have hl : ¬ xs.length ≤ 3 := by simp at g; omega
   exact ret0 ⟨_, rfl, tno fun h => hl h.1, rfl⟩ (fun _ => rfl)
set_option maxRecDepth 100000 in
theorem opOn_c (i : Sl) (n : Nat) (o : Op) (g : Nat) (w : World) (h : At w [fVar g 65 (cOp o)]) :
   Calls Tryz.prog 193 #[i.val n, .pointer (some ⟨g, 0, none⟩)] w (Tells w (0 ≤ o.on ∧ o.on < n)) := by
 refine calls2 Tryz.func193 rfl tabOk w _ rfl _ rfl _ h ⟨rfl, rfl, trivial⟩ _ _ (by decide) ?_
 refine stop_fldW tabOk rfl rfl rfl rfl ⟨rfl, rfl⟩ ?_
 refine stop_loadF 0 tabOk rfl rfl rfl rfl rfl ⟨rfl, rfl⟩ ?_
 refine CaseB.mk (fun g1 => ?_) (fun g1 => ?_)
 · refine stop_fldW tabOk rfl rfl rfl rfl ⟨rfl, rfl⟩ ?_
   refine stop_loadF 0 tabOk rfl rfl rfl rfl rfl ⟨rfl, rfl⟩ ?_
   refine ret0 ⟨_, rfl, ?_, rfl⟩ (fun _ => rfl)
   have : 0 ≤ o.on := by simpa using g1
   simp [this]
 · have : ¬ 0 ≤ o.on := by simpa using g1
   exact ret0 ⟨_, rfl, tno fun h => this h.1, rfl⟩ (fun _ => rfl)
end Go.Proofs.YtijmjecehppbfaaGreat
