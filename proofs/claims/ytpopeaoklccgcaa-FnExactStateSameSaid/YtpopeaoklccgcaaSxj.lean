/- THE FRAMEWORK 'Sx', PART 10: the beginning of a walk, its end, the join of states. No project text. -/
import Derived.Test.YtpopeaoklccgcaaSxi
namespace Go.Sx
open Go Go.RowKit

/-- A slice that came in, and reads as xs. -/
abbrev slo {α : Type} (i : Sl) (enc : α → List Value) (sz : Nat) (xs : List α) : Fct := fSl true i sz (cells enc xs) xs.length

def initOk : List Fct → Prop
  | [] => True
  | f :: r => f.isOwn = false ∧ f.old = true ∧ initOk r
theorem initOk_all : ∀ {F : List Fct}, initOk F → ∀ f ∈ F, f.isOwn = false ∧ f.old = true
  | [], _, f, hf => by cases hf
  | g :: r, h, f, hf => by
    rcases List.mem_cons.1 hf with rfl | hf
    · exact ⟨h.1, h.2.1⟩
    · exact initOk_all h.2.2 f hf
theorem At_all {w : World} : ∀ {F : List Fct}, At w F → ∀ f ∈ F, f.P w ∧ ∀ b, f.foot b → b < w.heap.size
  | [], _, f, hf => by cases hf
  | g :: r, h, f, hf => by
    rcases List.mem_cons.1 hf with rfl | hf
    · exact h.1
    · exact At_all h.2 f hf
theorem WD.init (P : Program) (w : World) (N : Nat) (A : Nat → Nat) {F : List Fct} (h : At w F) (ho : initOk F) : WD (mkEnv P w N) A 0 [] [] F w := by
  refine ⟨by simp, by simp, by simp [lookM], by simp, Nat.le_refl _, ExtX.refl _ _, fun f hf => ?_, ?_⟩
  · obtain ⟨h1, h2⟩ := At_all h f hf
    obtain ⟨h3, h4⟩ := initOk_all ho f hf
    exact ⟨h1, fun b hb => ⟨h2 b hb, by simp⟩, fun e => by rw [h4] at e; cases e⟩
  · rw [List.pairwise_iff_getElem]
    intro i j hi hj _ hor
    rw [(initOk_all ho _ (List.getElem_mem hi)).1, (initOk_all ho _ (List.getElem_mem hj)).1] at hor
    simp at hor

section
variable {P : Program} {f : FuncId} {fn : Func} {x : Code} {R : Ending → World → Prop} {ti : Nat → TI}
theorem calls_fn (hf : P.funcs[f]? = some fn) (hb : fn.body = some x) (hti : ∀ t, TIok P t (ti t)) (w : World) (N : Nat) (hN : fn.ntmps = N) (rs : List ResultVar) (hrs : fn.results.toList = rs) (F : List Fct) (hF : At w F) (ho : initOk F)
    (l : List Value) (hl : l.length ≤ N)
    (hv : vcCode (mkEnv P w N) ti x (bodyK (mkEnv P w N) ti rs R) (.mk (initT 0 (l.map .v)) 0 0 [] [] F)) : Calls P f l.toArray w R := by
  subst hN; subst hrs
  exact calls_sx hf hb (mkEnv P w fn.ntmps) rfl rfl hti (l.map .v) 0 [] [] F (A := fun _ => 0) (by simp [show (SV.den (fun _ => 0) ∘ SV.v) = id from rfl]) (fun s hs => by obtain ⟨u, _, rfl⟩ := List.mem_map.1 hs; trivial) (by simpa using hl) (WD.init P w _ _ hF ho) hv
variable (hf : P.funcs[f]? = some fn) (hb : fn.body = some x) (hti : ∀ t, TIok P t (ti t)) (w : World) (N : Nat) (hN : fn.ntmps = N) (rs : List ResultVar) (hrs : fn.results.toList = rs) (F : List Fct) (hF : At w F) (ho : initOk F)
  include hf hb hti hN hrs hF ho
theorem calls0 (hv : vcCode (mkEnv P w N) ti x (bodyK (mkEnv P w N) ti rs R) (.mk [] 0 0 [] [] F)) : Calls P f #[] w R :=
  calls_fn hf hb hti w N hN rs hrs F hF ho [] (Nat.zero_le _) hv
theorem calls1 (a : Value) (hl : 1 ≤ N) (hv : vcCode (mkEnv P w N) ti x (bodyK (mkEnv P w N) ti rs R) (.mk [(0, .v a)] 0 0 [] [] F)) : Calls P f #[a] w R :=
  calls_fn hf hb hti w N hN rs hrs F hF ho [a] hl hv
theorem calls2 (a b : Value) (hl : 2 ≤ N) (hv : vcCode (mkEnv P w N) ti x (bodyK (mkEnv P w N) ti rs R) (.mk [(0, .v a), (1, .v b)] 0 0 [] [] F)) : Calls P f #[a, b] w R :=
  calls_fn hf hb hti w N hN rs hrs F hF ho [a, b] hl hv
theorem calls3 (a b c : Value) (hl : 3 ≤ N) (hv : vcCode (mkEnv P w N) ti x (bodyK (mkEnv P w N) ti rs R) (.mk [(0, .v a), (1, .v b), (2, .v c)] 0 0 [] [] F)) : Calls P f #[a, b, c] w R :=
  calls_fn hf hb hti w N hN rs hrs F hF ho [a, b, c] hl hv
theorem calls4 (a b c d : Value) (hl : 4 ≤ N) (hv : vcCode (mkEnv P w N) ti x (bodyK (mkEnv P w N) ti rs R) (.mk [(0, .v a), (1, .v b), (2, .v c), (3, .v d)] 0 0 [] [] F)) : Calls P f #[a, b, c, d] w R :=
  calls_fn hf hb hti w N hN rs hrs F hF ho [a, b, c, d] hl hv
end

/-- The end: what is handed back, and which of the facts go with it. -/
theorem ret_ok {P : Program} {w : World} {N : Nat} {A : Nat → Nat} {n : Nat} {B : List (Nat × TypeId × Nat)} {M : List ((Nat × Nat) × SV)} {F : List Fct} {w' : World} {R : Value → List Fct → Prop} (h : WD (mkEnv P w N) A n B M F w') {v : Value} (L : List Fct) (hL : L.Sublist F) (ho : ∀ f ∈ L, f.old = false) (hR : R v L) : Ret w R (.returned v) w' := by
  have hs := h.sub hL
  refine ⟨v, L, rfl, ⟨h.ext.os, h.ext.tape, h.ext.output, h.ext.size, h.ext.block⟩, ⟨fun f hf => ?_, hs.dj⟩, hR⟩
  obtain ⟨h1, h2, h3⟩ := hs.fct f hf
  exact ⟨h1, ho f hf, fun b hb => ⟨(h3 (ho f hf) b hb).resolve_right (fun h => h), (h2 b hb).1⟩⟩

def freshOk : List Fct → Prop
  | [] => True
  | f :: r => f.old = false ∧ freshOk r
theorem freshOk_all : ∀ {F : List Fct}, freshOk F → ∀ f ∈ F, f.old = false
  | [], _, f, hf => by cases hf
  | g :: r, h, f, hf => by
    rcases List.mem_cons.1 hf with rfl | hf
    · exact h.1
    · exact freshOk_all h.2 f hf

/-- Is what the goal state says of the slots found in the state at hand? -/
def TW (T : List (Nat × SV)) (n : Nat) : List (Nat × SV) → Prop
  | [] => True
  | (t, v) :: r => (∃ v', look T t = some v' ∧ v' = v ∧ v.small n) ∧ TW T n r
def MW (M : List ((Nat × Nat) × SV)) (n : Nat) : List ((Nat × Nat) × SV) → Prop
  | [] => True
  | ((k, o), v) :: r => (∃ v', lookM M k o = some v' ∧ v' = v ∧ v.small n) ∧ MW M n r
/-- Each cell that is spoken of lies in a block that is. -/
def MBW (B : List (Nat × TypeId × Nat)) : List ((Nat × Nat) × SV) → Prop
  | [] => True
  | ((k, _), _) :: r => (∃ sz, lookB B k = some sz) ∧ MBW B r
theorem MBW_all {B : List (Nat × TypeId × Nat)} : ∀ {M : List ((Nat × Nat) × SV)}, MBW B M → ∀ k o v, lookM M k o = some v → ∃ ty sz, (k, ty, sz) ∈ B
  | [], _, k, o, v, h => by simp [lookM] at h
  | ((k', o'), u) :: r, h, k, o, v, hv => by
    rw [lookM_cons] at hv
    by_cases e : k' = k ∧ o' = o
    · obtain ⟨rfl, rfl⟩ := e
      obtain ⟨⟨sz, h1⟩, _⟩ := h
      obtain ⟨t, ht⟩ := lookB_mem h1
      exact ⟨t, sz, ht⟩
    · simp [e] at hv; exact MBW_all h.2 k o v hv
def BW (B : List (Nat × TypeId × Nat)) (n : Nat) : List (Nat × TypeId × Nat) → Prop
  | [] => True
  | b :: r => (b ∈ B ∧ b.1 < n) ∧ BW B n r
/-- Facts out of a state's: each by its number there; a number too great by far stands for an own row that is nil. -/
def nilFact : Fct → Prop
  | .own old i _ _ cs n => old = false ∧ i = ⟨none, 0⟩ ∧ cs = [] ∧ n = 0
  | _ => False
def FW (F : List Fct) : List Nat → List Fct → Prop
  | [], [] => True
  | i :: ix, f :: r => ((∃ g, F[i]? = some g ∧ g = f) ∨ (F.length ≤ i ∧ nilFact f)) ∧ FW F ix r
  | _, _ => False
theorem nilFact_ok {f : Fct} (h : nilFact f) (w : World) : f.P w ∧ (∀ b, ¬ f.foot b) ∧ f.old = false := by
  cases f with
  | own old i e sz cs n =>
    obtain ⟨rfl, rfl, rfl, rfl⟩ := h
    exact ⟨World.ownsRow_nil w 0 e sz, fun b hb => (by obtain ⟨ad, h, _⟩ := hb; cases h), rfl⟩
  | _ => exact h.elim
theorem TW_all {T : List (Nat × SV)} {n : Nat} : ∀ {T' : List (Nat × SV)}, TW T n T' → ∀ t v, look T' t = some v → look T t = some v ∧ v.small n
  | [], _, t, v, h => by simp [look] at h
  | (k, u) :: r, h, t, v, hv => by
    rw [look_cons] at hv
    obtain ⟨⟨v', h1, rfl, h2⟩, h3⟩ := h
    by_cases e : k = t
    · subst e; simp at hv; subst hv; exact ⟨h1, h2⟩
    · simp [e] at hv; exact TW_all h3 t v hv
theorem MW_all {M : List ((Nat × Nat) × SV)} {n : Nat} : ∀ {M' : List ((Nat × Nat) × SV)}, MW M n M' → ∀ k o v, lookM M' k o = some v → lookM M k o = some v ∧ v.small n
  | [], _, k, o, v, h => by simp [lookM] at h
  | ((k', o'), u) :: r, h, k, o, v, hv => by
    rw [lookM_cons] at hv
    obtain ⟨⟨v', h1, rfl, h2⟩, h3⟩ := h
    by_cases e : k' = k ∧ o' = o
    · obtain ⟨rfl, rfl⟩ := e; simp at hv; subst hv; exact ⟨h1, h2⟩
    · simp [e] at hv; exact MW_all h3 k o v hv
theorem BW_all {B : List (Nat × TypeId × Nat)} {n : Nat} : ∀ {B' : List (Nat × TypeId × Nat)}, BW B n B' → ∀ b ∈ B', b ∈ B ∧ b.1 < n
  | [], _, b, h => by cases h
  | x :: r, h, b, hb => by
    rcases List.mem_cons.1 hb with rfl | hb
    · exact h.1
    · exact BW_all h.2 b hb
theorem FW_all {F : List Fct} : ∀ {ix : List Nat} {F' : List Fct}, FW F ix F' → ix.length = F'.length ∧ ∀ (k : Nat) (f : Fct), F'[k]? = some f → (∃ i : Nat, ix[k]? = some i ∧ F[i]? = some f) ∨ nilFact f
  | [], [], _ => ⟨rfl, by simp⟩
  | [], _ :: _, h => h.elim
  | _ :: _, [], h => h.elim
  | i :: ix, f :: r, h => by
    obtain ⟨h1, h2⟩ := h
    obtain ⟨h3, h4⟩ := FW_all h2
    refine ⟨by simp [h3], fun k f' hk => ?_⟩
    cases k with
    | zero =>
      simp at hk; subst hk
      rcases h1 with ⟨g, h1, rfl⟩ | ⟨_, h1⟩
      · exact .inl ⟨i, by simp, h1⟩
      · exact .inr h1
    | succ k =>
      simp at hk
      rcases h4 k f' hk with ⟨j, h5, h6⟩ | h5
      · exact .inl ⟨j, by simpa using h5, h6⟩
      · exact .inr h5
def nodupB : List Nat → Bool
  | [] => true
  | x :: r => (match r.contains x with
    | true => false
    | false => nodupB r)
theorem nodupB_ok : ∀ {l : List Nat}, nodupB l = true → l.Nodup
  | [], _ => List.nodup_nil
  | x :: r, h => by
    simp only [nodupB] at h
    split at h
    · cases h
    · rename_i hx
      rw [List.nodup_cons]
      exact ⟨by simpa using hx, nodupB_ok h⟩
theorem pairwise_pick {F : List Fct} (h : F.Pairwise Dj) {i j : Nat} (hij : i ≠ j) {f g : Fct} (hi : F[i]? = some f) (hj : F[j]? = some g) : Dj f g := by
  obtain ⟨hi1, rfl⟩ := List.getElem?_eq_some_iff.1 hi
  obtain ⟨hj1, rfl⟩ := List.getElem?_eq_some_iff.1 hj
  rcases Nat.lt_or_gt_of_ne hij with hlt | hgt
  · exact List.pairwise_iff_getElem.1 h i j hi1 hj1 hlt
  · exact (List.pairwise_iff_getElem.1 h j i hj1 hi1 hgt).symm
/-- Facts picked out of a state's. -/
theorem WD.pick {E : Env} {A : Nat → Nat} {n : Nat} {B : List (Nat × TypeId × Nat)} {M : List ((Nat × Nat) × SV)} {F F' : List Fct} {w : World} (h : WD E A n B M F w) (ix : List Nat) (hF : FW F ix F') (hix : nodupB ix = true) : WD E A n B M F' w := by
  obtain ⟨hl, hpick⟩ := FW_all hF
  have hnd := nodupB_ok hix
  refine ⟨h.key, h.inj, h.mem, h.a0, h.n0, h.ext, ?_, ?_⟩
  · intro f hf
    obtain ⟨k, hk⟩ := List.getElem?_of_mem hf
    rcases hpick k f hk with ⟨i, _, hi⟩ | hn
    · exact h.fct f (List.mem_of_getElem? hi)
    · obtain ⟨g1, g2, g3⟩ := nilFact_ok hn w
      exact ⟨g1, fun b hb => (g2 b hb).elim, fun _ b hb => (g2 b hb).elim⟩
  · rw [List.pairwise_iff_getElem]
    intro p q hp hq hpq
    rcases hpick p _ (List.getElem?_eq_getElem hp) with ⟨i, h1, h2⟩ | hn
    · rcases hpick q _ (List.getElem?_eq_getElem hq) with ⟨j, h3, h4⟩ | hn
      · refine pairwise_pick h.dj (fun e => ?_) h2 h4
        subst e
        have hpl := (List.getElem?_eq_some_iff.1 h1).1
        have hql := (List.getElem?_eq_some_iff.1 h3).1
        exact List.pairwise_iff_getElem.1 hnd p q hpl hql hpq (by rw [(List.getElem?_eq_some_iff.1 h1).2, (List.getElem?_eq_some_iff.1 h3).2])
      · exact fun _ b _ hb => (nilFact_ok hn w).2.1 b hb
    · exact fun _ b hb => ((nilFact_ok hn w).2.1 b hb).elim
/-- A return. -/
theorem retw {P : Program} {w : World} {N : Nat} {n : Nat} {B : List (Nat × TypeId × Nat)} {M : List ((Nat × Nat) × SV)} {F : List Fct} {R : Value → List Fct → Prop} {l : List SV} (ix : List Nat) {L : List Fct} {v : Value} (hR : R v L) (hF : FW F ix L) (hix : nodupB ix = true) (ho : freshOk L) (hv : ∀ A, resV A l = v) :
    RetW (∀ A w', WD (mkEnv P w N) A n B M F w' → Ret w R (.returned (resV A l)) w') :=
  ⟨fun A w' h => by rw [hv A]; exact ret_ok (h.pick ix hF hix) L (List.Sublist.refl _) (freshOk_all ho) hR⟩

theorem SV.okT_of_small {n c : Nat} {w : World} {v : SV} (h : v.small n) : v.okT n c w := SV.small_okT h
/-- The same value, though a bool may be known or not. -/
inductive SVeq : SV → SV → Prop
  | of {u v : SV} (h : u = v) : SVeq u v
  | lit {b b' : Bool} (h : b = b') : SVeq (.lit b) (.v (.bool b'))
  | unlit {b b' : Bool} (h : b = b') : SVeq (.v (.bool b)) (.lit b')
theorem SVeq.den {u v : SV} (h : SVeq u v) (A : Nat → Nat) : u.den A = v.den A := by
  cases h with
  | of h => rw [h]
  | lit h => rw [h]; rfl
  | unlit h => rw [h]; rfl
def TWe (T : List (Nat × SV)) (n : Nat) : List (Nat × SV) → Prop
  | [] => True
  | (t, v) :: r => (∃ v', look T t = some v' ∧ SVeq v' v ∧ v.small n) ∧ TWe T n r
def MWe (M : List ((Nat × Nat) × SV)) (n : Nat) : List ((Nat × Nat) × SV) → Prop
  | [] => True
  | ((k, o), v) :: r => (∃ v', lookM M k o = some v' ∧ SVeq v' v ∧ v.small n) ∧ MWe M n r
theorem TWe_all {T : List (Nat × SV)} {n : Nat} : ∀ {T' : List (Nat × SV)}, TWe T n T' → ∀ t v, look T' t = some v → ∃ v', look T t = some v' ∧ SVeq v' v ∧ v.small n
  | [], _, t, v, h => by simp [look] at h
  | (k, u) :: r, h, t, v, hv => by
    rw [look_cons] at hv
    obtain ⟨h1, h3⟩ := h
    by_cases e : k = t
    · subst e; simp at hv; subst hv; exact h1
    · simp [e] at hv; exact TWe_all h3 t v hv
theorem MWe_all {M : List ((Nat × Nat) × SV)} {n : Nat} : ∀ {M' : List ((Nat × Nat) × SV)}, MWe M n M' → ∀ k o v, lookM M' k o = some v → ∃ v', lookM M k o = some v' ∧ SVeq v' v ∧ v.small n
  | [], _, k, o, v, h => by simp [lookM] at h
  | ((k', o'), u) :: r, h, k, o, v, hv => by
    rw [lookM_cons] at hv
    obtain ⟨h1, h3⟩ := h
    by_cases e : k' = k ∧ o' = o
    · obtain ⟨rfl, rfl⟩ := e; simp at hv; subst hv; exact h1
    · simp [e] at hv; exact MWe_all h3 k o v hv
theorem weak_mk {E : Env} {T T' : List (Nat × SV)} {n n' c c' : Nat} {B B' : List (Nat × TypeId × Nat)} {M M' : List ((Nat × Nat) × SV)} {F F' : List Fct} (ix : List Nat)
    (hT : TWe T n' T') (hB : BW B n' B') (hM : MWe M n' M') (hMB : MBW B' M') (hF : FW F ix F') (hix : nodupB ix = true) (hn0 : Nat.ble E.n0 n' = true) :
    Weak E (.mk T n c B M F) (.mk T' n' c' B' M' F') := by
  rintro a w ⟨A, hW0, hT0⟩
  have hB' := BW_all hB
  have hW := hW0.pick ix hF hix
  refine ⟨A, ⟨?_, ?_, ?_, hW.a0, Nat.le_of_ble_eq_true hn0, hW.ext, ?_, hW.dj⟩, hT0.size, hT0.defers, ?_⟩
  · intro k ty sz hk
    obtain ⟨h1, h2⟩ := hB' _ hk
    obtain ⟨g1, g2⟩ := hW.key k ty sz h1
    exact ⟨h2, g2⟩
  · intro k ty sz k' ty' sz' h1 h2
    exact hW.inj k ty sz k' ty' sz' (hB' _ h1).1 (hB' _ h2).1
  · intro k o v hv
    obtain ⟨v', h1, h2, h3⟩ := MWe_all hM k o v hv
    exact ⟨MBW_all hMB k o v hv, by rw [← h2.den A]; exact (hW.mem k o v' h1).2.1, h3⟩
  · intro f hf
    obtain ⟨g1, g2, g3⟩ := hW.fct f hf
    exact ⟨g1, fun b hb => ⟨(g2 b hb).1, fun k ty sz hk => (g2 b hb).2 k ty sz (hB' _ hk).1⟩, g3⟩
  · intro t v hv
    obtain ⟨v', h1, h2, h3⟩ := TWe_all hT t v hv
    exact ⟨by rw [← h2.den A]; exact (hT0.tm t v' h1).1, SV.okT_of_small h3⟩
end Go.Sx
