/- THE FRAMEWORK 'Sx', PART 16: rows that a caller hands over to be written; stores into a row. No project text. -/
import Derived.Test.YtpopeaoklccgcaaSxn
import Derived.Laws.OwnMore
namespace Go.Sx
open Go Go.RowKit

def gfoot (G : List Fct) (b : Nat) : Prop := ∃ f ∈ G, f.foot b
/-- Facts that a call leaves that may write the rows of G. -/
structure NewG (w w' : World) (G L : List Fct) : Prop where
  all : ∀ f ∈ L, f.P w' ∧ f.old = false ∧ ∀ b, f.foot b → (w.heap.size ≤ b ∨ gfoot G b) ∧ b < w'.heap.size
  dj : L.Pairwise Dj
/-- What a call returns that may write the rows of G, and the facts that it leaves. -/
def RetG (w : World) (G : List Fct) (R : Value → List Fct → Prop) : Ending → World → Prop := fun e w' =>
  ∃ v L, e = .returned v ∧ ExtX (gfoot G) w w' ∧ NewG w w' G L ∧ R v L
/-- The same, and block g. -/
def RetPG (w : World) (g : Nat) (ty : TypeId) (sz : Nat) (G : List Fct) (R : Value → List Value → List Fct → Prop) : Ending → World → Prop := fun e w' =>
  ∃ v cs L, e = .returned v ∧ ExtX (fun b => b = g ∨ gfoot G b) w w' ∧ Blk w' g ty cs ∧ cs.length = sz ∧ NewG w w' G L ∧ (∀ f ∈ L, ∀ b, f.foot b → b ≠ g) ∧ R v cs L

def grantOk : List Fct → Prop
  | [] => True
  | f :: r => f.isOwn = true ∧ f.old = false ∧ grantOk r
theorem grantOk_all : ∀ {F : List Fct}, grantOk F → ∀ f ∈ F, f.isOwn = true ∧ f.old = false
  | [], _, f, hf => by cases hf
  | g :: r, h, f, hf => by
    rcases List.mem_cons.1 hf with rfl | hf
    · exact ⟨h.1, h.2.1⟩
    · exact grantOk_all h.2.2 f hf
/-- What a callee may take of the rows G that are handed over, and of the other facts. -/
structure AtG (w : World) (G Fo : List Fct) : Prop where
  at_ : At w (G ++ Fo)
  ok : grantOk G
  dj : (G ++ Fo).Pairwise Dj
abbrev mkEnvG (P : Program) (w : World) (N : Nat) (G : List Fct) : Env := ⟨P, w, gfoot G, N, 0, fun _ => 0⟩
abbrev mkEnvPG (P : Program) (w : World) (N g : Nat) (G : List Fct) : Env := ⟨P, w, fun b => b = g ∨ gfoot G b, N, 1, fun _ => g⟩

theorem WD.initG (P : Program) (w : World) (N : Nat) (A : Nat → Nat) {G Fo : List Fct} (h : AtG w G Fo) (ho : initOk Fo) : WD (mkEnvG P w N G) A 0 [] [] (G ++ Fo) w := by
  refine ⟨by simp, by simp, by simp [lookM], by simp, Nat.le_refl _, ExtX.refl _ _, fun f hf => ?_, h.dj⟩
  obtain ⟨h1, h2⟩ := At_all h.at_ f hf
  refine ⟨h1, fun b hb => ⟨h2 b hb, by simp⟩, fun e b hb => .inr ?_⟩
  rcases List.mem_append.1 hf with hf | hf
  · exact ⟨f, hf, hb⟩
  · rw [(initOk_all ho f hf).2] at e; cases e
theorem WD.initPG (P : Program) (w : World) (N g : Nat) (ty : TypeId) (cs : List Value) {G Fo : List Fct} (hg : Blk w g ty cs) (h : AtG w G Fo) (hoff : ∀ f ∈ G ++ Fo, ∀ b, f.foot b → b ≠ g) (ho : initOk Fo) :
    WD (mkEnvPG P w N g G) (fun _ => g) 1 [(0, ty, cs.length)] (storeL 0 0 (cs.map .v) []) (G ++ Fo) w := by
  have hlt : g < w.heap.size := (Array.getElem?_eq_some_iff.1 hg).1
  refine ⟨?_, ?_, ?_, fun k hk => rfl, Nat.le_refl _, ExtX.refl _ _, fun f hf => ?_, h.dj⟩
  · intro k ty' sz hk
    simp only [List.mem_singleton, Prod.mk.injEq] at hk
    obtain ⟨rfl, rfl, rfl⟩ := hk
    exact ⟨Nat.zero_lt_one, hlt, .inr (.inl rfl), _, hg, by simp⟩
  · intro k ty1 sz1 k' ty2 sz2 h1 h2 _
    simp only [List.mem_singleton, Prod.mk.injEq] at h1 h2
    rw [h1.1, h2.1]
  · intro k o v hv
    rw [lookM_storeL] at hv
    split at hv
    · rename_i hc
      obtain ⟨rfl, _, hc3⟩ := hc
      rw [Nat.sub_zero, List.getElem?_map] at hv
      cases hx : cs[o]? with
      | none => rw [hx] at hv; simp at hv
      | some u =>
        rw [hx] at hv; simp at hv; subst hv
        refine ⟨⟨ty, cs.length, by simp⟩, ?_, trivial⟩
        rw [cell_of_row _ _ _ _ _ _ hg]
        show cs.toArray[o]? = some u
        simpa using hx
    · simp [lookM] at hv
  · obtain ⟨h1, h2⟩ := At_all h.at_ f hf
    refine ⟨h1, fun b hb => ⟨h2 b hb, fun k ty sz _ => (hoff f hf b hb).symm⟩, fun e b hb => .inr (.inr ?_)⟩
    rcases List.mem_append.1 hf with hf | hf
    · exact ⟨f, hf, hb⟩
    · rw [(initOk_all ho f hf).2] at e; cases e

section
variable {P : Program} {f : FuncId} {fn : Func} {x : Code} {R : Ending → World → Prop} {ti : Nat → TI}
theorem callsG_fn (hf : P.funcs[f]? = some fn) (hb : fn.body = some x) (hti : ∀ t, TIok P t (ti t)) (w : World) (N : Nat) (hN : fn.ntmps = N) (rs : List ResultVar) (hrs : fn.results.toList = rs) (G Fo : List Fct) (hF : AtG w G Fo) (ho : initOk Fo)
    (l : List Value) (args : Array Value) (ha : args.toList = l) (hl : Nat.ble l.length N = true)
    (hv : vcCode (mkEnvG P w N G) ti x (bodyK (mkEnvG P w N G) ti rs R) (.mk (initT 0 (l.map .v)) 0 0 [] [] (G ++ Fo))) : Calls P f args w R := by
  subst hN; subst hrs
  exact calls_sx hf hb (mkEnvG P w fn.ntmps G) rfl rfl hti (l.map .v) 0 [] [] (G ++ Fo) (A := fun _ => 0) (by simp [ha, show (SV.den (fun _ => 0) ∘ SV.v) = id from rfl]) (fun s hs => by obtain ⟨u, _, rfl⟩ := List.mem_map.1 hs; trivial) (by simpa using Nat.le_of_ble_eq_true hl) (WD.initG P w _ _ hF ho) hv
theorem callsPG_fn (hf : P.funcs[f]? = some fn) (hb : fn.body = some x) (hti : ∀ t, TIok P t (ti t)) (w : World) (N : Nat) (hN : fn.ntmps = N) (rs : List ResultVar) (hrs : fn.results.toList = rs) (g : Nat) (ty : TypeId) (cs : List Value) (sz : Nat) (hsz : listLen cs = sz) (hg : Blk w g ty cs) (G Fo : List Fct) (hF : AtG w G Fo) (hoff : ∀ f ∈ G ++ Fo, ∀ b, f.foot b → b ≠ g) (ho : initOk Fo)
    (l : List Value) (args : Array Value) (ha : args.toList = .pointer (some ⟨g, 0, none⟩) :: l) (hl : Nat.ble (l.length + 1) N = true)
    (hv : vcCode (mkEnvPG P w N g G) ti x (bodyK (mkEnvPG P w N g G) ti rs R) (.mk (initT 0 (.p 0 0 :: l.map .v)) 1 0 [(0, ty, sz)] (storeL 0 0 (cs.map .v) []) (G ++ Fo))) : Calls P f args w R := by
  subst hN; subst hrs
  rw [listLen_eq] at hsz
  subst hsz
  exact calls_sx hf hb (mkEnvPG P w fn.ntmps g G) rfl rfl hti (.p 0 0 :: l.map .v) 1 [(0, ty, cs.length)] (storeL 0 0 (cs.map .v) []) (G ++ Fo) (A := fun _ => g) (by simp [ha, show (SV.den (fun _ => g) ∘ SV.v) = id from rfl, SV.den, ptr])
    (fun s hs => by
      rcases List.mem_cons.1 hs with rfl | hs
      · exact Nat.zero_lt_one
      · obtain ⟨u, _, rfl⟩ := List.mem_map.1 hs; trivial) (by simpa using Nat.le_of_ble_eq_true hl) (WD.initPG P w _ _ _ _ hg hF hoff ho) hv
end

/-- A return of a function that took rows. -/
theorem retG {P : Program} {w : World} {N : Nat} {n : Nat} {B : List (Nat × TypeId × Nat)} {M : List ((Nat × Nat) × SV)} {F G : List Fct} {R : Value → List Fct → Prop} {l : List SV} (ix : List Nat) {L : List Fct} {v : Value} (hR : R v L) (hF : FW F ix L) (hix : nodupB ix = true) (ho : freshOk L) (hv : ∀ A, resV A l = v) :
    RetW (∀ A w', WD (mkEnvG P w N G) A n B M F w' → RetG w G R (.returned (resV A l)) w') := by
  refine ⟨fun A w' h => ?_⟩
  rw [hv A]
  have hs := h.pick ix hF hix
  refine ⟨v, L, rfl, h.ext, ⟨fun f hf => ?_, hs.dj⟩, hR⟩
  obtain ⟨h1, h2, h3⟩ := hs.fct f hf
  exact ⟨h1, freshOk_all ho f hf, fun b hb => ⟨h3 (freshOk_all ho f hf) b hb, (h2 b hb).1⟩⟩
theorem retPG {P : Program} {w : World} {N g ty sz : Nat} {n : Nat} {B : List (Nat × TypeId × Nat)} {M : List ((Nat × Nat) × SV)} {F G : List Fct} {R : Value → List Value → List Fct → Prop} {l : List SV} (ix : List Nat) {L : List Fct} {v : Value} {cs : List Value} (hR : R v cs L) (hB : lookBT B 0 = some (ty, sz)) (hM : loadN M 0 0 sz = some cs)
    (hF : FW F ix L) (hix : nodupB ix = true) (ho : freshOk L) (hv : ∀ A, resV A l = v) :
    RetW (∀ A w', WD (mkEnvPG P w N g G) A n B M F w' → RetPG w g ty sz G R (.returned (resV A l)) w') := by
  refine ⟨fun A w' h => ?_⟩
  rw [hv A]
  have hs := h.pick ix hF hix
  obtain ⟨hb, hl⟩ := h.blk (lookBT_mem hB) hM
  have ha : A 0 = g := h.a0 0 (by show 0 < 1; omega)
  rw [ha] at hb
  have hne : ∀ f ∈ L, ∀ b, f.foot b → b ≠ g := fun f hf b hb e => ((hs.fct f hf).2.1 b hb).2 0 ty sz (lookBT_mem hB) (ha.trans e.symm)
  refine ⟨v, cs, L, rfl, h.ext, hb, hl, ⟨fun f hf => ?_, hs.dj⟩, hne, hR⟩
  obtain ⟨h1, h2, h3⟩ := hs.fct f hf
  refine ⟨h1, freshOk_all ho f hf, fun b hb => ⟨?_, (h2 b hb).1⟩⟩
  rcases h3 (freshOk_all ho f hf) b hb with h4 | h4 | h4
  · exact .inl h4
  · exact absurd h4 (hne f hf b hb)
  · exact .inr h4

/-- The facts but for those with these numbers. -/
def memB : List Nat → Nat → Bool
  | [], _ => false
  | x :: r, k => match Nat.beq x k with
    | true => true
    | false => memB r k
theorem memB_iff : ∀ {l : List Nat} {k : Nat}, memB l k = true ↔ k ∈ l
  | [], k => by simp [memB]
  | x :: r, k => by
    simp only [memB, List.mem_cons]
    by_cases h : x = k
    · subst h; rw [Nat.beq_refl]; simp
    · have h' : ¬ k = x := fun e => h e.symm
      rw [show Nat.beq x k = false from by rw [← Bool.not_eq_true]; intro e; exact h (Nat.eq_of_beq_eq_true e)]
      simp [memB_iff, h']
def dropAt (ix : List Nat) : Nat → List Fct → List Fct
  | _, [] => []
  | k, f :: r => match memB ix k with
    | true => dropAt ix (k + 1) r
    | false => f :: dropAt ix (k + 1) r
theorem dropAt_sub (ix : List Nat) : ∀ (F : List Fct) (k : Nat), (dropAt ix k F).Sublist F
  | [], _ => List.Sublist.refl _
  | f :: r, k => by
    simp only [dropAt]
    split
    · exact (dropAt_sub ix r (k + 1)).cons _
    · exact (dropAt_sub ix r (k + 1)).cons_cons _
theorem dropAt_at (ix : List Nat) : ∀ (F : List Fct) (k : Nat), ∀ f ∈ dropAt ix k F, ∃ j, F[j]? = some f ∧ ¬ (k + j) ∈ ix
  | [], _, f, hf => by cases hf
  | g :: r, k, f, hf => by
    simp only [dropAt] at hf
    split at hf
    · obtain ⟨j, h1, h2⟩ := dropAt_at ix r (k + 1) f hf
      exact ⟨j + 1, by simpa using h1, by rw [show k + (j + 1) = k + 1 + j by omega]; exact h2⟩
    · rename_i hm
      rcases List.mem_cons.1 hf with rfl | hf
      · exact ⟨0, rfl, fun h => by rw [Nat.add_zero, ← memB_iff] at h; rw [h] at hm; cases hm⟩
      · obtain ⟨j, h1, h2⟩ := dropAt_at ix r (k + 1) f hf
        exact ⟨j + 1, by simpa using h1, by rw [show k + (j + 1) = k + 1 + j by omega]; exact h2⟩
theorem FK_at {F : List Fct} : ∀ {ix : List Nat} {G : List Fct}, FK F ix G → ∀ f ∈ G, ∃ i ∈ ix, F[i]? = some f
  | [], [], _, f, hf => by cases hf
  | [], _ :: _, h, _, _ => h.elim
  | _ :: _, [], h, _, _ => h.elim
  | i :: ix, g :: r, h, f, hf => by
    rcases List.mem_cons.1 hf with rfl | hf
    · exact ⟨i, by simp, h.1⟩
    · obtain ⟨j, h1, h2⟩ := FK_at h.2 f hf
      exact ⟨j, by simp [h1], h2⟩

/-- A fact that a callee may take: the same or a slice's reading. -/
inductive Der : Fct → Fct → Prop
  | sl {o : Bool} {i : Sl} {sz n : Nat} {cs : List Value} : Der (fSl o i sz cs n) (fSl true i sz cs n)
  | own {o : Bool} {i : Sl} {e sz n : Nat} {cs : List Value} : Der (fOwn o i e sz cs n) (fSl true i sz cs n)
  | gen {g f : Fct} (h1 : ∀ w, g.P w → f.P w) (h2 : ∀ b, f.foot b → g.foot b) (h3 : f.isOwn = false) (h4 : f.old = true) : Der g f
theorem Der.out {g f : Fct} (h : Der g f) : (∀ w, g.P w → f.P w) ∧ (∀ b, f.foot b → g.foot b) ∧ f.isOwn = false ∧ f.old = true := by
  cases h with
  | sl => exact ⟨fun _ h => h, fun _ h => h, rfl, rfl⟩
  | own => exact ⟨fun _ h => own_rd h, fun _ h => h.2, rfl, rfl⟩
  | gen h1 h2 h3 h4 => exact ⟨h1, h2, h3, h4⟩
def FD (F : List Fct) : List Nat → List Fct → Prop
  | [], [] => True
  | j :: jx, f :: r => (∃ g, F[j]? = some g ∧ Der g f) ∧ FD F jx r
  | _, _ => False
theorem FD_at {F : List Fct} : ∀ {ix : List Nat} {G : List Fct}, FD F ix G → ∀ f ∈ G, ∃ i ∈ ix, ∃ g, F[i]? = some g ∧ Der g f
  | [], [], _, f, hf => by cases hf
  | [], _ :: _, h, _, _ => h.elim
  | _ :: _, [], h, _, _ => h.elim
  | i :: ix, g :: r, h, f, hf => by
    rcases List.mem_cons.1 hf with rfl | hf
    · obtain ⟨g, h1, h2⟩ := h.1
      exact ⟨i, by simp, g, h1, h2⟩
    · obtain ⟨j, h1, h2⟩ := FD_at h.2 f hf
      exact ⟨j, by simp [h1], h2⟩

section
variable {E : Env} {ti : Nat → TI} {A : Nat → Nat} {T : List (Nat × SV)} {n c : Nat} {B : List (Nat × TypeId × Nat)} {M : List ((Nat × Nat) × SV)} {F Fs : List Fct} {o : Oper} {next : St → Prop} {a : Act} {w w' : World}

def noMeet (ix jx : List Nat) : Bool := match jx with
  | [] => true
  | j :: r => match memB ix j with
    | true => false
    | false => noMeet ix r
theorem noMeet_ok : ∀ {ix jx : List Nat}, noMeet ix jx = true → ∀ j ∈ jx, ¬ j ∈ ix
  | _, [], _, j, hj => by cases hj
  | ix, k :: r, h, j, hj => by
    simp only [noMeet] at h
    split at h
    · cases h
    · rename_i hm
      rcases List.mem_cons.1 hj with rfl | hj
      · intro e; rw [memB_iff.2 e] at hm; cases hm
      · exact noMeet_ok h j hj
/-- What a caller shows of the rows that it hands over (their numbers: ix) and of the other facts (jx). -/
theorem WD.atG (h : WD E A n B M F w) (ix : List Nat) {G : List Fct} (hG : FK F ix G) (hix : nodupB ix = true) (hok : grantOk G) (jx : List Nat) {Fo : List Fct} (hFo : FD F jx Fo) (hm : noMeet ix jx = true) : AtG w G Fo := by
  have hg : ∀ f ∈ G, f.P w ∧ ∀ b, f.foot b → b < w.heap.size := fun f hf => by
    obtain ⟨i, _, hi⟩ := FK_at hG f hf
    exact h.nth i hi
  have hoo : ∀ f ∈ Fo, (f.P w ∧ ∀ b, f.foot b → b < w.heap.size) ∧ f.isOwn = false := fun f hf => by
    obtain ⟨i, _, g, hi, hd⟩ := FD_at hFo f hf
    obtain ⟨d1, d2, d3, _⟩ := hd.out
    exact ⟨⟨d1 w (h.nth i hi).1, fun b hb => (h.nth i hi).2 b (d2 b hb)⟩, d3⟩
  have hat : ∀ L : List Fct, (∀ f ∈ L, f.P w ∧ ∀ b, f.foot b → b < w.heap.size) → At w L := fun L => by
    induction L with
    | nil => intro _; trivial
    | cons f r ih => intro hl; exact ⟨hl f (by simp), ih fun f hf => hl f (by simp [hf])⟩
  refine ⟨hat _ fun f hf => ?_, hok, ?_⟩
  · rcases List.mem_append.1 hf with hf | hf
    · exact hg f hf
    · exact (hoo f hf).1
  · rw [List.pairwise_append]
    refine ⟨(h.pick ix (FK.fw hG) hix).dj, ?_, fun f hf g hg => ?_⟩
    · rw [List.pairwise_iff_getElem]
      intro p q hp hq _ hor
      rw [(hoo _ (List.getElem_mem hp)).2, (hoo _ (List.getElem_mem hq)).2] at hor
      simp at hor
    · obtain ⟨i, hi1, hi2⟩ := FK_at hG f hf
      obtain ⟨j, hj1, g0, hj2, hd⟩ := FD_at hFo g hg
      have hne : i ≠ j := fun e => noMeet_ok hm j hj1 (by rw [← e]; exact hi1)
      have hdj := pairwise_pick h.dj hne hi2 hj2
      intro _ b hb hb'
      exact hdj (.inl (grantOk_all hok f hf).1) b hb (hd.out.2.1 b hb')
theorem WD.atG_off (h : WD E A n B M F w) {k ty sz : Nat} (hB : lookBT B k = some (ty, sz)) {ga : Nat} (hga : ga = A k) {ix : List Nat} {G : List Fct} (hG : FK F ix G) {jx : List Nat} {Fo : List Fct} (hFo : FD F jx Fo) : ∀ f ∈ G ++ Fo, ∀ b, f.foot b → b ≠ ga := by
  subst hga
  intro f hf b hb e
  rcases List.mem_append.1 hf with hf | hf
  · obtain ⟨i, _, hi⟩ := FK_at hG f hf
    exact ((h.fct _ (List.mem_of_getElem? hi)).2.1 b hb).2 k ty sz (lookBT_mem hB) e.symm
  · obtain ⟨i, _, g, hi, hd⟩ := FD_at hFo f hf
    exact ((h.fct _ (List.mem_of_getElem? hi)).2.1 b (hd.out.2.1 b hb)).2 k ty sz (lookBT_mem hB) e.symm

/-- A call has written the rows G. -/
theorem WD.callG (h : WD E A n B M F w) {ix : List Nat} {G : List Fct} (hG : FK F ix G) (hok : grantOk G) (hex : ExtX (gfoot G) w w') {L : List Fct} (hL : NewG w w' G L) : WD E A n B M (L ++ dropAt ix 0 F) w' := by
  have hgf : ∀ b, gfoot G b → b < w.heap.size ∧ (∀ k ty sz, (k, ty, sz) ∈ B → A k ≠ b) ∧ (E.w0.heap.size ≤ b ∨ E.X b) ∧ ∀ f ∈ dropAt ix 0 F, ¬ f.foot b := by
    rintro b ⟨g, hg, hb⟩
    obtain ⟨i, hi1, hi2⟩ := FK_at hG g hg
    obtain ⟨h1, h2, h3⟩ := h.fct _ (List.mem_of_getElem? hi2)
    obtain ⟨o1, o2⟩ := grantOk_all hok g hg
    refine ⟨(h2 b hb).1, (h2 b hb).2, h3 o2 b hb, fun f hf hfb => ?_⟩
    obtain ⟨j, hj1, hj2⟩ := dropAt_at ix F 0 f hf
    rw [Nat.zero_add] at hj2
    exact pairwise_pick h.dj (fun e => hj2 (by rw [← e]; exact hi1)) hi2 hj1 (.inl o1) b hb hfb
  have hsub := h.sub (dropAt_sub ix F 0)
  have h' := hsub.grow hex (fun k ty sz hk hg => (hgf _ hg).2.1 k ty sz hk rfl) (fun f hf b hb hg => (hgf b hg).2.2.2 f hf hb) (fun b hb hg => (hgf b hg).2.2.1.resolve_left (by omega))
  refine ⟨h'.key, h'.inj, h'.mem, h'.a0, h'.n0, h'.ext, ?_, ?_⟩
  · intro f hf
    rcases List.mem_append.1 hf with hf | hf
    · obtain ⟨h1, h2, h3⟩ := hL.all f hf
      refine ⟨h1, fun b hb => ⟨(h3 b hb).2, fun k ty sz hk e => ?_⟩, fun _ b hb => ?_⟩
      · rcases (h3 b hb).1 with h4 | h4
        · have := (h.key k ty sz hk).2.1
          omega
        · exact (hgf b h4).2.1 k ty sz hk e
      · rcases (h3 b hb).1 with h4 | h4
        · exact .inl (Nat.le_trans h.ext.size h4)
        · exact (hgf b h4).2.2.1
    · exact h'.fct f hf
  · rw [List.pairwise_append]
    refine ⟨hL.dj, h'.dj, fun f hf g hg _ b hb hb' => ?_⟩
    rcases ((hL.all f hf).2.2 b hb).1 with h4 | h4
    · have := ((hsub.fct g hg).2.1 b hb').1
      omega
    · exact (hgf b h4).2.2.2 g hg hb'
/-- A call that may write the rows of the facts ix. -/
theorem stop_callG (R : Value → List Fct → Prop) (ix : List Nat) {G : List Fct} {k : Call} {fo : Operand} {g : FuncId} {cap : List (Nat × Nat)} {l : List SV} {d : Nat} (hc : callable E.P g = true)
    (hop : o.op = .call k) (hk : k.callee = .value fo) (hf : evalO T fo = some (.f g cap)) (ha : evalOs T k.args.toList = some l) (hd : Dst E o d) (hG : FK F ix G) (hok : grantOk G)
    (hcall : ∀ A w, WD E A n B M F w → Calls E.P g ((l.map (SV.den A)) ++ cap.map (fun x => ptr A x.1 x.2)).toArray w (RetG w G R))
    (hnext : ∀ v L, R v L → next (.mk ((d, .v v) :: T) n (c + 1) B M (L ++ dropAt ix 0 F))) :
    OpW (opStop E o next T n c B M F) := by
  refine ⟨fun A a w hW hT => ?_⟩
  unfold Oper.wp
  rw [call_enter hT hc hop hk hf ha, Oper.upon_enter]
  refine (hcall A w hW).mono ?_
  rintro e w' ⟨v, L, rfl, he, hL, hR⟩
  refine ⟨_, ⟨_, hW.callG hG hok he hL, ?_⟩, hnext v L hR⟩
  rw [hd.1]
  exact (hT.step w').put (v := .v v) hd.lt trivial

/-- An own row has been written in its place: its new fact instead of the old one. -/
theorem WD.turnX (h : WD E A n B M F w) {k g : Nat} {i : Sl} {e sz p q : Nat} {cs ds : List Value} (hk : F[k]? = some (fOwn false i e sz cs p)) (hi : i.a = some ⟨g, 0, none⟩)
    (hX : ExtX (fun b => b = g) w w') (ho : w'.ownsRow 0 e sz (i.val q) q ds) : WD E A n B M (fOwn false i e sz ds q :: F.eraseIdx k) w' := by
  have hfk := h.fct _ (List.mem_of_getElem? hk)
  have hgf : (fOwn false i e sz cs p).foot g := ⟨_, hi, rfl⟩
  have hfg : ∀ b, (fOwn false i e sz ds q).foot b → b = g := by
    rintro b ⟨ad, h1, rfl⟩
    rw [hi] at h1; injection h1 with h1; subst h1; rfl
  have hsub := h.sub (eraseIdx_sub F k)
  have hdj := pairwise_nth_erase h.dj hk
  have hW' : WD E A n B M (F.eraseIdx k) w' := by
    refine hsub.grow hX (fun k' ty sz' hk' e => (hfk.2.1 g hgf).2 k' ty sz' hk' e) (fun f hf b hb e => hdj f hf (.inl rfl) g hgf (e ▸ hb)) (fun b hb e => ?_)
    subst e
    exact (hfk.2.2 rfl b hgf).resolve_left (by omega)
  refine ⟨hW'.key, hW'.inj, hW'.mem, hW'.a0, hW'.n0, hW'.ext, ?_, ?_⟩
  · intro f hf
    rcases List.mem_cons.1 hf with rfl | hf
    · refine ⟨ho, fun b hb => ?_, fun _ b hb => ?_⟩
      · obtain rfl := hfg b hb
        exact ⟨Nat.lt_of_lt_of_le (hfk.2.1 b hgf).1 hX.size, (hfk.2.1 b hgf).2⟩
      · obtain rfl := hfg b hb
        exact hfk.2.2 rfl b hgf
    · exact hW'.fct f hf
  · rw [List.pairwise_cons]
    refine ⟨fun f hf _ b hb hb' => ?_, hW'.dj⟩
    obtain rfl := hfg b hb
    exact hdj f hf (.inl rfl) b hgf hb'

theorem own_store {P : Program} {i : Sl} {e sz p g off : Nat} {cs vs : List Value} (hown : w.ownsRow 0 e sz (i.val p) p cs) (hi : i.a = some ⟨g, 0, none⟩) (hle : off + vs.length ≤ p * sz) (h1 : ∀ v ∈ vs, v.oneCell' = true) :
    ∃ w', (storeCells ⟨g, off, none⟩ vs).run P w = .ok () w' ∧ ExtX (fun b => b = g) w w' ∧ w'.ownsRow 0 e sz (i.val p) p (cs.take off ++ vs ++ cs.drop (off + vs.length)) := by
  rcases own_cases hown with ⟨h2, _⟩ | ⟨g', cur, h2, h3, h4, h5, h6, h7⟩
  · rw [hi] at h2; cases h2
  · rw [hi] at h2
    injection h2 with h2
    injection h2 with h2
    subst h2
    have hpc : p * sz ≤ i.c * sz := Nat.mul_le_mul_right _ h4
    have hrun := run_storeCells_at (P := P) g off e vs 0 cur w h3 (by simp; omega) h1
    refine ⟨_, hrun, ?_⟩
    simp only [Nat.add_zero]
    generalize hcs' : (List.take off cur.toList ++ vs ++ List.drop (off + vs.length) cur.toList).toArray = cs'
    have hsz : cs'.size = i.c * sz := by rw [← hcs']; simp; omega
    have hnew : (w.setRow g cs').heap[g]? = some (.cells cs' e (0, 0)) := setRow_heap w g cur cs' e (0, 0) h3
    have hother : ∀ b, b ≠ g → (w.setRow g cs').heap[b]? = w.heap[b]? := fun b hb => by
      simp only [World.setRow, Array.getElem?_modify]
      rw [if_neg (fun e => hb e.symm)]
    have hhsz : (w.setRow g cs').heap.size = w.heap.size := by simp [World.setRow]
    have hl := hown.1
    refine ⟨⟨rfl, rfl, rfl, by rw [hhsz]; exact Nat.le_refl _, fun b _ hb => hother b hb⟩, by simp; omega, .inr ⟨g, i.c, cs', by simp only [Sl.val, hi], Nat.zero_le _, hnew, h4, h5, hsz, ?_⟩⟩
    rw [← hcs', ← h7]
    have hcl : cur.toList.length = i.c * sz := by simpa using h6
    have e1 : (List.take (p * sz) cur.toList).take off = cur.toList.take off := by rw [List.take_take]; congr 1; omega
    have e2 : (List.take (p * sz) cur.toList).drop (off + vs.length) = (cur.toList.drop (off + vs.length)).take (p * sz - (off + vs.length)) := by rw [List.drop_take]
    rw [e1, e2]
    have e3 : (List.take off cur.toList ++ vs).length = off + vs.length := by rw [List.length_append, List.length_take, hcl]; omega
    show List.take (p * sz) (List.take off cur.toList ++ vs ++ List.drop (off + vs.length) cur.toList) = _
    rw [List.take_append, e3, List.take_of_length_le (by rw [e3]; omega)]
theorem cells_set {α : Type} {enc : α → List Value} {sz : Nat} (he : Enc enc sz) {xs : List α} {j off : Nat} {y : α} {vs : List Value} (hj : j < xs.length) (hle : off + vs.length ≤ sz) (hy : enc y = (enc xs[j]).take off ++ vs ++ (enc xs[j]).drop (off + vs.length)) :
    cells enc (xs.set j y) = (cells enc xs).take (j * sz + off) ++ vs ++ (cells enc xs).drop (j * sz + off + vs.length) := by
  have hsp : xs = xs.take j ++ xs[j] :: xs.drop (j + 1) := by rw [← List.drop_eq_getElem_cons hj, List.take_append_drop]
  have hset : xs.set j y = xs.take j ++ y :: xs.drop (j + 1) := by rw [List.set_eq_take_append_cons_drop, if_pos hj]
  have hc : cells enc xs = cells enc (xs.take j) ++ (enc xs[j] ++ cells enc (xs.drop (j + 1))) := by
    conv => lhs; rw [hsp]
    rw [cells_append]; rfl
  have hlt : (cells enc (xs.take j)).length = j * sz := by rw [cells_length he]; simp; rw [Nat.min_eq_left (by omega)]
  have hle2 : (enc xs[j]).length = sz := he.len _
  have t1 : (cells enc xs).take (j * sz + off) = cells enc (xs.take j) ++ (enc xs[j]).take off := by
    rw [hc, List.take_append, hlt, List.take_of_length_le (by rw [hlt]; omega), Nat.add_sub_cancel_left, List.take_append, hle2, show off - sz = 0 by omega]
    simp
  have t2 : (cells enc xs).drop (j * sz + off + vs.length) = (enc xs[j]).drop (off + vs.length) ++ cells enc (xs.drop (j + 1)) := by
    rw [hc, List.drop_append, hlt, List.drop_of_length_le (by rw [hlt]; omega), show j * sz + off + vs.length - j * sz = off + vs.length by omega, List.drop_append, hle2, show off + vs.length - sz = 0 by omega]
    simp
  rw [hset, cells_append, t1, t2]
  show cells enc (xs.take j) ++ (enc y ++ cells enc (xs.drop (j + 1))) = _
  rw [hy]
  simp [List.append_assoc]

/-- An index into an own row, that will be written. -/
theorem stop_idxW {α : Type} {enc : α → List Value} {sz : Nat} (_he : Enc enc sz) (k1 : Nat) {t e : TypeId} {x ix : Operand} {i : Sl} {xs : List α} {kd : IntKind} {m : Int} {d : Nat} {agg : Bool} {size : Nat} {zero : List Value} {fs : List (Nat × Nat × Bool)} {ik : Option IntKind} {kk bytes : Nat} {agg2 : Bool} {zero2 : List Value} {fs2 : List (Nat × Nat × Bool)} {el2 : Option TypeId} {ik2 : Option IntKind} {kk2 bytes2 : Nat}
    (hti : ∀ t, TIok E.P t (ti t)) (hop : o.op = .indexAddr t x ix) {m0 : Nat} (hx : evalO T x = some (.v (i.val m0))) (hix : evalO T ix = some (.v (.int kd m)))
    (ht : ti t = .mk agg size zero fs (some e) ik kk bytes) (hte : ti e = .mk agg2 sz zero2 fs2 el2 ik2 kk2 bytes2) (hd : Dst E o d)
    (hF : F[k1]? = some (own i e enc sz xs)) (hm0 : m0 = xs.length) (j : Nat) (hj : m = (j : Int)) (hlt : j < xs.length)
    (hnext : ∀ g, i.a = some ⟨g, 0, none⟩ → next (.mk ((d, .v (.pointer (some ⟨g, j * sz, none⟩))) :: T) n c B M F)) :
    OpW (opStop E o next T n c B M F) := by
  subst hm0
  refine ⟨fun A a w hW hT => ?_⟩
  have hown := (hW.nth k1 hF).1
  rcases own_cases hown with ⟨_, h2, _⟩ | ⟨g, cur, h2, _⟩
  · omega
  have htt := hti t
  rw [ht] at htt
  obtain ⟨ii, dd, z, e1, e2, e3, e4, e5, e6, e7, e8, e9, e10, e11⟩ := tiSum_parts htt
  have htt2 := hti e
  rw [hte] at htt2
  obtain ⟨ii2, dd2, z2, k1, k2, k3, k4, k5, k6, k7, k8, k9, k10, k11⟩ := tiSum_parts htt2
  have hdd := el_slice e8
  subst hj
  have hr : (execOp a.eval o).run E.P w = .ok (.value (.pointer (some ⟨g, j * sz, none⟩))) w := by
    have hx' : a.eval x = .slice (some ⟨g, 0, none⟩) xs.length i.c := by rw [(evalO_sound hT hx).1]; simp [SV.den, Sl.val, h2]
    have hix' : a.eval ix = .int kd j := (evalO_sound hT hix).1
    simp [execOp, hop, Instr.indexAt, hx', hix', asIntOf, underlying, e2, hdd, run_sizeOf k1, k4, hlt]
    unfold Addr.add
    split <;> simp_all
  refine upon_of_value hr ?_
  rw [hd.1]
  exact ⟨_, ⟨_, hW, hT.put (v := .v (.pointer (some ⟨g, j * sz, none⟩))) hd.lt trivial⟩, hnext g h2⟩
/-- A field of an element that will be written. -/
theorem stop_fldW {t : TypeId} {x : Operand} {k : Nat} {g off o2 sz2 d : Nat} {ag : Bool} {agg : Bool} {size : Nat} {zero : List Value} {fs : List (Nat × Nat × Bool)} {el : Option TypeId} {ik : Option IntKind} {kk bytes : Nat}
    (hti : ∀ t, TIok E.P t (ti t)) (hop : o.op = .fieldAddr t x k) (hx : evalO T x = some (.v (.pointer (some ⟨g, off, none⟩)))) (ht : ti t = .mk agg size zero fs el ik kk bytes) (hk : nth fs k = some (o2, sz2 + 1, ag)) (hd : Dst E o d)
    (hnext : next (.mk ((d, .v (.pointer (some ⟨g, off + o2, none⟩))) :: T) n c B M F)) : OpW (opStop E o next T n c B M F) := by
  refine ⟨fun A a w hW hT => ?_⟩
  have htt := hti t
  rw [ht] at htt
  obtain ⟨ii, dd, z, e1, e2, e3, e4, e5, e6, e7, e8, e9, e10, e11⟩ := tiSum_parts htt
  obtain ⟨fields, f, fi, fd, rfl, hfi, rfl, g1, g2, g3, g4⟩ := fs_field e7 hk
  have hx' : a.eval x = .pointer (some ⟨g, off, none⟩) := (evalO_sound hT hx).1
  have hr : (execOp a.eval o).run E.P w = .ok (.value (.pointer (some ⟨g, off + f.offset, none⟩))) w := by
    have hadd : (⟨g, off, none⟩ : Addr).add f.offset = ⟨g, off + f.offset, none⟩ := ptr_add (fun _ => g) 0 off f.offset
    simp [execOp, hop, hx', Instr.fieldAt, underlying, e2, hfi, Instr.sureAddr, fieldPlace, run_sizeOf g1, g2, hadd]
  refine upon_of_value hr ?_
  rw [hd.1]
  exact ⟨_, ⟨_, hW, hT.put (v := .v (.pointer (some ⟨g, off + f.offset, none⟩))) hd.lt trivial⟩, hnext⟩
/-- A store into an own row. -/
theorem stop_storeW {α : Type} {enc : α → List Value} {sz : Nat} (he : Enc enc sz) (k1 : Nat) {xs : List α} {i : Sl} {t e : TypeId} {x y : Operand} {g ad : Nat} {s : SV} {l : List SV} {sz2 : Nat} {agg : Bool} {zero : List Value} {fs : List (Nat × Nat × Bool)} {el : Option TypeId} {ik : Option IntKind} {kk bytes : Nat}
    (hti : ∀ t, TIok E.P t (ti t)) (hop : o.op = .store t x y) (hd : o.dst = none) (hx : evalO T x = some (.v (.pointer (some ⟨g, ad, none⟩)))) (hy : evalO T y = some s) (hl : cellsSV s = some l) (ht : ti t = .mk agg sz2 zero fs el ik kk bytes) (hlen : listLen l = sz2)
    (hF : F[k1]? = some (own i e enc sz xs)) (hi : i.a = some ⟨g, 0, none⟩) (j off : Nat) (y0 : α) (had : ad = j * sz + off) (hj : j < xs.length) (hle : Nat.ble (off + sz2) sz = true) (vs : List Value) (hvs : ∀ A, l.map (SV.den A) = vs)
    (hy0 : enc y0 = (enc xs[j]).take off ++ vs ++ (enc xs[j]).drop (off + vs.length))
    (hnext : next (.mk T n (c + 1) B M (own i e enc sz (xs.set j y0) :: F.eraseIdx k1))) : OpW (opStop E o next T n c B M F) := by
  refine ⟨fun A a w hW hT => ?_⟩
  have hown := (hW.nth k1 hF).1
  have htt := hti t
  rw [ht] at htt
  obtain ⟨ii, dd, z, e1, e2, e3, e4, e5, e6, e7, e8, e9, e10, e11⟩ := tiSum_parts htt
  obtain ⟨h1, h2⟩ := evalO_sound hT hy
  have h3 : a.eval x = .pointer (some ⟨g, ad, none⟩) := (evalO_sound hT hx).1
  obtain ⟨c1, c2, c3⟩ := cellsSV_spec (A := A) hl h2
  rw [hvs A] at c1
  have hvl : vs.length = sz2 := by rw [← hvs A, List.length_map, ← listLen_eq]; exact hlen
  have hle' := Nat.le_of_ble_eq_true hle
  have hjs : (j + 1) * sz ≤ xs.length * sz := Nat.mul_le_mul_right _ hj
  rw [Nat.succ_mul] at hjs
  subst had
  obtain ⟨w', hrun, hX, hnew⟩ := own_store (P := E.P) (w := w) (off := j * sz + off) (vs := vs) hown hi (by omega) (fun v hv => by
    rw [← hvs A] at hv
    obtain ⟨q, hq, rfl⟩ := List.mem_map.1 hv
    exact c3 q hq)
  rw [← cells_set he hj (by omega) hy0] at hnew
  have hr : (execOp a.eval o).run E.P w = .ok .skip w' := by
    have hcs : (s.den A).cells.size = ii.size := by
      have : (s.den A).cells.toList.length = vs.length := by rw [c1]
      simp at this
      rw [this, hvl, e4]
    simp only [execOp, hop, Instr.storeAt, h1, h3, Instr.sureAddr, Sem.run_bind, Sem.run_pure, Result.andThen_ok, storeVar, run_sizeOf e1]
    rw [if_neg (by simp [hcs]), c1]
    simp only [Result.andThen_ok, hrun]
  refine upon_of_skip hr ?_
  rw [hd]
  refine ⟨_, ⟨_, ?_, hT.step w'⟩, hnext⟩
  show WD E A n B M (fOwn false i e sz (cells enc (xs.set j y0)) (xs.set j y0).length :: F.eraseIdx k1) w'
  have hlen' : (xs.set j y0).length = xs.length := by simp
  rw [hlen']
  exact hW.turnX hF hi hX hnew

/-- make([]T, n). -/
theorem stop_make {α : Type} {enc : α → List Value} {sz : Nat} (he : Enc enc sz) (z0 : α) {t e : TypeId} {x : Operand} {kd : IntKind} {m : Int} {d : Nat} {agg : Bool} {size : Nat} {zero : List Value} {fs : List (Nat × Nat × Bool)} {ik : Option IntKind} {kk bytes : Nat} {agg2 : Bool} {zero2 : List Value} {fs2 : List (Nat × Nat × Bool)} {el2 : Option TypeId} {ik2 : Option IntKind} {kk2 bytes2 : Nat}
    (hti : ∀ t, TIok E.P t (ti t)) (hop : o.op = .makeSlice t x x) (hx : evalO T x = some (.v (.int kd m)))
    (ht : ti t = .mk agg size zero fs (some e) ik kk bytes) (hte : ti e = .mk agg2 sz zero2 fs2 el2 ik2 kk2 bytes2) (hz : zero2 = enc z0) (h0 : 0 < sz) (hd : Dst E o d)
    (q : Nat) (hq : m = (q : Int)) (hb : bytes2 * q ≤ 281474976710656) (hm : q ≤ maxLen)
    (hnext : ∀ y : Sl, next (.mk ((d, .v (y.val q)) :: T) n (c + 1) B M (own y e enc sz (List.replicate q z0) :: F))) :
    OpW (opStop E o next T n c B M F) := by
  refine ⟨fun A a w hW hT => ?_⟩
  have htt := hti t
  rw [ht] at htt
  obtain ⟨ii, dd, z, e1, e2, e3, e4, e5, e6, e7, e8, e9, e10, e11⟩ := tiSum_parts htt
  have htt2 := hti e
  rw [hte] at htt2
  obtain ⟨ii2, dd2, z2, k1, k2, k3, k4, k5, k6, k7, k8, k9, k10, k11⟩ := tiSum_parts htt2
  have hdd := el_slice e8
  subst hq
  obtain ⟨w', hr, ho, hg⟩ := run_make_full (P := E.P) w 0 t e ii2 z2 sz (by rw [e2, hdd]) k1 k5 k4 kd kd q (by rw [k11]; exact hb) hm (Nat.zero_le _)
  have hx' : a.eval x = .int kd (q : Int) := (evalO_sound hT hx).1
  have hrr : (execOp a.eval o).run E.P w = .ok (.value (.slice (some ⟨w.heap.size, 0, none⟩) q q)) w' := by
    simp only [execOp, hop, hx', hr, Sem.run_bind, Sem.run_pure, Result.andThen_ok]
  have hzc : z2.cells.toList = enc z0 := by rw [k6, hz]
  have hcells : (madeCells z2.cells (q * sz)).toList = cells enc (List.replicate q z0) := by
    have hzs : z2.cells.size = sz := by have := congrArg List.length hzc; rw [he.len] at this; simpa using this
    apply List.ext_getElem?
    intro j
    by_cases hj : j < q * sz
    · have hk : j / sz < q := Nat.div_lt_of_lt_mul (by rwa [Nat.mul_comm] at hj)
      have hrm : j % sz < sz := Nat.mod_lt _ h0
      have hr' : j % sz < (enc ((List.replicate q z0)[j / sz]'(by simpa using hk))).length := by rw [he.len]; exact hrm
      have h2 := cells_at he (xs := List.replicate q z0) (by simpa using hk) (List.getElem?_eq_getElem hr')
      rw [Nat.div_add_mod'] at h2
      rw [h2]
      simp only [madeCells, Array.toList_map, Array.toList_range, List.getElem?_map, List.getElem?_range hj, Option.map_some, List.getElem_replicate]
      congr 1
      rw [hzs, getElem!_pos z2.cells (j % sz) (by rw [hzs]; exact hrm)]
      have : z2.cells[j % sz]'(by rw [hzs]; exact hrm) = z2.cells.toList[j % sz]'(by simpa [hzs] using hrm) := by simp
      rw [this]
      simp only [hzc]
    · rw [List.getElem?_eq_none (by simp [madeCells]; omega), List.getElem?_eq_none (by rw [cells_length he]; simp; omega)]
  rw [hcells] at ho
  refine upon_of_value hrr ?_
  rw [hd.1]
  have hnew : New w w' [own (⟨some ⟨w.heap.size, 0, none⟩, q⟩ : Sl) e enc sz (List.replicate q z0)] := by
    refine ⟨fun f hf => ?_, List.pairwise_singleton _ _⟩
    simp only [List.mem_singleton] at hf
    subst hf
    have ho' : w'.ownsRow 0 e sz ((⟨some ⟨w.heap.size, 0, none⟩, q⟩ : Sl).val (List.replicate q z0).length) (List.replicate q z0).length (cells enc (List.replicate q z0)) := by
      rw [List.length_replicate]; exact ho
    refine ⟨ho', rfl, ?_⟩
    rintro b ⟨ad, q1, rfl⟩
    simp only [Option.some.injEq] at q1
    subst q1
    have hlt := (ho.lt w.heap.size (by simp [Value.ownBlock])).2
    exact ⟨Nat.le_refl _, hlt⟩
  have hex : Ext w w' := ExtX.grown hg (fun g hg => by cases hg)
  exact ⟨_, ⟨_, hW.learn hex hnew, (hT.step w').put (v := .v ((⟨some ⟨w.heap.size, 0, none⟩, q⟩ : Sl).val q)) hd.lt trivial⟩, hnext _⟩
end
end Go.Sx
