/- FnExactReadyThreads: texts that its proof stands on, part 1. -/
import Derived.Test.YtklclbcckjhdpaaGreatQExactStateFitsi
namespace Go.Proofs.YtklclbcckjhdpaaGreat

open Go Go.Sx Go.RowKit

theorem cl20 : callable Tryz.prog 20 = true := by kernel_rfl

theorem cl21 : callable Tryz.prog 21 = true := by kernel_rfl

theorem cl34 : callable Tryz.prog 34 = true := by kernel_rfl

theorem cl35 : callable Tryz.prog 35 = true := by kernel_rfl

theorem cl37 : callable Tryz.prog 37 = true := by kernel_rfl

theorem cl38 : callable Tryz.prog 38 = true := by kernel_rfl

theorem cl61 : callable Tryz.prog 61 = true := by kernel_rfl

theorem cl83 : callable Tryz.prog 83 = true := by kernel_rfl

theorem cl84 : callable Tryz.prog 84 = true := by kernel_rfl

theorem cl85 : callable Tryz.prog 85 = true := by kernel_rfl

theorem cl86 : callable Tryz.prog 86 = true := by kernel_rfl

theorem cl87 : callable Tryz.prog 87 = true := by kernel_rfl

theorem cl88 : callable Tryz.prog 88 = true := by kernel_rfl

theorem cl109 : callable Tryz.prog 109 = true := by kernel_rfl

theorem cl152 : callable Tryz.prog 152 = true := by kernel_rfl

theorem cl153 : callable Tryz.prog 153 = true := by kernel_rfl

theorem cl154 : callable Tryz.prog 154 = true := by kernel_rfl

end Go.Proofs.YtklclbcckjhdpaaGreat

namespace Go.Sx

open Go Go.RowKit

section

variable {α : Type} {enc : α → List Value} {sz : Nat}

end

section

variable {E : Env} {ti : Nat → TI} {A : Nat → Nat} {T : List (Nat × SV)} {n c : Nat} {B : List (Nat × TypeId × Nat)} {M : List ((Nat × Nat) × SV)} {F Fs : List Fct} {o : Oper} {next : St → Prop} {a : Act} {w : World}

/-- A binary operation that yields r. -/
theorem stop_bin {op : BinOp} {t t' : TypeId} {x y : Operand} {u v : Value} {d : Nat} (hop : o.op = .binOp op t x y t') (hx : evalV T x = some u) (hy : evalV T y = some v) (hd : Dst E o d) (r : Value)
    (hg : ∀ w, (eqGuard op t x y u v).run E.P w = .ok () w) (hb : ∀ w, (binOp op t u v).run E.P w = .ok r w) (hnext : next (.mk ((d, .v r) :: T) n c B M F)) :
    OpW (opStop E o next T n c B M F) := by
  refine ⟨fun A a w hW hT => ?_⟩
  refine upon_of_value (bin_run hT hop hx hy (hg w) (hb w)) ?_
  rw [hd.1]
  exact ⟨_, ⟨_, hW, hT.put (v := .v r) hd.lt trivial⟩, hnext⟩

theorem rem_run {P : Program} {t : TypeId} {k : IntKind} {p q r : Int} (hne : q ≠ 0) (hr : r = p.tmod q) (w : World) : (binOp .rem t (.int k p) (.int k q)).run P w = .ok (.int k r) w := by
  subst hr; simp [binOp, Op.intDiv, hne]

end

end Go.Sx

namespace Go.Sx

open Go Go.RowKit

/-- What a call returns that may write the rows of G, and the facts that it leaves. -/
def RetG (w : World) (G : List Fct) (R : Value → List Fct → Prop) : Ending → World → Prop := fun e w' =>
  ∃ v L, e = .returned v ∧ ExtX (gfoot G) w w' ∧ NewG w w' G L ∧ R v L

abbrev mkEnvG (P : Program) (w : World) (N : Nat) (G : List Fct) : Env := ⟨P, w, gfoot G, N, 0, fun _ => 0⟩

theorem WD.initG (P : Program) (w : World) (N : Nat) (A : Nat → Nat) {G Fo : List Fct} (h : AtG w G Fo) (ho : initOk Fo) : WD (mkEnvG P w N G) A 0 [] [] (G ++ Fo) w := by
  refine ⟨by simp, by simp, by simp [lookM], by simp, Nat.le_refl _, ExtX.refl _ _, fun f hf => ?_, h.dj⟩
  obtain ⟨h1, h2⟩ := At_all h.at_ f hf
  refine ⟨h1, fun b hb => ⟨h2 b hb, by simp⟩, fun e b hb => .inr ?_⟩
  rcases List.mem_append.1 hf with hf | hf
  · exact ⟨f, hf, hb⟩
  · rw [(initOk_all ho f hf).2] at e; cases e

section

variable {P : Program} {f : FuncId} {fn : Func} {x : Code} {R : Ending → World → Prop} {ti : Nat → TI}

theorem callsG_fn (hf : P.funcs[f]? = some fn) (hb : fn.body = some x) (hti : ∀ t, TIok P t (ti t)) (w : World) (N : Nat) (hN : fn.ntmps = N) (rs : List ResultVar) (hrs : fn.results.toList = rs) (G Fo : List Fct) (hF : AtG w G Fo) (ho : initOk Fo)
    (l : List Value) (args : Array Value) (ha : args.toList = l) (hl : Nat.ble l.length N = true)
    (hv : vcCode (mkEnvG P w N G) ti x (bodyK (mkEnvG P w N G) ti rs R) (.mk (initT 0 (l.map .v)) 0 0 [] [] (G ++ Fo))) : Calls P f args w R := by
  subst hN; subst hrs
  exact calls_sx hf hb (mkEnvG P w fn.ntmps G) rfl rfl hti (l.map .v) 0 [] [] (G ++ Fo) (A := fun _ => 0) (by simp [ha, show (SV.den (fun _ => 0) ∘ SV.v) = id from rfl]) (fun s hs => by obtain ⟨u, _, rfl⟩ := List.mem_map.1 hs; trivial) (by simpa using Nat.le_of_ble_eq_true hl) (WD.initG P w _ _ hF ho) hv

end

/-- A return of a function that took rows. -/
theorem retG {P : Program} {w : World} {N : Nat} {n : Nat} {B : List (Nat × TypeId × Nat)} {M : List ((Nat × Nat) × SV)} {F G : List Fct} {R : Value → List Fct → Prop} {l : List SV} (ix : List Nat) {L : List Fct} {v : Value} (hR : R v L) (hF : FW F ix L) (hix : nodupB ix = true) (ho : freshOk L) (hv : ∀ A, resV A l = v) :
    RetW (∀ A w', WD (mkEnvG P w N G) A n B M F w' → RetG w G R (.returned (resV A l)) w') := by
  refine ⟨fun A w' h => ?_⟩
  rw [hv A]
  have hs := h.pick ix hF hix
  refine ⟨v, L, rfl, h.ext, ⟨fun f hf => ?_, hs.dj⟩, hR⟩
  obtain ⟨h1, h2, h3⟩ := hs.fct f hf
  exact ⟨h1, freshOk_all ho f hf, fun b hb => ⟨h3 (freshOk_all ho f hf) b hb, (h2 b hb).1⟩⟩

section

variable {E : Env} {ti : Nat → TI} {A : Nat → Nat} {T : List (Nat × SV)} {n c : Nat} {B : List (Nat × TypeId × Nat)} {M : List ((Nat × Nat) × SV)} {F Fs : List Fct} {o : Oper} {next : St → Prop} {a : Act} {w w' : World}

/-- A call has written the rows G. -/
theorem WD.callG (h : WD E A n B M F w) {ix : List Nat} {G : List Fct} (hG : FK F ix G) (hok : grantOk G) (hex : ExtX (gfoot G) w w') {L : List Fct} (hL : NewG w w' G L) : WD E A n B M (L ++ dropAt ix 0 F) w' := by
  have hgf : ∀ b, gfoot G b → b < w.heap.size ∧ (∀ k ty sz, (k, ty, sz) ∈ B → A k ≠ b) ∧ (E.w0.heap.size ≤ b ∨ E.X b) ∧ ∀ f ∈ dropAt ix 0 F, ¬ f.foot b := by
    rintro b ⟨g, hg, hb⟩
    obtain ⟨i, hi1, hi2⟩ := FK_at hG g hg
    obtain ⟨h1, h2, h3⟩ := h.fct _ (List.mem_of_getElem? hi2)
    obtain ⟨o1, o2⟩ := grantOk_all hok g hg
    refine ⟨(h2 b hb).1, (h2 b hb).2, h3 o2 b hb, fun f hf hfb => ?_⟩
    obtain ⟨j, hj1, hj2⟩ := dropAt_at ix F 0 f hf
    rw [Nat.zero_add] at hj2
    exact pairwise_pick h.dj (fun e => hj2 (by rw [← e]; exact hi1)) hi2 hj1 (.inl o1) b hb hfb
  have hsub := h.sub (dropAt_sub ix F 0)
  have h' := hsub.grow hex (fun k ty sz hk hg => (hgf _ hg).2.1 k ty sz hk rfl) (fun f hf b hb hg => (hgf b hg).2.2.2 f hf hb) (fun b hb hg => (hgf b hg).2.2.1.resolve_left (by omega))
  refine ⟨h'.key, h'.inj, h'.mem, h'.a0, h'.n0, h'.ext, ?_, ?_⟩
  · intro f hf
    rcases List.mem_append.1 hf with hf | hf
    · obtain ⟨h1, h2, h3⟩ := hL.all f hf
      refine ⟨h1, fun b hb => ⟨(h3 b hb).2, fun k ty sz hk e => ?_⟩, fun _ b hb => ?_⟩
      · rcases (h3 b hb).1 with h4 | h4
        · have := (h.key k ty sz hk).2.1
          omega
        · exact (hgf b h4).2.1 k ty sz hk e
      · rcases (h3 b hb).1 with h4 | h4
        · exact .inl (Nat.le_trans h.ext.size h4)
        · exact (hgf b h4).2.2.1
    · exact h'.fct f hf
  · rw [List.pairwise_append]
    refine ⟨hL.dj, h'.dj, fun f hf g hg _ b hb hb' => ?_⟩
    rcases ((hL.all f hf).2.2 b hb).1 with h4 | h4
    · have := ((hsub.fct g hg).2.1 b hb').1
      omega
    · exact (hgf b h4).2.2.2 g hg hb'

/-- A call that may write the rows of the facts ix. -/
theorem stop_callG (R : Value → List Fct → Prop) (ix : List Nat) {G : List Fct} {k : Call} {fo : Operand} {g : FuncId} {cap : List (Nat × Nat)} {l : List SV} {d : Nat} (hc : callable E.P g = true)
    (hop : o.op = .call k) (hk : k.callee = .value fo) (hf : evalO T fo = some (.f g cap)) (ha : evalOs T k.args.toList = some l) (hd : Dst E o d) (hG : FK F ix G) (hok : grantOk G)
    (hcall : ∀ A w, WD E A n B M F w → Calls E.P g ((l.map (SV.den A)) ++ cap.map (fun x => ptr A x.1 x.2)).toArray w (RetG w G R))
    (hnext : ∀ v L, R v L → next (.mk ((d, .v v) :: T) n (c + 1) B M (L ++ dropAt ix 0 F))) :
    OpW (opStop E o next T n c B M F) := by
  refine ⟨fun A a w hW hT => ?_⟩
  unfold Oper.wp
  rw [call_enter hT hc hop hk hf ha, Oper.upon_enter]
  refine (hcall A w hW).mono ?_
  rintro e w' ⟨v, L, rfl, he, hL, hR⟩
  refine ⟨_, ⟨_, hW.callG hG hok he hL, ?_⟩, hnext v L hR⟩
  rw [hd.1]
  exact (hT.step w').put (v := .v v) hd.lt trivial

end

end Go.Sx

namespace Go.Sx

open Go Go.RowKit

section

variable {E : Env} {A : Nat → Nat} {T : List (Nat × SV)} {n c : Nat} {B : List (Nat × TypeId × Nat)} {M Ms : List ((Nat × Nat) × SV)} {F F' Fs : List Fct} {o : Oper} {next : St → Prop} {w : World}

theorem stop_shift (h : Shift F F') (k : OpW (opStop E o next T n c B M F')) : OpW (opStop E o next T n c B M F) := ⟨fun A a w hW hT => k.out A a w (h E A n B M w hW) hT⟩

end

end Go.Sx

namespace Go.Proofs.YtklclbcckjhdpaaGreat

open Go Go.Sx Go.RowKit

/-- n marks, from k on. -/
def marks (k : Nat) : Nat → List Int
  | 0 => []
  | n + 1 => (k : Int) :: marks (k + 1) n

theorem marks_len (k n : Nat) : (marks k n).length = n := by
  induction n generalizing k with
  | zero => rfl
  | succ n ih => simp [marks, ih]

theorem marks_get (k n j : Nat) (hj : j < n) : (marks k n)[j]? = some ((k + j : Nat) : Int) := by
  induction n generalizing k j with
  | zero => omega
  | succ n ih =>
    cases j with
    | zero => simp [marks]
    | succ j => simp only [marks, List.getElem?_cons_succ]; rw [ih (k + 1) j (by omega)]; congr 2; omega

theorem marks_set (xs : List Int) (k j : Nat) (hj : j < xs.length) : (marks k j ++ xs.drop j).set j ((k + j : Nat) : Int) = marks k (j + 1) ++ xs.drop (j + 1) := by
  have h1 : marks k (j + 1) = marks k j ++ [((k + j : Nat) : Int)] := by
    apply List.ext_getElem?
    intro q
    rcases Nat.lt_or_ge q j with hq | hq
    · rw [List.getElem?_append_left (by rw [marks_len]; exact hq), marks_get _ _ _ hq, marks_get _ _ _ (by omega)]
    · rcases Nat.eq_or_lt_of_le hq with rfl | hq
      · rw [marks_get _ _ _ (by omega), List.getElem?_append_right (by rw [marks_len]; exact Nat.le_refl _), marks_len]; simp
      · rw [List.getElem?_eq_none (by rw [marks_len]; omega), List.getElem?_eq_none (by simp [marks_len]; omega)]
  rw [List.set_append_right _ _ (by rw [marks_len]; exact Nat.le_refl _), marks_len, Nat.sub_self, List.drop_eq_getElem_cons hj, h1, List.append_assoc]
  rfl

set_option maxRecDepth 100000 in
theorem markIntS_c (i : Sl) (xs : List Int) (k : Nat) (w : World) (h : AtG w [own i 3 cInt 1 xs] []) (hb : xs.length ≤ 4294967296) (hk : k ≤ 1152921504606846976) :
    Calls Tryz.prog 37 #[i.val xs.length, .int .i64 (k : Int)] w (RetG w [own i 3 cInt 1 xs] fun v L => v = .int .i64 ((k + xs.length : Nat) : Int) ∧ L = [own i 3 cInt 1 (marks k xs.length)]) := by
  refine callsG_fn Tryz.func37 rfl tabOk w _ rfl _ rfl _ _ h trivial _ _ rfl rfl ?_
  refine LoopW.mk ⟨{ j : Nat // j ≤ xs.length },
    fun j => .mk [(0, .v (i.val (marks k j.1 ++ xs.drop j.1).length)), (1, .v (.int .i64 ((k + j.1 : Nat) : Int))), (5, .v (.int .i64 (j.1 : Int)))] 0 0 [] [] [own i 3 cInt 1 (marks k j.1 ++ xs.drop j.1)],
    fun j => xs.length - j.1, ⟨0, Nat.zero_le _⟩, ?_, ?_⟩
  · refine weak_mk [0] ?_ ?_ ?_ ?_ ?_ rfl rfl
    · repeat (first | exact trivial | refine ⟨⟨_, rfl, (by first | exact .of rfl | exact .lit rfl | exact .of (by first | ((simp [marks]))) | exact .lit (by first | ((simp [marks])))), (by first | exact trivial | exact Nat.le_of_ble_eq_true rfl | exact small1 rfl)⟩, ?_⟩)
    · repeat (first | exact trivial | refine ⟨⟨(by first | exact .head _ | exact .tail _ (.head _) | exact .tail _ (.tail _ (.head _)) | exact .tail _ (.tail _ (.tail _ (.head _))) | exact .tail _ (.tail _ (.tail _ (.tail _ (.head _)))) | exact .tail _ (.tail _ (.tail _ (.tail _ (.tail _ (.head _))))) | exact .tail _ (.tail _ (.tail _ (.tail _ (.tail _ (.tail _ (.head _)))))) | exact .tail _ (.tail _ (.tail _ (.tail _ (.tail _ (.tail _ (.tail _ (.head _))))))) | exact .tail _ (.tail _ (.tail _ (.tail _ (.tail _ (.tail _ (.tail _ (.tail _ (.head _)))))))) | exact .tail _ (.tail _ (.tail _ (.tail _ (.tail _ (.tail _ (.tail _ (.tail _ (.tail _ (.head _)))))))))), Nat.le_of_ble_eq_true rfl⟩, ?_⟩)
    · repeat (first | exact trivial | refine ⟨⟨_, rfl, (by first | exact .of rfl | exact .lit rfl | exact .of (by first | ((simp [marks]))) | exact .lit (by first | ((simp [marks])))), (by first | exact trivial | exact Nat.le_of_ble_eq_true rfl | exact small1 rfl)⟩, ?_⟩)
    · repeat (first | exact trivial | refine ⟨⟨_, rfl⟩, ?_⟩)
    · repeat (first | exact trivial | refine ⟨.inl ⟨_, rfl, (by first | rfl | ((simp [marks])))⟩, ?_⟩ | refine ⟨.inr ⟨Nat.le_of_ble_eq_true rfl, rfl, rfl, rfl, rfl⟩, ?_⟩)
  · rintro ⟨j, hj⟩
    have hl : (marks k j ++ xs.drop j).length = xs.length := by rw [List.length_append, marks_len, List.length_drop]; omega
    refine CaseB.mk (fun h => ?_) (fun h => ?_)
    · have hlt : j < xs.length := by simp only [hl] at h; simpa using h
      have hT := marks_set xs k j hlt
      refine stop_idxW encInt 0 tabOk rfl rfl rfl rfl rfl ⟨rfl, rfl⟩ rfl (by first | rfl | (simp; done)) j rfl (Nat.lt_of_lt_of_eq hlt hl.symm) (fun g hg => ?_)
      refine stop_storeW encInt 0 tabOk rfl rfl rfl rfl rfl rfl rfl rfl hg j 0 ((k + j : Nat) : Int) rfl (Nat.lt_of_lt_of_eq hlt hl.symm) rfl [.int .i64 ((k + j : Nat) : Int)] (fun _ => rfl) rfl ?_
      have hw := e_succ j _ hlt (by omega)
      have hw2 := e_succ (k + j) (k + xs.length) (by omega) (by omega)
      refine ⟨⟨j + 1, by omega⟩, ?_, by simp; omega⟩
      refine weak_mk [0] ?_ ?_ ?_ ?_ ?_ rfl rfl
      · repeat (first | exact trivial | refine ⟨⟨_, rfl, (by first | exact .of rfl | exact .lit rfl | exact .of (by first | ((first | (rw [hT]; done) | (simp only; done) | exact congrArg (fun z => SV.v (Value.int .i64 z)) hw | exact congrArg (fun z => SV.v (Value.int .i64 z)) hw2 | (rw [← hT]; simp)))) | exact .lit (by first | ((first | (rw [hT]; done) | (simp only [hT]; done) | exact congrArg (fun z => SV.v (Value.int .i64 z)) hw | exact congrArg (fun z => SV.v (Value.int .i64 z)) hw2 | (rw [← hT]; simp))))), (by first | exact trivial | exact Nat.le_of_ble_eq_true rfl | exact small1 rfl)⟩, ?_⟩)
      · repeat (first | exact trivial | refine ⟨⟨(by first | exact .head _ | exact .tail _ (.head _) | exact .tail _ (.tail _ (.head _)) | exact .tail _ (.tail _ (.tail _ (.head _))) | exact .tail _ (.tail _ (.tail _ (.tail _ (.head _)))) | exact .tail _ (.tail _ (.tail _ (.tail _ (.tail _ (.head _))))) | exact .tail _ (.tail _ (.tail _ (.tail _ (.tail _ (.tail _ (.head _)))))) | exact .tail _ (.tail _ (.tail _ (.tail _ (.tail _ (.tail _ (.tail _ (.head _))))))) | exact .tail _ (.tail _ (.tail _ (.tail _ (.tail _ (.tail _ (.tail _ (.tail _ (.head _)))))))) | exact .tail _ (.tail _ (.tail _ (.tail _ (.tail _ (.tail _ (.tail _ (.tail _ (.tail _ (.head _)))))))))), Nat.le_of_ble_eq_true rfl⟩, ?_⟩)
      · repeat (first | exact trivial | refine ⟨⟨_, rfl, (by first | exact .of rfl | exact .lit rfl | exact .of (by first | ((first | (rw [hT]; done) | (simp only [hT]; done) | exact congrArg (fun z => SV.v (Value.int .i64 z)) hw | exact congrArg (fun z => SV.v (Value.int .i64 z)) hw2 | (rw [← hT]; simp)))) | exact .lit (by first | ((first | (rw [hT]; done) | (simp only [hT]; done) | exact congrArg (fun z => SV.v (Value.int .i64 z)) hw | exact congrArg (fun z => SV.v (Value.int .i64 z)) hw2 | (rw [← hT]; simp))))), (by first | exact trivial | exact Nat.le_of_ble_eq_true rfl | exact small1 rfl)⟩, ?_⟩)
      · repeat (first | exact trivial | refine ⟨⟨_, rfl⟩, ?_⟩)
      · repeat (first | exact trivial | refine ⟨.inl ⟨_, rfl, (by first | rfl | ((first | (rw [hT]; done) | (simp only [hT]; done) | exact congrArg (fun z => SV.v (Value.int .i64 z)) hw | exact congrArg (fun z => SV.v (Value.int .i64 z)) hw2 | (rw [← hT]; simp))))⟩, ?_⟩ | refine ⟨.inr ⟨Nat.le_of_ble_eq_true rfl, rfl, rfl, rfl, rfl⟩, ?_⟩)
    · have hge : xs.length ≤ j := by simp only [hl] at h; simpa using h
      have hje : j = xs.length := by omega
      have hT : marks k j ++ xs.drop j = marks k xs.length := by rw [hje]; simp
      exact retG [0] ⟨rfl, rfl⟩ ⟨.inl ⟨_, rfl, (by first | rfl | ((first | (simp only [hT]; done) | simp only [resV, SV.den, hje])))⟩, trivial⟩ rfl ⟨rfl, trivial⟩ (fun _ => (by first | rfl | ((first | (simp only; done) | simp only [resV, SV.den, hje]))))

set_option maxRecDepth 100000 in
theorem heldIntS_c (i : Sl) (k n : Nat) (w : World) (h : At w [slo i cInt 1 (marks k n)]) (hb : n ≤ 4294967296) (hk : k ≤ 1152921504606846976) :
    Calls Tryz.prog 38 #[i.val (marks k n).length, .int .i64 (k : Int)] w (Ret w fun v L => v = .int .i64 ((k + n : Nat) : Int) ∧ L = []) := by
  refine calls2 Tryz.func38 rfl tabOk w _ rfl _ rfl _ h ⟨rfl, rfl, trivial⟩ _ _ (by decide) ?_
  refine LoopW.mk ⟨{ j : Nat // j ≤ n },
    fun j => .mk [(0, .v (i.val (marks k n).length)), (1, .v (.int .i64 ((k + j.1 : Nat) : Int))), (5, .v (.int .i64 (j.1 : Int)))] 0 0 [] [] [slo i cInt 1 (marks k n)],
    fun j => n - j.1, ⟨0, Nat.zero_le _⟩, ?_, ?_⟩
  · refine weak_mk [0] ?_ ?_ ?_ ?_ ?_ rfl rfl
    · repeat (first | exact trivial | refine ⟨⟨_, rfl, (by first | exact .of rfl | exact .lit rfl | exact .of (by first | (rfl)) | exact .lit (by first | (rfl))), (by first | exact trivial | exact Nat.le_of_ble_eq_true rfl | exact small1 rfl)⟩, ?_⟩)
    · repeat (first | exact trivial | refine ⟨⟨(by first | exact .head _ | exact .tail _ (.head _) | exact .tail _ (.tail _ (.head _)) | exact .tail _ (.tail _ (.tail _ (.head _))) | exact .tail _ (.tail _ (.tail _ (.tail _ (.head _)))) | exact .tail _ (.tail _ (.tail _ (.tail _ (.tail _ (.head _))))) | exact .tail _ (.tail _ (.tail _ (.tail _ (.tail _ (.tail _ (.head _)))))) | exact .tail _ (.tail _ (.tail _ (.tail _ (.tail _ (.tail _ (.tail _ (.head _))))))) | exact .tail _ (.tail _ (.tail _ (.tail _ (.tail _ (.tail _ (.tail _ (.tail _ (.head _)))))))) | exact .tail _ (.tail _ (.tail _ (.tail _ (.tail _ (.tail _ (.tail _ (.tail _ (.tail _ (.head _)))))))))), Nat.le_of_ble_eq_true rfl⟩, ?_⟩)
    · repeat (first | exact trivial | refine ⟨⟨_, rfl, (by first | exact .of rfl | exact .lit rfl | exact .of (by first | (rfl)) | exact .lit (by first | (rfl))), (by first | exact trivial | exact Nat.le_of_ble_eq_true rfl | exact small1 rfl)⟩, ?_⟩)
    · repeat (first | exact trivial | refine ⟨⟨_, rfl⟩, ?_⟩)
    · repeat (first | exact trivial | refine ⟨.inl ⟨_, rfl, (by first | rfl | (rfl))⟩, ?_⟩ | refine ⟨.inr ⟨Nat.le_of_ble_eq_true rfl, rfl, rfl, rfl, rfl⟩, ?_⟩)
  · rintro ⟨j, hj⟩
    refine CaseB.mk (fun h => ?_) (fun h => ?_)
    · have hlt : j < n := by rw [marks_len] at h; simpa using h
      have hlt2 : j < (marks k n).length := by rw [marks_len]; exact hlt
      have hv : (marks k n)[j] = ((k + j : Nat) : Int) := by
        have := marks_get k n j hlt
        rw [List.getElem?_eq_getElem hlt2] at this
        injection this
      refine stop_idx encInt tabOk rfl rfl rfl rfl rfl ⟨rfl, rfl⟩ (by first | exact rdAt 0 rfl | exact rdOwnAt 0 rfl | exact rdAt 1 rfl | exact rdOwnAt 1 rfl | exact rdAt 2 rfl | exact rdOwnAt 2 rfl | exact rdAt 3 rfl | exact rdOwnAt 3 rfl | exact rdAt 4 rfl | exact rdOwnAt 4 rfl | exact rdAt 5 rfl | exact rdOwnAt 5 rfl | exact rdAt 6 rfl | exact rdOwnAt 6 rfl | exact rdAt 7 rfl | exact rdOwnAt 7 rfl | exact rdAt 8 rfl | exact rdOwnAt 8 rfl | exact rdAt 9 rfl | exact rdOwnAt 9 rfl | exact rdAt 10 rfl | exact rdOwnAt 10 rfl | exact rdAt 11 rfl | exact rdOwnAt 11 rfl | exact rdAt 12 rfl | exact rdOwnAt 12 rfl | exact rdAt 13 rfl | exact rdOwnAt 13 rfl | exact rdAt 14 rfl | exact rdOwnAt 14 rfl | exact rdAt 15 rfl | exact rdOwnAt 15 rfl | exact rdAt 16 rfl | exact rdOwnAt 16 rfl | exact rdAt 17 rfl | exact rdOwnAt 17 rfl | exact rdAt 18 rfl | exact rdOwnAt 18 rfl | exact rdAt 19 rfl | exact rdOwnAt 19 rfl | exact rdAt 20 rfl | exact rdOwnAt 20 rfl | exact rdAt 21 rfl | exact rdOwnAt 21 rfl | exact rdAt 22 rfl | exact rdOwnAt 22 rfl | exact rdAt 23 rfl | exact rdOwnAt 23 rfl) j rfl (by first | omega | (simp; done) | (simp; omega) | (unfold maxLen; omega) | (unfold maxLen; simp; done) | (unfold maxLen; simp; omega)) (fun ad => ?_)
      refine CaseB.mk (fun h => by rw [hv] at h; simp at h) (fun h => ?_)
      have hw := e_succ j _ hlt (by omega)
      have hw2 := e_succ (k + j) (k + n) (by omega) (by omega)
      refine ⟨⟨j + 1, by omega⟩, ?_, by simp; omega⟩
      refine weak_mk [0] ?_ ?_ ?_ ?_ ?_ rfl rfl
      · repeat (first | exact trivial | refine ⟨⟨_, rfl, (by first | exact .of rfl | exact .lit rfl | exact .of (by first | ((first | exact congrArg (fun z => SV.v (Value.int .i64 z)) hw | exact congrArg (fun z => SV.v (Value.int .i64 z)) hw2))) | exact .lit (by first | ((first | exact congrArg (fun z => SV.v (Value.int .i64 z)) hw | exact congrArg (fun z => SV.v (Value.int .i64 z)) hw2)))), (by first | exact trivial | exact Nat.le_of_ble_eq_true rfl | exact small1 rfl)⟩, ?_⟩)
      · repeat (first | exact trivial | refine ⟨⟨(by first | exact .head _ | exact .tail _ (.head _) | exact .tail _ (.tail _ (.head _)) | exact .tail _ (.tail _ (.tail _ (.head _))) | exact .tail _ (.tail _ (.tail _ (.tail _ (.head _)))) | exact .tail _ (.tail _ (.tail _ (.tail _ (.tail _ (.head _))))) | exact .tail _ (.tail _ (.tail _ (.tail _ (.tail _ (.tail _ (.head _)))))) | exact .tail _ (.tail _ (.tail _ (.tail _ (.tail _ (.tail _ (.tail _ (.head _))))))) | exact .tail _ (.tail _ (.tail _ (.tail _ (.tail _ (.tail _ (.tail _ (.tail _ (.head _)))))))) | exact .tail _ (.tail _ (.tail _ (.tail _ (.tail _ (.tail _ (.tail _ (.tail _ (.tail _ (.head _)))))))))), Nat.le_of_ble_eq_true rfl⟩, ?_⟩)
      · repeat (first | exact trivial | refine ⟨⟨_, rfl, (by first | exact .of rfl | exact .lit rfl | exact .of (by first | ((first | exact congrArg (fun z => SV.v (Value.int .i64 z)) hw | exact congrArg (fun z => SV.v (Value.int .i64 z)) hw2))) | exact .lit (by first | ((first | exact congrArg (fun z => SV.v (Value.int .i64 z)) hw | exact congrArg (fun z => SV.v (Value.int .i64 z)) hw2)))), (by first | exact trivial | exact Nat.le_of_ble_eq_true rfl | exact small1 rfl)⟩, ?_⟩)
      · repeat (first | exact trivial | refine ⟨⟨_, rfl⟩, ?_⟩)
      · repeat (first | exact trivial | refine ⟨.inl ⟨_, rfl, (by first | rfl | ((first | exact congrArg (fun z => SV.v (Value.int .i64 z)) hw | exact congrArg (fun z => SV.v (Value.int .i64 z)) hw2)))⟩, ?_⟩ | refine ⟨.inr ⟨Nat.le_of_ble_eq_true rfl, rfl, rfl, rfl, rfl⟩, ?_⟩)
    · have hge : n ≤ j := by rw [marks_len] at h; simpa using h
      have hje : j = n := by omega
      subst hje
      exact retw [] ⟨rfl, rfl⟩ trivial rfl trivial (fun _ => rfl)

theorem heldIntS_n (i : Sl) (k n : Nat) (w : World) (h : At w [slo i cInt 1 (marks k n)]) (hb : n ≤ 4294967296) (hk : k ≤ 1152921504606846976) :
    Calls Tryz.prog 38 #[i.val n, .int .i64 (k : Int)] w (Ret w fun v L => v = .int .i64 ((k + n : Nat) : Int) ∧ L = []) := by
  have := heldIntS_c i k n w h hb hk
  rwa [marks_len] at this

end Go.Proofs.YtklclbcckjhdpaaGreat

namespace Go.Sx

open Go Go.RowKit

section

variable {E : Env} {ti : Nat → TI} {A : Nat → Nat} {T : List (Nat × SV)} {n c : Nat} {B : List (Nat × TypeId × Nat)} {M Ms : List ((Nat × Nat) × SV)} {F Fs : List Fct} {o : Oper} {next : St → Prop} {w : World}

/-- A bundle of own rows is parted into bundles. -/
theorem Shift.splitOO {F : List Fct} (k : Nat) {G : List Fct} (Gs : List (List Fct)) (hk : F[k]? = some (fO G)) (hp : G.Perm Gs.flatten) : Shift F (Gs.map (fun g => fO g) ++ F.eraseIdx k) := by
  intro E A n B M w h
  obtain ⟨⟨h1, hpw⟩, h2, h3⟩ := h.fct _ (List.mem_of_getElem? hk)
  have hsub := h.sub (eraseIdx_sub F k)
  have hdj := pairwise_nth_erase h.dj hk
  have hpw' := (hp.pairwise_iff (fun h => Dj.symm h)).1 hpw
  rw [List.pairwise_flatten] at hpw'
  have hG : ∀ g ∈ Gs, ∀ f ∈ g, f ∈ G := fun g hg f hf => hp.mem_iff.2 (List.mem_flatten.2 ⟨g, hg, hf⟩)
  refine ⟨h.key, h.inj, h.mem, h.a0, h.n0, h.ext, fun f hf => ?_, ?_⟩
  · rcases List.mem_append.1 hf with hf | hf
    · obtain ⟨g, hg, rfl⟩ := List.mem_map.1 hf
      refine ⟨⟨fun f hf => h1 f (hG g hg f hf), hpw'.1 g hg⟩, ?_, ?_⟩
      · rintro b ⟨f, hf, hb⟩; exact h2 b ⟨f, hG g hg f hf, hb⟩
      · rintro _ b ⟨f, hf, hb⟩; exact h3 rfl b ⟨f, hG g hg f hf, hb⟩
    · exact hsub.fct f hf
  · rw [List.pairwise_append]
    refine ⟨?_, hsub.dj, fun f hf g hg ho b hb hb' => ?_⟩
    · rw [List.pairwise_map]
      refine hpw'.2.imp_of_mem ?_
      intro g1 g2 hg1 hg2 hd _ b hb hb'
      obtain ⟨f1, hf1, hb1⟩ := hb
      obtain ⟨f2, hf2, hb2⟩ := hb'
      exact hd f1 hf1 f2 hf2 (.inl (h1 f1 (hG g1 hg1 f1 hf1)).2.1) b hb1 hb2
    · obtain ⟨g', hg', rfl⟩ := List.mem_map.1 hf
      obtain ⟨f1, hf1, hb1⟩ := hb
      exact hdj g hg (.inl rfl) b ⟨f1, hG g' hg' f1 hf1, hb1⟩ hb'

/-- A slot's value in another spelling. -/
theorem stop_eq (t : Nat) {x y : Value} (ht : look T t = some (.v x)) (e : x = y) (k : OpW (opStop E o next ((t, .v y) :: T) n c B M F)) : OpW (opStop E o next T n c B M F) := by
  subst e
  refine ⟨fun A a w hW hT => k.out A a w hW ⟨hT.size, hT.defers, fun t' v hv => ?_⟩⟩
  rw [look_cons] at hv
  by_cases e : t = t'
  · subst e
    simp at hv; subst hv
    exact hT.tm t _ ht
  · simp [e] at hv
    exact hT.tm t' v hv

end

end Go.Sx

namespace Go.Proofs.YtklclbcckjhdpaaGreat

open Go Go.Sx Go.RowKit

/-- n marks, from k on. -/
def markWaiter (k : Nat) : Waiter := ⟨((k : Nat) : Int), ((k + 1 : Nat) : Int)⟩

def marksWaiter (k : Nat) : Nat → List Waiter
  | 0 => []
  | n + 1 => markWaiter k :: marksWaiter (k + 2) n

theorem marksWaiter_len (k n : Nat) : (marksWaiter k n).length = n := by
  induction n generalizing k with
  | zero => rfl
  | succ n ih => simp [marksWaiter, ih]

theorem marksWaiter_get (k n j : Nat) (hj : j < n) : (marksWaiter k n)[j]? = some (markWaiter (k + 2 * j)) := by
  induction n generalizing k j with
  | zero => omega
  | succ n ih =>
    cases j with
    | zero => simp [marksWaiter]
    | succ j => simp only [marksWaiter, List.getElem?_cons_succ]; rw [ih (k + 2) j (by omega)]; congr 2; omega

theorem marksWaiter_set (xs : List Waiter) (k j : Nat) (hj : j < xs.length) : (marksWaiter k j ++ xs.drop j).set j (markWaiter (k + 2 * j)) = marksWaiter k (j + 1) ++ xs.drop (j + 1) := by
  have h1 : marksWaiter k (j + 1) = marksWaiter k j ++ [markWaiter (k + 2 * j)] := by
    apply List.ext_getElem?
    intro q
    rcases Nat.lt_or_ge q j with hq | hq
    · rw [List.getElem?_append_left (by rw [marksWaiter_len]; exact hq), marksWaiter_get _ _ _ hq, marksWaiter_get _ _ _ (by omega)]
    · rcases Nat.eq_or_lt_of_le hq with rfl | hq
      · rw [marksWaiter_get _ _ _ (by omega), List.getElem?_append_right (by rw [marksWaiter_len]; exact Nat.le_refl _), marksWaiter_len]; simp
      · rw [List.getElem?_eq_none (by rw [marksWaiter_len]; omega), List.getElem?_eq_none (by simp [marksWaiter_len]; omega)]
  rw [List.set_append_right _ _ (by rw [marksWaiter_len]; exact Nat.le_refl _), marksWaiter_len, Nat.sub_self, List.drop_eq_getElem_cons hj, h1, List.append_assoc]
  rfl

set_option maxHeartbeats 4000000 in
set_option maxRecDepth 100000 in
theorem markWaiterS_c (i : Sl) (xs : List Waiter) (k : Nat) (w : World) (h : AtG w [own i 193 cWaiter 2 xs] []) (hb : xs.length ≤ 1048576) (hk : k ≤ 1152921504606846976) :
    Calls Tryz.prog 153 #[i.val xs.length, .int .i64 (k : Int)] w (RetG w [own i 193 cWaiter 2 xs] fun v L => v = .int .i64 ((k + 2 * xs.length : Nat) : Int) ∧ L = [own i 193 cWaiter 2 (marksWaiter k xs.length)]) := by
  refine callsG_fn Tryz.func153 rfl tabOk w _ rfl _ rfl _ _ h trivial _ _ rfl rfl ?_
  refine LoopW.mk ⟨{ j : Nat // j ≤ xs.length },
    fun j => .mk [(0, .v (i.val (marksWaiter k j.1 ++ xs.drop j.1).length)), (1, .v (.int .i64 ((k + 2 * j.1 : Nat) : Int))), (5, .v (.int .i64 (j.1 : Int)))] 0 0 [] [] [own i 193 cWaiter 2 (marksWaiter k j.1 ++ xs.drop j.1)],
    fun j => xs.length - j.1, ⟨0, Nat.zero_le _⟩, ?_, ?_⟩
  · refine weak_mk [0] ?_ ?_ ?_ ?_ ?_ rfl rfl
    · repeat (first | exact trivial | refine ⟨⟨_, rfl, (by first | exact .of rfl | exact .lit rfl | exact .of (by first | ((simp [marksWaiter]))) | exact .lit (by first | ((simp [marksWaiter])))), (by first | exact trivial | exact Nat.le_of_ble_eq_true rfl | exact small1 rfl)⟩, ?_⟩)
    · repeat (first | exact trivial | refine ⟨⟨(by first | exact .head _ | exact .tail _ (.head _) | exact .tail _ (.tail _ (.head _)) | exact .tail _ (.tail _ (.tail _ (.head _))) | exact .tail _ (.tail _ (.tail _ (.tail _ (.head _)))) | exact .tail _ (.tail _ (.tail _ (.tail _ (.tail _ (.head _))))) | exact .tail _ (.tail _ (.tail _ (.tail _ (.tail _ (.tail _ (.head _)))))) | exact .tail _ (.tail _ (.tail _ (.tail _ (.tail _ (.tail _ (.tail _ (.head _))))))) | exact .tail _ (.tail _ (.tail _ (.tail _ (.tail _ (.tail _ (.tail _ (.tail _ (.head _)))))))) | exact .tail _ (.tail _ (.tail _ (.tail _ (.tail _ (.tail _ (.tail _ (.tail _ (.tail _ (.head _)))))))))), Nat.le_of_ble_eq_true rfl⟩, ?_⟩)
    · repeat (first | exact trivial | refine ⟨⟨_, rfl, (by first | exact .of rfl | exact .lit rfl | exact .of (by first | ((simp [marksWaiter]))) | exact .lit (by first | ((simp [marksWaiter])))), (by first | exact trivial | exact Nat.le_of_ble_eq_true rfl | exact small1 rfl)⟩, ?_⟩)
    · repeat (first | exact trivial | refine ⟨⟨_, rfl⟩, ?_⟩)
    · repeat (first | exact trivial | refine ⟨.inl ⟨_, rfl, (by first | rfl | ((simp [marksWaiter])))⟩, ?_⟩ | refine ⟨.inr ⟨Nat.le_of_ble_eq_true rfl, rfl, rfl, rfl, rfl⟩, ?_⟩)
  · rintro ⟨j, hj⟩
    have hl : (marksWaiter k j ++ xs.drop j).length = xs.length := by rw [List.length_append, marksWaiter_len, List.length_drop]; omega
    refine CaseB.mk (fun h => ?_) (fun h => ?_)
    · have hlt : j < xs.length := by simp only [hl] at h; simpa using h
      have hT := marksWaiter_set xs k j hlt
      have hw := e_succ j _ hlt (by omega)
      have hl2 := Nat.lt_of_lt_of_eq hlt hl.symm
      generalize hq : (marksWaiter k j ++ xs.drop j) = Q at hl hT hl2
      have hw0 : IntKind.i64.wrap (((k + 2 * j : Nat) : Int) + 1) = ((k + 2 * j + 1 : Nat) : Int) := e_succ (k + 2 * j) (k + 2 * xs.length) (by omega) (by omega)
      have hw1 : IntKind.i64.wrap (((k + 2 * j + 1 : Nat) : Int) + 1) = ((k + 2 * j + 2 : Nat) : Int) := e_succ (k + 2 * j + 1) (k + 2 * xs.length) (by omega) (by omega)
      have hwf : IntKind.i64.wrap (IntKind.i64.wrap (((k + 2 * j : Nat) : Int) + 1) + 1) = ((k + 2 * (j + 1) : Nat) : Int) := by rw [hw0, hw1]; congr 1
      refine stop_idxW encWaiter 0 tabOk rfl rfl rfl rfl rfl ⟨rfl, rfl⟩ rfl (by first | rfl | (simp; done)) j rfl hl2 (fun g0 hg0 => ?_)
      refine stop_fldW tabOk rfl rfl rfl rfl ⟨rfl, rfl⟩ ?_
      refine stop_storeW encWaiter 0 tabOk rfl rfl rfl rfl rfl rfl rfl rfl hg0 j 0 (⟨((k + 2 * j : Nat) : Int), Q[j].n⟩ : Waiter) rfl hl2 rfl [.int .i64 ((k + 2 * j : Nat) : Int)] (fun _ => rfl) (by simp [cWaiter]) ?_
      refine stop_idxW encWaiter 0 tabOk rfl rfl rfl rfl rfl ⟨rfl, rfl⟩ rfl (by first | rfl | (simp; done)) j rfl (by simpa using hl2) (fun g1 hg1 => ?_)
      refine stop_fldW tabOk rfl rfl rfl rfl ⟨rfl, rfl⟩ ?_
      refine stop_storeW encWaiter 0 tabOk rfl rfl rfl rfl rfl rfl rfl rfl hg1 j 1 (⟨((k + 2 * j : Nat) : Int), ((k + 2 * j + 1 : Nat) : Int)⟩ : Waiter) rfl (by simpa using hl2) rfl [.int .i64 ((k + 2 * j + 1 : Nat) : Int)] (fun _ => by simp only [List.map_cons, List.map_nil, SV.den, hw0]) (by simp [cWaiter]) ?_
      have hT2 : ((Q.set j (⟨((k + 2 * j : Nat) : Int), Q[j].n⟩ : Waiter)).set j (⟨((k + 2 * j : Nat) : Int), ((k + 2 * j + 1 : Nat) : Int)⟩ : Waiter)) = marksWaiter k (j + 1) ++ xs.drop (j + 1) := by simp only [List.set_set]; exact hT
      refine ⟨⟨j + 1, by omega⟩, ?_, by simp; omega⟩
      refine weak_mk [0] ?_ ?_ ?_ ?_ ?_ rfl rfl
      · repeat (first | exact trivial | refine ⟨⟨_, rfl, (by first | exact .of rfl | exact .lit rfl | exact .of (by first | ((first | (rw [hT2]; done) | (simp only; done) | exact congrArg (fun z => SV.v (Value.int .i64 z)) hw | exact congrArg (fun z => SV.v (Value.int .i64 z)) hwf | (rw [← hT2]; simp; done) | (simp only [← hT2, List.length_set]; done)))) | exact .lit (by first | ((first | (rw [hT2]; done) | (simp only [hT2]; done) | exact congrArg (fun z => SV.v (Value.int .i64 z)) hw | exact congrArg (fun z => SV.v (Value.int .i64 z)) hwf | (rw [← hT2]; simp; done) | (simp only [← hT2, List.length_set]; done))))), (by first | exact trivial | exact Nat.le_of_ble_eq_true rfl | exact small1 rfl)⟩, ?_⟩)
      · repeat (first | exact trivial | refine ⟨⟨(by first | exact .head _ | exact .tail _ (.head _) | exact .tail _ (.tail _ (.head _)) | exact .tail _ (.tail _ (.tail _ (.head _))) | exact .tail _ (.tail _ (.tail _ (.tail _ (.head _)))) | exact .tail _ (.tail _ (.tail _ (.tail _ (.tail _ (.head _))))) | exact .tail _ (.tail _ (.tail _ (.tail _ (.tail _ (.tail _ (.head _)))))) | exact .tail _ (.tail _ (.tail _ (.tail _ (.tail _ (.tail _ (.tail _ (.head _))))))) | exact .tail _ (.tail _ (.tail _ (.tail _ (.tail _ (.tail _ (.tail _ (.tail _ (.head _)))))))) | exact .tail _ (.tail _ (.tail _ (.tail _ (.tail _ (.tail _ (.tail _ (.tail _ (.tail _ (.head _)))))))))), Nat.le_of_ble_eq_true rfl⟩, ?_⟩)
      · repeat (first | exact trivial | refine ⟨⟨_, rfl, (by first | exact .of rfl | exact .lit rfl | exact .of (by first | ((first | (rw [hT2]; done) | (simp only [hT2]; done) | exact congrArg (fun z => SV.v (Value.int .i64 z)) hw | exact congrArg (fun z => SV.v (Value.int .i64 z)) hwf | (rw [← hT2]; simp; done) | (simp only [← hT2, List.length_set]; done)))) | exact .lit (by first | ((first | (rw [hT2]; done) | (simp only [hT2]; done) | exact congrArg (fun z => SV.v (Value.int .i64 z)) hw | exact congrArg (fun z => SV.v (Value.int .i64 z)) hwf | (rw [← hT2]; simp; done) | (simp only [← hT2, List.length_set]; done))))), (by first | exact trivial | exact Nat.le_of_ble_eq_true rfl | exact small1 rfl)⟩, ?_⟩)
      · repeat (first | exact trivial | refine ⟨⟨_, rfl⟩, ?_⟩)
      · repeat (first | exact trivial | refine ⟨.inl ⟨_, rfl, (by first | rfl | ((first | (rw [hT2]; done) | (simp only [hT2]; done) | exact congrArg (fun z => SV.v (Value.int .i64 z)) hw | exact congrArg (fun z => SV.v (Value.int .i64 z)) hwf | (rw [← hT2]; simp; done) | (simp only [← hT2, List.length_set]; done))))⟩, ?_⟩ | refine ⟨.inr ⟨Nat.le_of_ble_eq_true rfl, rfl, rfl, rfl, rfl⟩, ?_⟩)
    · have hge : xs.length ≤ j := by simp only [hl] at h; simpa using h
      have hje : j = xs.length := by omega
      have hT : marksWaiter k j ++ xs.drop j = marksWaiter k xs.length := by rw [hje]; simp
      exact retG [0] ⟨rfl, rfl⟩ ⟨.inl ⟨_, rfl, (by first | rfl | ((first | (simp only [hT]; done) | simp only [resV, SV.den, hje])))⟩, trivial⟩ rfl ⟨rfl, trivial⟩ (fun _ => (by first | rfl | ((first | (simp only; done) | simp only [resV, SV.den, hje]))))

end Go.Proofs.YtklclbcckjhdpaaGreat

namespace Go.Proofs.YtklclbcckjhdpaaGreat

open Go Go.Sx Go.RowKit

/-- n marks, from k on. -/
def markLetter (k : Nat) : Letter := ⟨((k : Nat) : Int), ((k + 1 : Nat) : Int)⟩

def marksLetter (k : Nat) : Nat → List Letter
  | 0 => []
  | n + 1 => markLetter k :: marksLetter (k + 2) n

theorem marksLetter_len (k n : Nat) : (marksLetter k n).length = n := by
  induction n generalizing k with
  | zero => rfl
  | succ n ih => simp [marksLetter, ih]

theorem marksLetter_get (k n j : Nat) (hj : j < n) : (marksLetter k n)[j]? = some (markLetter (k + 2 * j)) := by
  induction n generalizing k j with
  | zero => omega
  | succ n ih =>
    cases j with
    | zero => simp [marksLetter]
    | succ j => simp only [marksLetter, List.getElem?_cons_succ]; rw [ih (k + 2) j (by omega)]; congr 2; omega

theorem marksLetter_set (xs : List Letter) (k j : Nat) (hj : j < xs.length) : (marksLetter k j ++ xs.drop j).set j (markLetter (k + 2 * j)) = marksLetter k (j + 1) ++ xs.drop (j + 1) := by
  have h1 : marksLetter k (j + 1) = marksLetter k j ++ [markLetter (k + 2 * j)] := by
    apply List.ext_getElem?
    intro q
    rcases Nat.lt_or_ge q j with hq | hq
    · rw [List.getElem?_append_left (by rw [marksLetter_len]; exact hq), marksLetter_get _ _ _ hq, marksLetter_get _ _ _ (by omega)]
    · rcases Nat.eq_or_lt_of_le hq with rfl | hq
      · rw [marksLetter_get _ _ _ (by omega), List.getElem?_append_right (by rw [marksLetter_len]; exact Nat.le_refl _), marksLetter_len]; simp
      · rw [List.getElem?_eq_none (by rw [marksLetter_len]; omega), List.getElem?_eq_none (by simp [marksLetter_len]; omega)]
  rw [List.set_append_right _ _ (by rw [marksLetter_len]; exact Nat.le_refl _), marksLetter_len, Nat.sub_self, List.drop_eq_getElem_cons hj, h1, List.append_assoc]
  rfl

set_option maxHeartbeats 4000000 in
set_option maxRecDepth 100000 in
theorem markLetterS_c (i : Sl) (xs : List Letter) (k : Nat) (w : World) (h : AtG w [own i 196 cLet 2 xs] []) (hb : xs.length ≤ 1048576) (hk : k ≤ 1152921504606846976) :
    Calls Tryz.prog 154 #[i.val xs.length, .int .i64 (k : Int)] w (RetG w [own i 196 cLet 2 xs] fun v L => v = .int .i64 ((k + 2 * xs.length : Nat) : Int) ∧ L = [own i 196 cLet 2 (marksLetter k xs.length)]) := by
  refine callsG_fn Tryz.func154 rfl tabOk w _ rfl _ rfl _ _ h trivial _ _ rfl rfl ?_
  refine LoopW.mk ⟨{ j : Nat // j ≤ xs.length },
    fun j => .mk [(0, .v (i.val (marksLetter k j.1 ++ xs.drop j.1).length)), (1, .v (.int .i64 ((k + 2 * j.1 : Nat) : Int))), (5, .v (.int .i64 (j.1 : Int)))] 0 0 [] [] [own i 196 cLet 2 (marksLetter k j.1 ++ xs.drop j.1)],
    fun j => xs.length - j.1, ⟨0, Nat.zero_le _⟩, ?_, ?_⟩
  · refine weak_mk [0] ?_ ?_ ?_ ?_ ?_ rfl rfl
    · repeat (first | exact trivial | refine ⟨⟨_, rfl, (by first | exact .of rfl | exact .lit rfl | exact .of (by first | ((simp [marksLetter]))) | exact .lit (by first | ((simp [marksLetter])))), (by first | exact trivial | exact Nat.le_of_ble_eq_true rfl | exact small1 rfl)⟩, ?_⟩)
    · repeat (first | exact trivial | refine ⟨⟨(by first | exact .head _ | exact .tail _ (.head _) | exact .tail _ (.tail _ (.head _)) | exact .tail _ (.tail _ (.tail _ (.head _))) | exact .tail _ (.tail _ (.tail _ (.tail _ (.head _)))) | exact .tail _ (.tail _ (.tail _ (.tail _ (.tail _ (.head _))))) | exact .tail _ (.tail _ (.tail _ (.tail _ (.tail _ (.tail _ (.head _)))))) | exact .tail _ (.tail _ (.tail _ (.tail _ (.tail _ (.tail _ (.tail _ (.head _))))))) | exact .tail _ (.tail _ (.tail _ (.tail _ (.tail _ (.tail _ (.tail _ (.tail _ (.head _)))))))) | exact .tail _ (.tail _ (.tail _ (.tail _ (.tail _ (.tail _ (.tail _ (.tail _ (.tail _ (.head _)))))))))), Nat.le_of_ble_eq_true rfl⟩, ?_⟩)
    · repeat (first | exact trivial | refine ⟨⟨_, rfl, (by first | exact .of rfl | exact .lit rfl | exact .of (by first | ((simp [marksLetter]))) | exact .lit (by first | ((simp [marksLetter])))), (by first | exact trivial | exact Nat.le_of_ble_eq_true rfl | exact small1 rfl)⟩, ?_⟩)
    · repeat (first | exact trivial | refine ⟨⟨_, rfl⟩, ?_⟩)
    · repeat (first | exact trivial | refine ⟨.inl ⟨_, rfl, (by first | rfl | ((simp [marksLetter])))⟩, ?_⟩ | refine ⟨.inr ⟨Nat.le_of_ble_eq_true rfl, rfl, rfl, rfl, rfl⟩, ?_⟩)
  · rintro ⟨j, hj⟩
    have hl : (marksLetter k j ++ xs.drop j).length = xs.length := by rw [List.length_append, marksLetter_len, List.length_drop]; omega
    refine CaseB.mk (fun h => ?_) (fun h => ?_)
    · have hlt : j < xs.length := by simp only [hl] at h; simpa using h
      have hT := marksLetter_set xs k j hlt
      have hw := e_succ j _ hlt (by omega)
      have hl2 := Nat.lt_of_lt_of_eq hlt hl.symm
      generalize hq : (marksLetter k j ++ xs.drop j) = Q at hl hT hl2
      have hw0 : IntKind.i64.wrap (((k + 2 * j : Nat) : Int) + 1) = ((k + 2 * j + 1 : Nat) : Int) := e_succ (k + 2 * j) (k + 2 * xs.length) (by omega) (by omega)
      have hw1 : IntKind.i64.wrap (((k + 2 * j + 1 : Nat) : Int) + 1) = ((k + 2 * j + 2 : Nat) : Int) := e_succ (k + 2 * j + 1) (k + 2 * xs.length) (by omega) (by omega)
      have hwf : IntKind.i64.wrap (IntKind.i64.wrap (((k + 2 * j : Nat) : Int) + 1) + 1) = ((k + 2 * (j + 1) : Nat) : Int) := by rw [hw0, hw1]; congr 1
      refine stop_idxW encLetter 0 tabOk rfl rfl rfl rfl rfl ⟨rfl, rfl⟩ rfl (by first | rfl | (simp; done)) j rfl hl2 (fun g0 hg0 => ?_)
      refine stop_fldW tabOk rfl rfl rfl rfl ⟨rfl, rfl⟩ ?_
      refine stop_storeW encLetter 0 tabOk rfl rfl rfl rfl rfl rfl rfl rfl hg0 j 0 (⟨((k + 2 * j : Nat) : Int), Q[j].v⟩ : Letter) rfl hl2 rfl [.int .i64 ((k + 2 * j : Nat) : Int)] (fun _ => rfl) (by simp [cLet]) ?_
      refine stop_idxW encLetter 0 tabOk rfl rfl rfl rfl rfl ⟨rfl, rfl⟩ rfl (by first | rfl | (simp; done)) j rfl (by simpa using hl2) (fun g1 hg1 => ?_)
      refine stop_fldW tabOk rfl rfl rfl rfl ⟨rfl, rfl⟩ ?_
      refine stop_storeW encLetter 0 tabOk rfl rfl rfl rfl rfl rfl rfl rfl hg1 j 1 (⟨((k + 2 * j : Nat) : Int), ((k + 2 * j + 1 : Nat) : Int)⟩ : Letter) rfl (by simpa using hl2) rfl [.int .i64 ((k + 2 * j + 1 : Nat) : Int)] (fun _ => by simp only [List.map_cons, List.map_nil, SV.den, hw0]) (by simp [cLet]) ?_
      have hT2 : ((Q.set j (⟨((k + 2 * j : Nat) : Int), Q[j].v⟩ : Letter)).set j (⟨((k + 2 * j : Nat) : Int), ((k + 2 * j + 1 : Nat) : Int)⟩ : Letter)) = marksLetter k (j + 1) ++ xs.drop (j + 1) := by simp only [List.set_set]; exact hT
      refine ⟨⟨j + 1, by omega⟩, ?_, by simp; omega⟩
      refine weak_mk [0] ?_ ?_ ?_ ?_ ?_ rfl rfl
      · repeat (first | exact trivial | refine ⟨⟨_, rfl, (by first | exact .of rfl | exact .lit rfl | exact .of (by first | ((first | (rw [hT2]; done) | (simp only; done) | exact congrArg (fun z => SV.v (Value.int .i64 z)) hw | exact congrArg (fun z => SV.v (Value.int .i64 z)) hwf | (rw [← hT2]; simp; done) | (simp only [← hT2, List.length_set]; done)))) | exact .lit (by first | ((first | (rw [hT2]; done) | (simp only [hT2]; done) | exact congrArg (fun z => SV.v (Value.int .i64 z)) hw | exact congrArg (fun z => SV.v (Value.int .i64 z)) hwf | (rw [← hT2]; simp; done) | (simp only [← hT2, List.length_set]; done))))), (by first | exact trivial | exact Nat.le_of_ble_eq_true rfl | exact small1 rfl)⟩, ?_⟩)
      · repeat (first | exact trivial | refine ⟨⟨(by first | exact .head _ | exact .tail _ (.head _) | exact .tail _ (.tail _ (.head _)) | exact .tail _ (.tail _ (.tail _ (.head _))) | exact .tail _ (.tail _ (.tail _ (.tail _ (.head _)))) | exact .tail _ (.tail _ (.tail _ (.tail _ (.tail _ (.head _))))) | exact .tail _ (.tail _ (.tail _ (.tail _ (.tail _ (.tail _ (.head _)))))) | exact .tail _ (.tail _ (.tail _ (.tail _ (.tail _ (.tail _ (.tail _ (.head _))))))) | exact .tail _ (.tail _ (.tail _ (.tail _ (.tail _ (.tail _ (.tail _ (.tail _ (.head _)))))))) | exact .tail _ (.tail _ (.tail _ (.tail _ (.tail _ (.tail _ (.tail _ (.tail _ (.tail _ (.head _)))))))))), Nat.le_of_ble_eq_true rfl⟩, ?_⟩)
      · repeat (first | exact trivial | refine ⟨⟨_, rfl, (by first | exact .of rfl | exact .lit rfl | exact .of (by first | ((first | (rw [hT2]; done) | (simp only [hT2]; done) | exact congrArg (fun z => SV.v (Value.int .i64 z)) hw | exact congrArg (fun z => SV.v (Value.int .i64 z)) hwf | (rw [← hT2]; simp; done) | (simp only [← hT2, List.length_set]; done)))) | exact .lit (by first | ((first | (rw [hT2]; done) | (simp only [hT2]; done) | exact congrArg (fun z => SV.v (Value.int .i64 z)) hw | exact congrArg (fun z => SV.v (Value.int .i64 z)) hwf | (rw [← hT2]; simp; done) | (simp only [← hT2, List.length_set]; done))))), (by first | exact trivial | exact Nat.le_of_ble_eq_true rfl | exact small1 rfl)⟩, ?_⟩)
      · repeat (first | exact trivial | refine ⟨⟨_, rfl⟩, ?_⟩)
      · repeat (first | exact trivial | refine ⟨.inl ⟨_, rfl, (by first | rfl | ((first | (rw [hT2]; done) | (simp only [hT2]; done) | exact congrArg (fun z => SV.v (Value.int .i64 z)) hw | exact congrArg (fun z => SV.v (Value.int .i64 z)) hwf | (rw [← hT2]; simp; done) | (simp only [← hT2, List.length_set]; done))))⟩, ?_⟩ | refine ⟨.inr ⟨Nat.le_of_ble_eq_true rfl, rfl, rfl, rfl, rfl⟩, ?_⟩)
    · have hge : xs.length ≤ j := by simp only [hl] at h; simpa using h
      have hje : j = xs.length := by omega
      have hT : marksLetter k j ++ xs.drop j = marksLetter k xs.length := by rw [hje]; simp
      exact retG [0] ⟨rfl, rfl⟩ ⟨.inl ⟨_, rfl, (by first | rfl | ((first | (simp only [hT]; done) | simp only [resV, SV.den, hje])))⟩, trivial⟩ rfl ⟨rfl, trivial⟩ (fun _ => (by first | rfl | ((first | (simp only; done) | simp only [resV, SV.den, hje]))))

end Go.Proofs.YtklclbcckjhdpaaGreat

namespace Go.Proofs.YtklclbcckjhdpaaGreat

open Go Go.Sx Go.RowKit

/-- n marks, from k on. -/
def markOp (k : Nat) : Op := ⟨((k : Nat) : Int), ((k + 1 : Nat) : Int), ((k + 2 : Nat) : Int)⟩

def marksOp (k : Nat) : Nat → List Op
  | 0 => []
  | n + 1 => markOp k :: marksOp (k + 3) n

theorem marksOp_len (k n : Nat) : (marksOp k n).length = n := by
  induction n generalizing k with
  | zero => rfl
  | succ n ih => simp [marksOp, ih]

theorem marksOp_get (k n j : Nat) (hj : j < n) : (marksOp k n)[j]? = some (markOp (k + 3 * j)) := by
  induction n generalizing k j with
  | zero => omega
  | succ n ih =>
    cases j with
    | zero => simp [marksOp]
    | succ j => simp only [marksOp, List.getElem?_cons_succ]; rw [ih (k + 3) j (by omega)]; congr 2; omega

theorem marksOp_set (xs : List Op) (k j : Nat) (hj : j < xs.length) : (marksOp k j ++ xs.drop j).set j (markOp (k + 3 * j)) = marksOp k (j + 1) ++ xs.drop (j + 1) := by
  have h1 : marksOp k (j + 1) = marksOp k j ++ [markOp (k + 3 * j)] := by
    apply List.ext_getElem?
    intro q
    rcases Nat.lt_or_ge q j with hq | hq
    · rw [List.getElem?_append_left (by rw [marksOp_len]; exact hq), marksOp_get _ _ _ hq, marksOp_get _ _ _ (by omega)]
    · rcases Nat.eq_or_lt_of_le hq with rfl | hq
      · rw [marksOp_get _ _ _ (by omega), List.getElem?_append_right (by rw [marksOp_len]; exact Nat.le_refl _), marksOp_len]; simp
      · rw [List.getElem?_eq_none (by rw [marksOp_len]; omega), List.getElem?_eq_none (by simp [marksOp_len]; omega)]
  rw [List.set_append_right _ _ (by rw [marksOp_len]; exact Nat.le_refl _), marksOp_len, Nat.sub_self, List.drop_eq_getElem_cons hj, h1, List.append_assoc]
  rfl

set_option maxHeartbeats 4000000 in
set_option maxRecDepth 100000 in
theorem markOpS_c (i : Sl) (xs : List Op) (k : Nat) (w : World) (h : AtG w [own i 57 cOp 3 xs] []) (hb : xs.length ≤ 1048576) (hk : k ≤ 1152921504606846976) :
    Calls Tryz.prog 152 #[i.val xs.length, .int .i64 (k : Int)] w (RetG w [own i 57 cOp 3 xs] fun v L => v = .int .i64 ((k + 3 * xs.length : Nat) : Int) ∧ L = [own i 57 cOp 3 (marksOp k xs.length)]) := by
  refine callsG_fn Tryz.func152 rfl tabOk w _ rfl _ rfl _ _ h trivial _ _ rfl rfl ?_
  refine LoopW.mk ⟨{ j : Nat // j ≤ xs.length },
    fun j => .mk [(0, .v (i.val (marksOp k j.1 ++ xs.drop j.1).length)), (1, .v (.int .i64 ((k + 3 * j.1 : Nat) : Int))), (5, .v (.int .i64 (j.1 : Int)))] 0 0 [] [] [own i 57 cOp 3 (marksOp k j.1 ++ xs.drop j.1)],
    fun j => xs.length - j.1, ⟨0, Nat.zero_le _⟩, ?_, ?_⟩
  · refine weak_mk [0] ?_ ?_ ?_ ?_ ?_ rfl rfl
    · repeat (first | exact trivial | refine ⟨⟨_, rfl, (by first | exact .of rfl | exact .lit rfl | exact .of (by first | ((simp [marksOp]))) | exact .lit (by first | ((simp [marksOp])))), (by first | exact trivial | exact Nat.le_of_ble_eq_true rfl | exact small1 rfl)⟩, ?_⟩)
    · repeat (first | exact trivial | refine ⟨⟨(by first | exact .head _ | exact .tail _ (.head _) | exact .tail _ (.tail _ (.head _)) | exact .tail _ (.tail _ (.tail _ (.head _))) | exact .tail _ (.tail _ (.tail _ (.tail _ (.head _)))) | exact .tail _ (.tail _ (.tail _ (.tail _ (.tail _ (.head _))))) | exact .tail _ (.tail _ (.tail _ (.tail _ (.tail _ (.tail _ (.head _)))))) | exact .tail _ (.tail _ (.tail _ (.tail _ (.tail _ (.tail _ (.tail _ (.head _))))))) | exact .tail _ (.tail _ (.tail _ (.tail _ (.tail _ (.tail _ (.tail _ (.tail _ (.head _)))))))) | exact .tail _ (.tail _ (.tail _ (.tail _ (.tail _ (.tail _ (.tail _ (.tail _ (.tail _ (.head _)))))))))), Nat.le_of_ble_eq_true rfl⟩, ?_⟩)
    · repeat (first | exact trivial | refine ⟨⟨_, rfl, (by first | exact .of rfl | exact .lit rfl | exact .of (by first | ((simp [marksOp]))) | exact .lit (by first | ((simp [marksOp])))), (by first | exact trivial | exact Nat.le_of_ble_eq_true rfl | exact small1 rfl)⟩, ?_⟩)
    · repeat (first | exact trivial | refine ⟨⟨_, rfl⟩, ?_⟩)
    · repeat (first | exact trivial | refine ⟨.inl ⟨_, rfl, (by first | rfl | ((simp [marksOp])))⟩, ?_⟩ | refine ⟨.inr ⟨Nat.le_of_ble_eq_true rfl, rfl, rfl, rfl, rfl⟩, ?_⟩)
  · rintro ⟨j, hj⟩
    have hl : (marksOp k j ++ xs.drop j).length = xs.length := by rw [List.length_append, marksOp_len, List.length_drop]; omega
    refine CaseB.mk (fun h => ?_) (fun h => ?_)
    · have hlt : j < xs.length := by simp only [hl] at h; simpa using h
      have hT := marksOp_set xs k j hlt
      have hw := e_succ j _ hlt (by omega)
      have hl2 := Nat.lt_of_lt_of_eq hlt hl.symm
      generalize hq : (marksOp k j ++ xs.drop j) = Q at hl hT hl2
      have hw0 : IntKind.i64.wrap (((k + 3 * j : Nat) : Int) + 1) = ((k + 3 * j + 1 : Nat) : Int) := e_succ (k + 3 * j) (k + 3 * xs.length) (by omega) (by omega)
      have hw1 : IntKind.i64.wrap (((k + 3 * j + 1 : Nat) : Int) + 1) = ((k + 3 * j + 2 : Nat) : Int) := e_succ (k + 3 * j + 1) (k + 3 * xs.length) (by omega) (by omega)
      have hw2 : IntKind.i64.wrap (((k + 3 * j + 2 : Nat) : Int) + 1) = ((k + 3 * j + 3 : Nat) : Int) := e_succ (k + 3 * j + 2) (k + 3 * xs.length) (by omega) (by omega)
      have hwf : IntKind.i64.wrap (IntKind.i64.wrap (IntKind.i64.wrap (((k + 3 * j : Nat) : Int) + 1) + 1) + 1) = ((k + 3 * (j + 1) : Nat) : Int) := by rw [hw0, hw1, hw2]; congr 1
      refine stop_idxW encOp 0 tabOk rfl rfl rfl rfl rfl ⟨rfl, rfl⟩ rfl (by first | rfl | (simp; done)) j rfl hl2 (fun g0 hg0 => ?_)
      refine stop_fldW tabOk rfl rfl rfl rfl ⟨rfl, rfl⟩ ?_
      refine stop_storeW encOp 0 tabOk rfl rfl rfl rfl rfl rfl rfl rfl hg0 j 0 (⟨((k + 3 * j : Nat) : Int), Q[j].on, Q[j].arg⟩ : Op) rfl hl2 rfl [.int .i64 ((k + 3 * j : Nat) : Int)] (fun _ => rfl) (by simp [cOp]) ?_
      refine stop_idxW encOp 0 tabOk rfl rfl rfl rfl rfl ⟨rfl, rfl⟩ rfl (by first | rfl | (simp; done)) j rfl (by simpa using hl2) (fun g1 hg1 => ?_)
      refine stop_fldW tabOk rfl rfl rfl rfl ⟨rfl, rfl⟩ ?_
      refine stop_storeW encOp 0 tabOk rfl rfl rfl rfl rfl rfl rfl rfl hg1 j 1 (⟨((k + 3 * j : Nat) : Int), ((k + 3 * j + 1 : Nat) : Int), Q[j].arg⟩ : Op) rfl (by simpa using hl2) rfl [.int .i64 ((k + 3 * j + 1 : Nat) : Int)] (fun _ => by simp only [List.map_cons, List.map_nil, SV.den, hw0]) (by simp [cOp]) ?_
      refine stop_idxW encOp 0 tabOk rfl rfl rfl rfl rfl ⟨rfl, rfl⟩ rfl (by first | rfl | (simp; done)) j rfl (by simpa using hl2) (fun g2 hg2 => ?_)
      refine stop_fldW tabOk rfl rfl rfl rfl ⟨rfl, rfl⟩ ?_
      refine stop_storeW encOp 0 tabOk rfl rfl rfl rfl rfl rfl rfl rfl hg2 j 2 (⟨((k + 3 * j : Nat) : Int), ((k + 3 * j + 1 : Nat) : Int), ((k + 3 * j + 2 : Nat) : Int)⟩ : Op) rfl (by simpa using hl2) rfl [.int .i64 ((k + 3 * j + 2 : Nat) : Int)] (fun _ => by simp only [List.map_cons, List.map_nil, SV.den, hw0, hw1]) (by simp [cOp]) ?_
      have hT2 : (((Q.set j (⟨((k + 3 * j : Nat) : Int), Q[j].on, Q[j].arg⟩ : Op)).set j (⟨((k + 3 * j : Nat) : Int), ((k + 3 * j + 1 : Nat) : Int), Q[j].arg⟩ : Op)).set j (⟨((k + 3 * j : Nat) : Int), ((k + 3 * j + 1 : Nat) : Int), ((k + 3 * j + 2 : Nat) : Int)⟩ : Op)) = marksOp k (j + 1) ++ xs.drop (j + 1) := by simp only [List.set_set]; exact hT
      refine ⟨⟨j + 1, by omega⟩, ?_, by simp; omega⟩
      refine weak_mk [0] ?_ ?_ ?_ ?_ ?_ rfl rfl
      · repeat (first | exact trivial | refine ⟨⟨_, rfl, (by first | exact .of rfl | exact .lit rfl | exact .of (by first | ((first | (rw [hT2]; done) | (simp only; done) | exact congrArg (fun z => SV.v (Value.int .i64 z)) hw | exact congrArg (fun z => SV.v (Value.int .i64 z)) hwf | (rw [← hT2]; simp; done) | (simp only [← hT2, List.length_set]; done)))) | exact .lit (by first | ((first | (rw [hT2]; done) | (simp only [hT2]; done) | exact congrArg (fun z => SV.v (Value.int .i64 z)) hw | exact congrArg (fun z => SV.v (Value.int .i64 z)) hwf | (rw [← hT2]; simp; done) | (simp only [← hT2, List.length_set]; done))))), (by first | exact trivial | exact Nat.le_of_ble_eq_true rfl | exact small1 rfl)⟩, ?_⟩)
      · repeat (first | exact trivial | refine ⟨⟨(by first | exact .head _ | exact .tail _ (.head _) | exact .tail _ (.tail _ (.head _)) | exact .tail _ (.tail _ (.tail _ (.head _))) | exact .tail _ (.tail _ (.tail _ (.tail _ (.head _)))) | exact .tail _ (.tail _ (.tail _ (.tail _ (.tail _ (.head _))))) | exact .tail _ (.tail _ (.tail _ (.tail _ (.tail _ (.tail _ (.head _)))))) | exact .tail _ (.tail _ (.tail _ (.tail _ (.tail _ (.tail _ (.tail _ (.head _))))))) | exact .tail _ (.tail _ (.tail _ (.tail _ (.tail _ (.tail _ (.tail _ (.tail _ (.head _)))))))) | exact .tail _ (.tail _ (.tail _ (.tail _ (.tail _ (.tail _ (.tail _ (.tail _ (.tail _ (.head _)))))))))), Nat.le_of_ble_eq_true rfl⟩, ?_⟩)
      · repeat (first | exact trivial | refine ⟨⟨_, rfl, (by first | exact .of rfl | exact .lit rfl | exact .of (by first | ((first | (rw [hT2]; done) | (simp only [hT2]; done) | exact congrArg (fun z => SV.v (Value.int .i64 z)) hw | exact congrArg (fun z => SV.v (Value.int .i64 z)) hwf | (rw [← hT2]; simp; done) | (simp only [← hT2, List.length_set]; done)))) | exact .lit (by first | ((first | (rw [hT2]; done) | (simp only [hT2]; done) | exact congrArg (fun z => SV.v (Value.int .i64 z)) hw | exact congrArg (fun z => SV.v (Value.int .i64 z)) hwf | (rw [← hT2]; simp; done) | (simp only [← hT2, List.length_set]; done))))), (by first | exact trivial | exact Nat.le_of_ble_eq_true rfl | exact small1 rfl)⟩, ?_⟩)
      · repeat (first | exact trivial | refine ⟨⟨_, rfl⟩, ?_⟩)
      · repeat (first | exact trivial | refine ⟨.inl ⟨_, rfl, (by first | rfl | ((first | (rw [hT2]; done) | (simp only [hT2]; done) | exact congrArg (fun z => SV.v (Value.int .i64 z)) hw | exact congrArg (fun z => SV.v (Value.int .i64 z)) hwf | (rw [← hT2]; simp; done) | (simp only [← hT2, List.length_set]; done))))⟩, ?_⟩ | refine ⟨.inr ⟨Nat.le_of_ble_eq_true rfl, rfl, rfl, rfl, rfl⟩, ?_⟩)
    · have hge : xs.length ≤ j := by simp only [hl] at h; simpa using h
      have hje : j = xs.length := by omega
      have hT : marksOp k j ++ xs.drop j = marksOp k xs.length := by rw [hje]; simp
      exact retG [0] ⟨rfl, rfl⟩ ⟨.inl ⟨_, rfl, (by first | rfl | ((first | (simp only [hT]; done) | simp only [resV, SV.den, hje])))⟩, trivial⟩ rfl ⟨rfl, trivial⟩ (fun _ => (by first | rfl | ((first | (simp only; done) | simp only [resV, SV.den, hje]))))

end Go.Proofs.YtklclbcckjhdpaaGreat

namespace Go.Proofs.YtklclbcckjhdpaaGreat

open Go Go.Sx Go.RowKit

def evReady (i : Nat) (x : Int) : List Int := if x = 0 ∨ x = 2 then [(i : Int)] else []

/-- The threads that can make a step. -/
def readyM (s : State) : List Int := if s.fault = 0 then evL evReady 0 s.status else []

theorem readyL_len (xs : List Int) : (evL evReady 0 xs).length ≤ xs.length := by
  have := evL_len (f := evReady) (C := 1) (i := 0) (xs := xs) fun i x _ => by unfold evReady; split <;> simp
  omega

set_option maxHeartbeats 4000000 in
set_option maxRecDepth 100000 in
theorem ready_c (s : StateH) (w : World) (h : At w [fR (stateO s)]) (hb : s.status.length ≤ 1048576) :
    Calls Tryz.prog 61 #[stateV s] w (Ret w fun v L => ∃ y : Sl, v = y.val (readyM s.pure).length ∧ L = [own y 3 cInt 1 (readyM s.pure)]) := by
  refine calls1 Tryz.func61 rfl tabOk w _ rfl _ rfl _ h ⟨rfl, rfl, trivial⟩ _ (by decide) ?_
  refine CaseB.mk (fun g => ?_) (fun g => ?_)
  · have n : ¬ s.fault = 0 := by simpa using g
    have e : readyM s.pure = [] := if_neg n
    rw [e]
    exact retw [90] ⟨⟨none, 0⟩, rfl, rfl⟩ ⟨.inr ⟨Nat.le_of_ble_eq_true rfl, rfl, rfl, rfl, rfl⟩, trivial⟩ rfl ⟨rfl, trivial⟩ (fun _ => rfl)
  have f0 : s.fault = 0 := by simpa using g
  have e : readyM s.pure = evL evReady 0 s.status := if_pos f0
  rw [e]
  refine LoopW.mk ⟨{ q : Nat × Sl × List Int // q.1 ≤ s.status.length ∧ q.2.2 = evL evReady 0 (s.status.take q.1) },
    fun q => .mk [(1, .p 0 0), (3, .v (q.1.2.1.val q.1.2.2.length)), (10, .v (s.h1.val s.status.length)), (11, .v (.int .i64 (s.status.length : Int))), (12, .v (.int .i64 (q.1.1 : Int)))] 1 0 [(0, 41, 9)] [((0, 0), .v (s.h0.val s.places.length))] [own q.1.2.1 3 cInt 1 q.1.2.2, fR (stateO s)],
    fun q => s.status.length - q.1.1, ⟨(0, ⟨none, 0⟩, []), Nat.zero_le _, rfl⟩, ?_, ?_⟩
  · refine weak_mk [90, 0] ?_ ?_ ?_ ?_ ?_ rfl rfl
    · repeat (first | exact trivial | refine ⟨⟨_, rfl, (by first | exact .of rfl | exact .lit rfl | exact .of (by first | (rfl)) | exact .lit (by first | (rfl))), (by first | exact trivial | exact Nat.le_of_ble_eq_true rfl | exact small1 rfl)⟩, ?_⟩)
    · repeat (first | exact trivial | refine ⟨⟨(by first | exact .head _ | exact .tail _ (.head _) | exact .tail _ (.tail _ (.head _)) | exact .tail _ (.tail _ (.tail _ (.head _))) | exact .tail _ (.tail _ (.tail _ (.tail _ (.head _)))) | exact .tail _ (.tail _ (.tail _ (.tail _ (.tail _ (.head _))))) | exact .tail _ (.tail _ (.tail _ (.tail _ (.tail _ (.tail _ (.head _)))))) | exact .tail _ (.tail _ (.tail _ (.tail _ (.tail _ (.tail _ (.tail _ (.head _))))))) | exact .tail _ (.tail _ (.tail _ (.tail _ (.tail _ (.tail _ (.tail _ (.tail _ (.head _)))))))) | exact .tail _ (.tail _ (.tail _ (.tail _ (.tail _ (.tail _ (.tail _ (.tail _ (.tail _ (.head _)))))))))), Nat.le_of_ble_eq_true rfl⟩, ?_⟩)
    · repeat (first | exact trivial | refine ⟨⟨_, rfl, (by first | exact .of rfl | exact .lit rfl | exact .of (by first | (rfl)) | exact .lit (by first | (rfl))), (by first | exact trivial | exact Nat.le_of_ble_eq_true rfl | exact small1 rfl)⟩, ?_⟩)
    · repeat (first | exact trivial | refine ⟨⟨_, rfl⟩, ?_⟩)
    · repeat (first | exact trivial | refine ⟨.inl ⟨_, rfl, (by first | rfl | (rfl))⟩, ?_⟩ | refine ⟨.inr ⟨Nat.le_of_ble_eq_true rfl, rfl, rfl, rfl, rfl⟩, ?_⟩)
  rintro ⟨⟨k, y, xs⟩, hk, hx⟩
  simp only at hk hx
  refine CaseB.mk (fun g => ?_) (fun g => ?_)
  · have hlt : k < s.status.length := by simpa using g
    have hw := e_succ k _ hlt (by omega)
    have hsucc := evL_succ evReady s.status hlt
    have hl : xs.length ≤ 1048576 := by have := readyL_len (s.status.take k); rw [← hx] at this; simp at this; omega
    refine stop_idx encInt tabOk rfl rfl rfl rfl rfl ⟨rfl, rfl⟩ (rdVia 1 rfl (.ofR (stateO_status s))) k rfl (by first | omega | (simp; done) | (simp; omega) | (unfold maxLen; omega) | (unfold maxLen; simp; done) | (unfold maxLen; simp; omega)) (fun ad => ?_)
    refine CaseB.mk (fun g => ?_) (fun g0 => ?_)
    · have c : s.status[k] = 0 ∨ s.status[k] = 2 := .inl (by simpa using g)
      refine AllSl.mk fun b => ?_
      refine stop_app encInt 1 tabOk (ys := [(k : Int)]) rfl rfl rfl rfl rfl rfl rfl rfl rfl (by decide) ⟨rfl, rfl⟩ rfl (by first | exact rdAt 0 rfl | exact rdOwnAt 0 rfl | exact rdAt 1 rfl | exact rdOwnAt 1 rfl | exact rdAt 2 rfl | exact rdOwnAt 2 rfl | exact rdAt 3 rfl | exact rdOwnAt 3 rfl | exact rdAt 4 rfl | exact rdOwnAt 4 rfl | exact rdAt 5 rfl | exact rdOwnAt 5 rfl | exact rdAt 6 rfl | exact rdOwnAt 6 rfl | exact rdAt 7 rfl | exact rdOwnAt 7 rfl | exact rdAt 8 rfl | exact rdOwnAt 8 rfl | exact rdAt 9 rfl | exact rdOwnAt 9 rfl | exact rdAt 10 rfl | exact rdOwnAt 10 rfl | exact rdAt 11 rfl | exact rdOwnAt 11 rfl | exact rdAt 12 rfl | exact rdOwnAt 12 rfl | exact rdAt 13 rfl | exact rdOwnAt 13 rfl | exact rdAt 14 rfl | exact rdOwnAt 14 rfl | exact rdAt 15 rfl | exact rdOwnAt 15 rfl | exact rdAt 16 rfl | exact rdOwnAt 16 rfl | exact rdAt 17 rfl | exact rdOwnAt 17 rfl | exact rdAt 18 rfl | exact rdOwnAt 18 rfl | exact rdAt 19 rfl | exact rdOwnAt 19 rfl | exact rdAt 20 rfl | exact rdOwnAt 20 rfl | exact rdAt 21 rfl | exact rdOwnAt 21 rfl | exact rdAt 22 rfl | exact rdOwnAt 22 rfl | exact rdAt 23 rfl | exact rdOwnAt 23 rfl) (by first | omega | (simp; done) | (simp; omega) | (unfold maxLen; omega) | (unfold maxLen; simp; done) | (unfold maxLen; simp; omega)) (by first | omega | (simp; done) | (simp; omega) | (unfold maxLen; omega) | (unfold maxLen; simp; done) | (unfold maxLen; simp; omega)) (fun z => ?_)
      refine ⟨⟨(k + 1, z, xs ++ [(k : Int)]), by omega, by simp only [hsucc, evReady, if_pos c, hx]⟩, ?_, by simp only; omega⟩
      refine weak_mk [0, 2] ?_ ?_ ?_ ?_ ?_ rfl rfl
      · repeat (first | exact trivial | refine ⟨⟨_, rfl, (by first | exact .of rfl | exact .lit rfl | exact .of (by first | ((exact congrArg (fun z => SV.v (Value.int .i64 z)) hw))) | exact .lit (by first | ((exact congrArg (fun z => SV.v (Value.int .i64 z)) hw)))), (by first | exact trivial | exact Nat.le_of_ble_eq_true rfl | exact small1 rfl)⟩, ?_⟩)
      · repeat (first | exact trivial | refine ⟨⟨(by first | exact .head _ | exact .tail _ (.head _) | exact .tail _ (.tail _ (.head _)) | exact .tail _ (.tail _ (.tail _ (.head _))) | exact .tail _ (.tail _ (.tail _ (.tail _ (.head _)))) | exact .tail _ (.tail _ (.tail _ (.tail _ (.tail _ (.head _))))) | exact .tail _ (.tail _ (.tail _ (.tail _ (.tail _ (.tail _ (.head _)))))) | exact .tail _ (.tail _ (.tail _ (.tail _ (.tail _ (.tail _ (.tail _ (.head _))))))) | exact .tail _ (.tail _ (.tail _ (.tail _ (.tail _ (.tail _ (.tail _ (.tail _ (.head _)))))))) | exact .tail _ (.tail _ (.tail _ (.tail _ (.tail _ (.tail _ (.tail _ (.tail _ (.tail _ (.head _)))))))))), Nat.le_of_ble_eq_true rfl⟩, ?_⟩)
      · repeat (first | exact trivial | refine ⟨⟨_, rfl, (by first | exact .of rfl | exact .lit rfl | exact .of (by first | ((exact congrArg (fun z => SV.v (Value.int .i64 z)) hw))) | exact .lit (by first | ((exact congrArg (fun z => SV.v (Value.int .i64 z)) hw)))), (by first | exact trivial | exact Nat.le_of_ble_eq_true rfl | exact small1 rfl)⟩, ?_⟩)
      · repeat (first | exact trivial | refine ⟨⟨_, rfl⟩, ?_⟩)
      · repeat (first | exact trivial | refine ⟨.inl ⟨_, rfl, (by first | rfl | ((exact congrArg (fun z => SV.v (Value.int .i64 z)) hw)))⟩, ?_⟩ | refine ⟨.inr ⟨Nat.le_of_ble_eq_true rfl, rfl, rfl, rfl, rfl⟩, ?_⟩)
    have n0 : ¬ s.status[k] = 0 := by simpa using g0
    refine CaseB.mk (fun g => ?_) (fun g => ?_)
    · have c : s.status[k] = 0 ∨ s.status[k] = 2 := .inr (by simpa using g)
      refine AllSl.mk fun b => ?_
      refine stop_app encInt 1 tabOk (ys := [(k : Int)]) rfl rfl rfl rfl rfl rfl rfl rfl rfl (by decide) ⟨rfl, rfl⟩ rfl (by first | exact rdAt 0 rfl | exact rdOwnAt 0 rfl | exact rdAt 1 rfl | exact rdOwnAt 1 rfl | exact rdAt 2 rfl | exact rdOwnAt 2 rfl | exact rdAt 3 rfl | exact rdOwnAt 3 rfl | exact rdAt 4 rfl | exact rdOwnAt 4 rfl | exact rdAt 5 rfl | exact rdOwnAt 5 rfl | exact rdAt 6 rfl | exact rdOwnAt 6 rfl | exact rdAt 7 rfl | exact rdOwnAt 7 rfl | exact rdAt 8 rfl | exact rdOwnAt 8 rfl | exact rdAt 9 rfl | exact rdOwnAt 9 rfl | exact rdAt 10 rfl | exact rdOwnAt 10 rfl | exact rdAt 11 rfl | exact rdOwnAt 11 rfl | exact rdAt 12 rfl | exact rdOwnAt 12 rfl | exact rdAt 13 rfl | exact rdOwnAt 13 rfl | exact rdAt 14 rfl | exact rdOwnAt 14 rfl | exact rdAt 15 rfl | exact rdOwnAt 15 rfl | exact rdAt 16 rfl | exact rdOwnAt 16 rfl | exact rdAt 17 rfl | exact rdOwnAt 17 rfl | exact rdAt 18 rfl | exact rdOwnAt 18 rfl | exact rdAt 19 rfl | exact rdOwnAt 19 rfl | exact rdAt 20 rfl | exact rdOwnAt 20 rfl | exact rdAt 21 rfl | exact rdOwnAt 21 rfl | exact rdAt 22 rfl | exact rdOwnAt 22 rfl | exact rdAt 23 rfl | exact rdOwnAt 23 rfl) (by first | omega | (simp; done) | (simp; omega) | (unfold maxLen; omega) | (unfold maxLen; simp; done) | (unfold maxLen; simp; omega)) (by first | omega | (simp; done) | (simp; omega) | (unfold maxLen; omega) | (unfold maxLen; simp; done) | (unfold maxLen; simp; omega)) (fun z => ?_)
      refine ⟨⟨(k + 1, z, xs ++ [(k : Int)]), by omega, by simp only [hsucc, evReady, if_pos c, hx]⟩, ?_, by simp only; omega⟩
      refine weak_mk [0, 2] ?_ ?_ ?_ ?_ ?_ rfl rfl
      · repeat (first | exact trivial | refine ⟨⟨_, rfl, (by first | exact .of rfl | exact .lit rfl | exact .of (by first | ((exact congrArg (fun z => SV.v (Value.int .i64 z)) hw))) | exact .lit (by first | ((exact congrArg (fun z => SV.v (Value.int .i64 z)) hw)))), (by first | exact trivial | exact Nat.le_of_ble_eq_true rfl | exact small1 rfl)⟩, ?_⟩)
      · repeat (first | exact trivial | refine ⟨⟨(by first | exact .head _ | exact .tail _ (.head _) | exact .tail _ (.tail _ (.head _)) | exact .tail _ (.tail _ (.tail _ (.head _))) | exact .tail _ (.tail _ (.tail _ (.tail _ (.head _)))) | exact .tail _ (.tail _ (.tail _ (.tail _ (.tail _ (.head _))))) | exact .tail _ (.tail _ (.tail _ (.tail _ (.tail _ (.tail _ (.head _)))))) | exact .tail _ (.tail _ (.tail _ (.tail _ (.tail _ (.tail _ (.tail _ (.head _))))))) | exact .tail _ (.tail _ (.tail _ (.tail _ (.tail _ (.tail _ (.tail _ (.tail _ (.head _)))))))) | exact .tail _ (.tail _ (.tail _ (.tail _ (.tail _ (.tail _ (.tail _ (.tail _ (.tail _ (.head _)))))))))), Nat.le_of_ble_eq_true rfl⟩, ?_⟩)
      · repeat (first | exact trivial | refine ⟨⟨_, rfl, (by first | exact .of rfl | exact .lit rfl | exact .of (by first | ((exact congrArg (fun z => SV.v (Value.int .i64 z)) hw))) | exact .lit (by first | ((exact congrArg (fun z => SV.v (Value.int .i64 z)) hw)))), (by first | exact trivial | exact Nat.le_of_ble_eq_true rfl | exact small1 rfl)⟩, ?_⟩)
      · repeat (first | exact trivial | refine ⟨⟨_, rfl⟩, ?_⟩)
      · repeat (first | exact trivial | refine ⟨.inl ⟨_, rfl, (by first | rfl | ((exact congrArg (fun z => SV.v (Value.int .i64 z)) hw)))⟩, ?_⟩ | refine ⟨.inr ⟨Nat.le_of_ble_eq_true rfl, rfl, rfl, rfl, rfl⟩, ?_⟩)
    have n2 : ¬ s.status[k] = 2 := by simpa using g
    refine ⟨⟨(k + 1, y, xs), by omega, by simp only [hsucc, evReady, if_neg (show ¬ (s.status[k] = 0 ∨ s.status[k] = 2) from fun h => h.elim n0 n2), hx, List.append_nil]⟩, ?_, by simp only; omega⟩
    refine weak_mk [0, 1] ?_ ?_ ?_ ?_ ?_ rfl rfl
    · repeat (first | exact trivial | refine ⟨⟨_, rfl, (by first | exact .of rfl | exact .lit rfl | exact .of (by first | ((exact congrArg (fun z => SV.v (Value.int .i64 z)) hw))) | exact .lit (by first | ((exact congrArg (fun z => SV.v (Value.int .i64 z)) hw)))), (by first | exact trivial | exact Nat.le_of_ble_eq_true rfl | exact small1 rfl)⟩, ?_⟩)
    · repeat (first | exact trivial | refine ⟨⟨(by first | exact .head _ | exact .tail _ (.head _) | exact .tail _ (.tail _ (.head _)) | exact .tail _ (.tail _ (.tail _ (.head _))) | exact .tail _ (.tail _ (.tail _ (.tail _ (.head _)))) | exact .tail _ (.tail _ (.tail _ (.tail _ (.tail _ (.head _))))) | exact .tail _ (.tail _ (.tail _ (.tail _ (.tail _ (.tail _ (.head _)))))) | exact .tail _ (.tail _ (.tail _ (.tail _ (.tail _ (.tail _ (.tail _ (.head _))))))) | exact .tail _ (.tail _ (.tail _ (.tail _ (.tail _ (.tail _ (.tail _ (.tail _ (.head _)))))))) | exact .tail _ (.tail _ (.tail _ (.tail _ (.tail _ (.tail _ (.tail _ (.tail _ (.tail _ (.head _)))))))))), Nat.le_of_ble_eq_true rfl⟩, ?_⟩)
    · repeat (first | exact trivial | refine ⟨⟨_, rfl, (by first | exact .of rfl | exact .lit rfl | exact .of (by first | ((exact congrArg (fun z => SV.v (Value.int .i64 z)) hw))) | exact .lit (by first | ((exact congrArg (fun z => SV.v (Value.int .i64 z)) hw)))), (by first | exact trivial | exact Nat.le_of_ble_eq_true rfl | exact small1 rfl)⟩, ?_⟩)
    · repeat (first | exact trivial | refine ⟨⟨_, rfl⟩, ?_⟩)
    · repeat (first | exact trivial | refine ⟨.inl ⟨_, rfl, (by first | rfl | ((exact congrArg (fun z => SV.v (Value.int .i64 z)) hw)))⟩, ?_⟩ | refine ⟨.inr ⟨Nat.le_of_ble_eq_true rfl, rfl, rfl, rfl, rfl⟩, ?_⟩)
  have hge : s.status.length ≤ k := by simpa using g
  rw [List.take_of_length_le hge] at hx
  subst hx
  exact retw [0] ⟨y, rfl, rfl⟩ ⟨.inl ⟨_, rfl, rfl⟩, trivial⟩ rfl ⟨rfl, trivial⟩ (fun _ => rfl)

end Go.Proofs.YtklclbcckjhdpaaGreat

namespace Go.Proofs.YtklclbcckjhdpaaGreat

open Go Go.Sx Go.RowKit

set_option maxHeartbeats 4000000 in
set_option maxRecDepth 100000 in
theorem readyS_c (s : StateH) (w : World) (h : At w [fR (stateO s)]) (hb : s.status.length ≤ 1048576) :
    Calls Tryz.prog 109 #[stateV s] w (Ret w fun v L => ∃ y : Sl, v = y.val (readyM s.pure).length ∧ L = [own y 3 cInt 1 (readyM s.pure)]) := by
  refine calls1 Tryz.func109 rfl tabOk w _ rfl _ rfl _ h ⟨rfl, rfl, trivial⟩ _ (by decide) ?_
  refine AllSl.mk fun y0 => ?_
  refine LoopW.mk ⟨{ q : Nat × Sl × List Int // q.1 ≤ s.status.length ∧ q.2.2 = evL evReady 0 (s.status.take q.1) ∧ (q.1 = 0 ∨ s.fault = 0) },
    fun q => .mk [(1, .p 0 0), (3, .v (q.1.2.1.val q.1.2.2.length)), (4, .v (.int .i64 (q.1.1 : Int)))] 1 0 [(0, 41, 9)] [((0, 1), .v (s.h1.val s.status.length)), ((0, 8), .v (.int .i64 s.fault))] [own q.1.2.1 3 cInt 1 q.1.2.2, fR (stateO s)],
    fun q => s.status.length - q.1.1, ⟨(0, y0, []), Nat.zero_le _, rfl, .inl rfl⟩, ?_, ?_⟩
  · refine weak_mk [0, 1] ?_ ?_ ?_ ?_ ?_ rfl rfl
    · repeat (first | exact trivial | refine ⟨⟨_, rfl, (by first | exact .of rfl | exact .lit rfl | exact .of (by first | (rfl)) | exact .lit (by first | (rfl))), (by first | exact trivial | exact Nat.le_of_ble_eq_true rfl | exact small1 rfl)⟩, ?_⟩)
    · repeat (first | exact trivial | refine ⟨⟨(by first | exact .head _ | exact .tail _ (.head _) | exact .tail _ (.tail _ (.head _)) | exact .tail _ (.tail _ (.tail _ (.head _))) | exact .tail _ (.tail _ (.tail _ (.tail _ (.head _)))) | exact .tail _ (.tail _ (.tail _ (.tail _ (.tail _ (.head _))))) | exact .tail _ (.tail _ (.tail _ (.tail _ (.tail _ (.tail _ (.head _)))))) | exact .tail _ (.tail _ (.tail _ (.tail _ (.tail _ (.tail _ (.tail _ (.head _))))))) | exact .tail _ (.tail _ (.tail _ (.tail _ (.tail _ (.tail _ (.tail _ (.tail _ (.head _)))))))) | exact .tail _ (.tail _ (.tail _ (.tail _ (.tail _ (.tail _ (.tail _ (.tail _ (.tail _ (.head _)))))))))), Nat.le_of_ble_eq_true rfl⟩, ?_⟩)
    · repeat (first | exact trivial | refine ⟨⟨_, rfl, (by first | exact .of rfl | exact .lit rfl | exact .of (by first | (rfl)) | exact .lit (by first | (rfl))), (by first | exact trivial | exact Nat.le_of_ble_eq_true rfl | exact small1 rfl)⟩, ?_⟩)
    · repeat (first | exact trivial | refine ⟨⟨_, rfl⟩, ?_⟩)
    · repeat (first | exact trivial | refine ⟨.inl ⟨_, rfl, (by first | rfl | (rfl))⟩, ?_⟩ | refine ⟨.inr ⟨Nat.le_of_ble_eq_true rfl, rfl, rfl, rfl, rfl⟩, ?_⟩)
  rintro ⟨⟨k, y, xs⟩, hk, hx, hkf⟩
  simp only at hk hx hkf
  have hend : s.status.length ≤ k ∨ ¬ s.fault = 0 → readyM s.pure = xs := fun hn => by
    by_cases f0 : s.fault = 0
    · rw [readyM, if_pos (show s.pure.fault = 0 from f0), hx, List.take_of_length_le (hn.resolve_right fun h => h f0)]; rfl
    · rw [readyM, if_neg (show ¬ s.pure.fault = 0 from f0), hx, hkf.resolve_right f0]; rfl
  refine CaseB.mk (fun g => ?_) (fun g => ?_)
  · have hlt : k < s.status.length := by simpa using g
    refine CaseB.mk (fun g => ?_) (fun g => ?_)
    · have f0 : s.fault = 0 := by simpa using g
      have hw := e_succ k _ hlt (by omega)
      have hsucc := evL_succ evReady s.status hlt
      have hl : xs.length ≤ 1048576 := by have := readyL_len (s.status.take k); rw [← hx] at this; simp at this; omega
      refine stop_idx encInt tabOk rfl rfl rfl rfl rfl ⟨rfl, rfl⟩ (rdVia 1 rfl (.ofR (stateO_status s))) k rfl (by first | omega | (simp; done) | (simp; omega) | (unfold maxLen; omega) | (unfold maxLen; simp; done) | (unfold maxLen; simp; omega)) (fun ad => ?_)
      refine CaseB.mk (fun g => ?_) (fun g0 => ?_)
      · have c : s.status[k] = 0 ∨ s.status[k] = 2 := .inl (by simpa using g)
        refine AllSl.mk fun b => ?_
        refine stop_app encInt 1 tabOk (ys := [(k : Int)]) rfl rfl rfl rfl rfl rfl rfl rfl rfl (by decide) ⟨rfl, rfl⟩ rfl (by first | exact rdAt 0 rfl | exact rdOwnAt 0 rfl | exact rdAt 1 rfl | exact rdOwnAt 1 rfl | exact rdAt 2 rfl | exact rdOwnAt 2 rfl | exact rdAt 3 rfl | exact rdOwnAt 3 rfl | exact rdAt 4 rfl | exact rdOwnAt 4 rfl | exact rdAt 5 rfl | exact rdOwnAt 5 rfl | exact rdAt 6 rfl | exact rdOwnAt 6 rfl | exact rdAt 7 rfl | exact rdOwnAt 7 rfl | exact rdAt 8 rfl | exact rdOwnAt 8 rfl | exact rdAt 9 rfl | exact rdOwnAt 9 rfl | exact rdAt 10 rfl | exact rdOwnAt 10 rfl | exact rdAt 11 rfl | exact rdOwnAt 11 rfl | exact rdAt 12 rfl | exact rdOwnAt 12 rfl | exact rdAt 13 rfl | exact rdOwnAt 13 rfl | exact rdAt 14 rfl | exact rdOwnAt 14 rfl | exact rdAt 15 rfl | exact rdOwnAt 15 rfl | exact rdAt 16 rfl | exact rdOwnAt 16 rfl | exact rdAt 17 rfl | exact rdOwnAt 17 rfl | exact rdAt 18 rfl | exact rdOwnAt 18 rfl | exact rdAt 19 rfl | exact rdOwnAt 19 rfl | exact rdAt 20 rfl | exact rdOwnAt 20 rfl | exact rdAt 21 rfl | exact rdOwnAt 21 rfl | exact rdAt 22 rfl | exact rdOwnAt 22 rfl | exact rdAt 23 rfl | exact rdOwnAt 23 rfl) (by first | omega | (simp; done) | (simp; omega) | (unfold maxLen; omega) | (unfold maxLen; simp; done) | (unfold maxLen; simp; omega)) (by first | omega | (simp; done) | (simp; omega) | (unfold maxLen; omega) | (unfold maxLen; simp; done) | (unfold maxLen; simp; omega)) (fun z => ?_)
        refine ⟨⟨(k + 1, z, xs ++ [(k : Int)]), by omega, by simp only [hsucc, evReady, if_pos c, hx], .inr f0⟩, ?_, by simp only; omega⟩
        refine weak_mk [0, 2] ?_ ?_ ?_ ?_ ?_ rfl rfl
        · repeat (first | exact trivial | refine ⟨⟨_, rfl, (by first | exact .of rfl | exact .lit rfl | exact .of (by first | ((exact congrArg (fun z => SV.v (Value.int .i64 z)) hw))) | exact .lit (by first | ((exact congrArg (fun z => SV.v (Value.int .i64 z)) hw)))), (by first | exact trivial | exact Nat.le_of_ble_eq_true rfl | exact small1 rfl)⟩, ?_⟩)
        · repeat (first | exact trivial | refine ⟨⟨(by first | exact .head _ | exact .tail _ (.head _) | exact .tail _ (.tail _ (.head _)) | exact .tail _ (.tail _ (.tail _ (.head _))) | exact .tail _ (.tail _ (.tail _ (.tail _ (.head _)))) | exact .tail _ (.tail _ (.tail _ (.tail _ (.tail _ (.head _))))) | exact .tail _ (.tail _ (.tail _ (.tail _ (.tail _ (.tail _ (.head _)))))) | exact .tail _ (.tail _ (.tail _ (.tail _ (.tail _ (.tail _ (.tail _ (.head _))))))) | exact .tail _ (.tail _ (.tail _ (.tail _ (.tail _ (.tail _ (.tail _ (.tail _ (.head _)))))))) | exact .tail _ (.tail _ (.tail _ (.tail _ (.tail _ (.tail _ (.tail _ (.tail _ (.tail _ (.head _)))))))))), Nat.le_of_ble_eq_true rfl⟩, ?_⟩)
        · repeat (first | exact trivial | refine ⟨⟨_, rfl, (by first | exact .of rfl | exact .lit rfl | exact .of (by first | ((exact congrArg (fun z => SV.v (Value.int .i64 z)) hw))) | exact .lit (by first | ((exact congrArg (fun z => SV.v (Value.int .i64 z)) hw)))), (by first | exact trivial | exact Nat.le_of_ble_eq_true rfl | exact small1 rfl)⟩, ?_⟩)
        · repeat (first | exact trivial | refine ⟨⟨_, rfl⟩, ?_⟩)
        · repeat (first | exact trivial | refine ⟨.inl ⟨_, rfl, (by first | rfl | ((exact congrArg (fun z => SV.v (Value.int .i64 z)) hw)))⟩, ?_⟩ | refine ⟨.inr ⟨Nat.le_of_ble_eq_true rfl, rfl, rfl, rfl, rfl⟩, ?_⟩)
      have n0 : ¬ s.status[k] = 0 := by simpa using g0
      refine stop_idx encInt tabOk rfl rfl rfl rfl rfl ⟨rfl, rfl⟩ (rdVia 1 rfl (.ofR (stateO_status s))) k rfl (by first | omega | (simp; done) | (simp; omega) | (unfold maxLen; omega) | (unfold maxLen; simp; done) | (unfold maxLen; simp; omega)) (fun ad2 => ?_)
      refine CaseB.mk (fun g => ?_) (fun g => ?_)
      · have c : s.status[k] = 0 ∨ s.status[k] = 2 := .inr (by simpa using g)
        refine AllSl.mk fun b => ?_
        refine stop_app encInt 1 tabOk (ys := [(k : Int)]) rfl rfl rfl rfl rfl rfl rfl rfl rfl (by decide) ⟨rfl, rfl⟩ rfl (by first | exact rdAt 0 rfl | exact rdOwnAt 0 rfl | exact rdAt 1 rfl | exact rdOwnAt 1 rfl | exact rdAt 2 rfl | exact rdOwnAt 2 rfl | exact rdAt 3 rfl | exact rdOwnAt 3 rfl | exact rdAt 4 rfl | exact rdOwnAt 4 rfl | exact rdAt 5 rfl | exact rdOwnAt 5 rfl | exact rdAt 6 rfl | exact rdOwnAt 6 rfl | exact rdAt 7 rfl | exact rdOwnAt 7 rfl | exact rdAt 8 rfl | exact rdOwnAt 8 rfl | exact rdAt 9 rfl | exact rdOwnAt 9 rfl | exact rdAt 10 rfl | exact rdOwnAt 10 rfl | exact rdAt 11 rfl | exact rdOwnAt 11 rfl | exact rdAt 12 rfl | exact rdOwnAt 12 rfl | exact rdAt 13 rfl | exact rdOwnAt 13 rfl | exact rdAt 14 rfl | exact rdOwnAt 14 rfl | exact rdAt 15 rfl | exact rdOwnAt 15 rfl | exact rdAt 16 rfl | exact rdOwnAt 16 rfl | exact rdAt 17 rfl | exact rdOwnAt 17 rfl | exact rdAt 18 rfl | exact rdOwnAt 18 rfl | exact rdAt 19 rfl | exact rdOwnAt 19 rfl | exact rdAt 20 rfl | exact rdOwnAt 20 rfl | exact rdAt 21 rfl | exact rdOwnAt 21 rfl | exact rdAt 22 rfl | exact rdOwnAt 22 rfl | exact rdAt 23 rfl | exact rdOwnAt 23 rfl) (by first | omega | (simp; done) | (simp; omega) | (unfold maxLen; omega) | (unfold maxLen; simp; done) | (unfold maxLen; simp; omega)) (by first | omega | (simp; done) | (simp; omega) | (unfold maxLen; omega) | (unfold maxLen; simp; done) | (unfold maxLen; simp; omega)) (fun z => ?_)
        refine ⟨⟨(k + 1, z, xs ++ [(k : Int)]), by omega, by simp only [hsucc, evReady, if_pos c, hx], .inr f0⟩, ?_, by simp only; omega⟩
        refine weak_mk [0, 2] ?_ ?_ ?_ ?_ ?_ rfl rfl
        · repeat (first | exact trivial | refine ⟨⟨_, rfl, (by first | exact .of rfl | exact .lit rfl | exact .of (by first | ((exact congrArg (fun z => SV.v (Value.int .i64 z)) hw))) | exact .lit (by first | ((exact congrArg (fun z => SV.v (Value.int .i64 z)) hw)))), (by first | exact trivial | exact Nat.le_of_ble_eq_true rfl | exact small1 rfl)⟩, ?_⟩)
        · repeat (first | exact trivial | refine ⟨⟨(by first | exact .head _ | exact .tail _ (.head _) | exact .tail _ (.tail _ (.head _)) | exact .tail _ (.tail _ (.tail _ (.head _))) | exact .tail _ (.tail _ (.tail _ (.tail _ (.head _)))) | exact .tail _ (.tail _ (.tail _ (.tail _ (.tail _ (.head _))))) | exact .tail _ (.tail _ (.tail _ (.tail _ (.tail _ (.tail _ (.head _)))))) | exact .tail _ (.tail _ (.tail _ (.tail _ (.tail _ (.tail _ (.tail _ (.head _))))))) | exact .tail _ (.tail _ (.tail _ (.tail _ (.tail _ (.tail _ (.tail _ (.tail _ (.head _)))))))) | exact .tail _ (.tail _ (.tail _ (.tail _ (.tail _ (.tail _ (.tail _ (.tail _ (.tail _ (.head _)))))))))), Nat.le_of_ble_eq_true rfl⟩, ?_⟩)
        · repeat (first | exact trivial | refine ⟨⟨_, rfl, (by first | exact .of rfl | exact .lit rfl | exact .of (by first | ((exact congrArg (fun z => SV.v (Value.int .i64 z)) hw))) | exact .lit (by first | ((exact congrArg (fun z => SV.v (Value.int .i64 z)) hw)))), (by first | exact trivial | exact Nat.le_of_ble_eq_true rfl | exact small1 rfl)⟩, ?_⟩)
        · repeat (first | exact trivial | refine ⟨⟨_, rfl⟩, ?_⟩)
        · repeat (first | exact trivial | refine ⟨.inl ⟨_, rfl, (by first | rfl | ((exact congrArg (fun z => SV.v (Value.int .i64 z)) hw)))⟩, ?_⟩ | refine ⟨.inr ⟨Nat.le_of_ble_eq_true rfl, rfl, rfl, rfl, rfl⟩, ?_⟩)
      have n2 : ¬ s.status[k] = 2 := by simpa using g
      refine ⟨⟨(k + 1, y, xs), by omega, by simp only [hsucc, evReady, if_neg (show ¬ (s.status[k] = 0 ∨ s.status[k] = 2) from fun h => h.elim n0 n2), hx, List.append_nil], .inr f0⟩, ?_, by simp only; omega⟩
      refine weak_mk [0, 1] ?_ ?_ ?_ ?_ ?_ rfl rfl
      · repeat (first | exact trivial | refine ⟨⟨_, rfl, (by first | exact .of rfl | exact .lit rfl | exact .of (by first | ((exact congrArg (fun z => SV.v (Value.int .i64 z)) hw))) | exact .lit (by first | ((exact congrArg (fun z => SV.v (Value.int .i64 z)) hw)))), (by first | exact trivial | exact Nat.le_of_ble_eq_true rfl | exact small1 rfl)⟩, ?_⟩)
      · repeat (first | exact trivial | refine ⟨⟨(by first | exact .head _ | exact .tail _ (.head _) | exact .tail _ (.tail _ (.head _)) | exact .tail _ (.tail _ (.tail _ (.head _))) | exact .tail _ (.tail _ (.tail _ (.tail _ (.head _)))) | exact .tail _ (.tail _ (.tail _ (.tail _ (.tail _ (.head _))))) | exact .tail _ (.tail _ (.tail _ (.tail _ (.tail _ (.tail _ (.head _)))))) | exact .tail _ (.tail _ (.tail _ (.tail _ (.tail _ (.tail _ (.tail _ (.head _))))))) | exact .tail _ (.tail _ (.tail _ (.tail _ (.tail _ (.tail _ (.tail _ (.tail _ (.head _)))))))) | exact .tail _ (.tail _ (.tail _ (.tail _ (.tail _ (.tail _ (.tail _ (.tail _ (.tail _ (.head _)))))))))), Nat.le_of_ble_eq_true rfl⟩, ?_⟩)
      · repeat (first | exact trivial | refine ⟨⟨_, rfl, (by first | exact .of rfl | exact .lit rfl | exact .of (by first | ((exact congrArg (fun z => SV.v (Value.int .i64 z)) hw))) | exact .lit (by first | ((exact congrArg (fun z => SV.v (Value.int .i64 z)) hw)))), (by first | exact trivial | exact Nat.le_of_ble_eq_true rfl | exact small1 rfl)⟩, ?_⟩)
      · repeat (first | exact trivial | refine ⟨⟨_, rfl⟩, ?_⟩)
      · repeat (first | exact trivial | refine ⟨.inl ⟨_, rfl, (by first | rfl | ((exact congrArg (fun z => SV.v (Value.int .i64 z)) hw)))⟩, ?_⟩ | refine ⟨.inr ⟨Nat.le_of_ble_eq_true rfl, rfl, rfl, rfl, rfl⟩, ?_⟩)
    · have f0 : ¬ s.fault = 0 := by simpa using g
      rw [hend (.inr f0)]
      exact retw [0] ⟨y, rfl, rfl⟩ ⟨.inl ⟨_, rfl, rfl⟩, trivial⟩ rfl ⟨rfl, trivial⟩ (fun _ => rfl)
  have hge : s.status.length ≤ k := by simpa using g
  rw [hend (.inl hge)]
  exact retw [0] ⟨y, rfl, rfl⟩ ⟨.inl ⟨_, rfl, rfl⟩, trivial⟩ rfl ⟨rfl, trivial⟩ (fun _ => rfl)

end Go.Proofs.YtklclbcckjhdpaaGreat

namespace Go.Proofs.YtklclbcckjhdpaaGreat

open Go Go.Sx Go.RowKit

/-- What ReadyThreads answers. -/
def ReadyAns (p : Prog) (s : State) (v : Value) (L : List Fct) : Prop := ∃ (y : Sl) (xs : List Int), v = y.val xs.length ∧ (Fits p s → xs = readyM s) ∧ (¬ Fits p s → xs = []) ∧ L = [own y 3 cInt 1 xs]

set_option maxHeartbeats 4000000 in
set_option maxRecDepth 100000 in
theorem readyThreads_c (p : ProgH) (s : StateH) (w : World) (h : At w [fR (progO p), fR (stateO s)]) (hp : p.pure.small20) (hs : s.pure.small20) :
    Calls Tryz.prog 35 #[progV p, stateV s] w (Ret w (ReadyAns p.pure s.pure)) := by
  have hb : s.status.length ≤ 1048576 := hs.2.1
  refine calls2 Tryz.func35 rfl tabOk w _ rfl _ rfl _ h ⟨rfl, rfl, rfl, rfl, trivial⟩ _ _ (by decide) ?_
  refine stop_call _ cl24 rfl rfl rfl rfl ⟨rfl, rfl⟩ (fun A w hW => stateFits_c p s w ⟨hW.get 0 rfl (.refl _), hW.get 1 rfl (.refl _), trivial⟩ hp hs) ?_
  rintro v L ⟨b, rfl, hbb, rfl⟩
  refine CaseB.mk (fun g => ?_) (fun g => ?_)
  · have n : ¬ Fits p.pure s.pure := fun e => by rw [hbb.2 e] at g; cases g
    exact retw [90] ⟨⟨none, 0⟩, [], rfl, fun e => (n e).elim, fun _ => rfl, rfl⟩ ⟨.inr ⟨Nat.le_of_ble_eq_true rfl, rfl, rfl, rfl, rfl⟩, trivial⟩ rfl ⟨rfl, trivial⟩ (fun _ => rfl)
  have ft := hbb.1 (by simpa using g)
  refine stop_call _ cl61 rfl rfl rfl rfl ⟨rfl, rfl⟩ (fun A w hW => ready_c s w ⟨hW.get 1 rfl (.refl _), trivial⟩ hb) ?_
  rintro v L ⟨y, rfl, rfl⟩
  exact retw [0] ⟨y, _, rfl, fun _ => rfl, fun e => (e ft).elim, rfl⟩ ⟨.inl ⟨_, rfl, rfl⟩, trivial⟩ rfl ⟨rfl, trivial⟩ (fun _ => rfl)

set_option maxHeartbeats 4000000 in
set_option maxRecDepth 100000 in
theorem readyThreadsS_c (p : ProgH) (s : StateH) (w : World) (h : At w [fR (progO p), fR (stateO s)]) (hp : p.pure.small20) (hs : s.pure.small20) :
    Calls Tryz.prog 34 #[progV p, stateV s] w (Ret w (ReadyAns p.pure s.pure)) := by
  have hb : s.status.length ≤ 1048576 := hs.2.1
  refine calls2 Tryz.func34 rfl tabOk w _ rfl _ rfl _ h ⟨rfl, rfl, rfl, rfl, trivial⟩ _ _ (by decide) ?_
  refine stop_call _ cl23 rfl rfl rfl rfl ⟨rfl, rfl⟩ (fun A w hW => stateFitsS_c p s w ⟨hW.get 0 rfl (.refl _), hW.get 1 rfl (.refl _), trivial⟩ hp hs) ?_
  rintro v L ⟨b, rfl, hbb, rfl⟩
  refine CaseB.mk (fun g => ?_) (fun g => ?_)
  · have n : ¬ Fits p.pure s.pure := fun e => by rw [hbb.2 e] at g; cases g
    refine AllSl.mk fun y0 => ?_
    exact retw [0] ⟨y0, [], rfl, fun e => (n e).elim, fun _ => rfl, rfl⟩ ⟨.inl ⟨_, rfl, rfl⟩, trivial⟩ rfl ⟨rfl, trivial⟩ (fun _ => rfl)
  have ft := hbb.1 (by simpa using g)
  refine stop_call _ cl109 rfl rfl rfl rfl ⟨rfl, rfl⟩ (fun A w hW => readyS_c s w ⟨hW.get 1 rfl (.refl _), trivial⟩ hb) ?_
  rintro v L ⟨y, rfl, rfl⟩
  exact retw [0] ⟨y, _, rfl, fun _ => rfl, fun e => (e ft).elim, rfl⟩ ⟨.inl ⟨_, rfl, rfl⟩, trivial⟩ rfl ⟨rfl, trivial⟩ (fun _ => rfl)

end Go.Proofs.YtklclbcckjhdpaaGreat

namespace Go.Proofs.YtklclbcckjhdpaaGreat

open Go Go.Sx Go.RowKit

/-- The elements marked, from k on. -/
def mkL {α : Type} (mk : Nat → α → α) (nx : Nat → α → Nat) : Nat → List α → List α
  | _, [] => []
  | k, x :: r => mk k x :: mkL mk nx (nx k x) r

def nxL {α : Type} (nx : Nat → α → Nat) : Nat → List α → Nat
  | k, [] => k
  | k, x :: r => nxL nx (nx k x) r

theorem nxL_le {α : Type} {nx : Nat → α → Nat} {C : Nat} {P : α → Prop} (h : ∀ k x, P x → nx k x ≤ k + C) : ∀ (k : Nat) (xs : List α), (∀ x ∈ xs, P x) → nxL nx k xs ≤ k + xs.length * C
  | k, [], _ => by simp [nxL]
  | k, x :: r, hx => by
    have h1 := nxL_le h (nx k x) r (fun y hy => hx y (by simp [hy]))
    have h2 := h k x (hx x (by simp))
    have e : (r.length + 1) * C = r.length * C + C := Nat.succ_mul _ _
    simp only [nxL, List.length_cons, e]
    omega

theorem app_get {α : Type} {ys zs : List α} {y : α} (h : ys.length < (ys ++ y :: zs).length) : (ys ++ y :: zs)[ys.length]'h = y := by simp

theorem app_set {α : Type} (ys zs : List α) (y z : α) : (ys ++ y :: zs).set ys.length z = ys ++ z :: zs := by simp

theorem perm_out {α β : Type} (f : α → List β) (ys zs : List α) (z : α) : ((ys ++ z :: zs).flatMap f).Perm (f z ++ (ys ++ zs).flatMap f) := by
  simp only [List.flatMap_append, List.flatMap_cons]
  rw [← List.append_assoc, ← List.append_assoc]
  exact List.perm_append_comm.append_right _

theorem perm_in {α β : Type} (f : α → List β) (ys zs : List α) (z : α) : (f z ++ (ys ++ zs).flatMap f).Perm (((ys ++ [z]) ++ zs).flatMap f) := by
  refine (perm_out f ys zs z).symm.trans (.of_eq ?_)
  simp

theorem own_eq {α : Type} {i : Sl} {e : TypeId} {enc : α → List Value} {sz : Nat} {xs ys : List α} (h : cells enc xs = cells enc ys) (hl : xs.length = ys.length) : own i e enc sz xs = own i e enc sz ys := by
  simp only [own, fOwn, h, hl]

theorem retG_shift {E : Env} {n : Nat} {B : List (Nat × TypeId × Nat)} {M : List ((Nat × Nat) × SV)} {F F' : List Fct} {X : (Nat → Nat) → World → Prop} (h : Shift F F') (k : RetW (∀ A w, WD E A n B M F' w → X A w)) : RetW (∀ A w, WD E A n B M F w → X A w) := ret_shift h k

end Go.Proofs.YtklclbcckjhdpaaGreat

namespace Go.Proofs.YtklclbcckjhdpaaGreat

open Go Go.Sx Go.RowKit

def mkOpS (c : Nat) (x : OpSH) : OpSH := ⟨marksOp (c) x.m.length, x.q⟩

def nxOpS (c : Nat) (x : OpSH) : Nat := c + 3 * x.m.length

theorem nxOpS_le (c : Nat) (x : OpSH) (h : OpS.small20 x.m) : nxOpS c x ≤ c + 8388608 := by
  unfold OpS.small20 at h
  unfold nxOpS
  omega

set_option maxHeartbeats 16000000 in
set_option maxRecDepth 100000 in
theorem markOpSS_c (h : Sl) (xs : List OpSH) (k : Nat) (w : World) (hh : AtG w [fO (threadsO h xs)] []) (hl : xs.length ≤ 1048576) (hb : ∀ x ∈ xs, OpS.small20 x.m) (hk : k ≤ 144115188075855872) :
    Calls Tryz.prog 83 #[h.val xs.length, .int .i64 (k : Int)] w (RetG w [fO (threadsO h xs)] fun v L => v = .int .i64 ((nxL nxOpS k xs : Nat) : Int) ∧ L = [fO (threadsO h (mkL mkOpS nxOpS k xs))]) := by
  refine callsG_fn Tryz.func83 rfl tabOk w _ rfl _ rfl _ _ hh trivial _ _ rfl rfl ?_
  refine LoopW.mk ⟨{ p : List OpSH × List OpSH × Nat // mkL mkOpS nxOpS k xs = p.1 ++ mkL mkOpS nxOpS p.2.2 p.2.1 ∧ nxL nxOpS k xs = nxL nxOpS p.2.2 p.2.1 ∧ p.1.length + p.2.1.length = xs.length ∧ (∀ x ∈ p.2.1, OpS.small20 x.m) ∧ p.2.2 + p.2.1.length * 8388608 ≤ 288230376151711744 },
    fun p => .mk [(0, .v (h.val (p.1.1 ++ p.1.2.1).length)), (1, .v (.int .i64 (p.1.2.2 : Int))), (5, .v (.int .i64 (p.1.1.length : Int)))] 0 0 [] [] [own h 89 cOpSH 1 (p.1.1 ++ p.1.2.1), fO ((p.1.1 ++ p.1.2.1).flatMap opSO)],
    fun p => p.1.2.1.length, ⟨([], xs, k), by simp, rfl, by simp, hb, by simp only; omega⟩, ?_, ?_⟩
  · refine weak_shift (.splitO 0 (L := [own h 89 cOpSH 1 xs]) (G' := xs.flatMap opSO) rfl (.of_eq rfl)) ?_
    refine weak_mk [0, 1] ?_ ?_ ?_ ?_ ?_ rfl rfl
    · repeat (first | exact trivial | refine ⟨⟨_, rfl, (by first | exact .of rfl | exact .lit rfl | exact .of (by first | (rfl)) | exact .lit (by first | (rfl))), (by first | exact trivial | exact Nat.le_of_ble_eq_true rfl | exact small1 rfl)⟩, ?_⟩)
    · repeat (first | exact trivial | refine ⟨⟨(by first | exact .head _ | exact .tail _ (.head _) | exact .tail _ (.tail _ (.head _)) | exact .tail _ (.tail _ (.tail _ (.head _))) | exact .tail _ (.tail _ (.tail _ (.tail _ (.head _)))) | exact .tail _ (.tail _ (.tail _ (.tail _ (.tail _ (.head _))))) | exact .tail _ (.tail _ (.tail _ (.tail _ (.tail _ (.tail _ (.head _)))))) | exact .tail _ (.tail _ (.tail _ (.tail _ (.tail _ (.tail _ (.tail _ (.head _))))))) | exact .tail _ (.tail _ (.tail _ (.tail _ (.tail _ (.tail _ (.tail _ (.tail _ (.head _)))))))) | exact .tail _ (.tail _ (.tail _ (.tail _ (.tail _ (.tail _ (.tail _ (.tail _ (.tail _ (.head _)))))))))), Nat.le_of_ble_eq_true rfl⟩, ?_⟩)
    · repeat (first | exact trivial | refine ⟨⟨_, rfl, (by first | exact .of rfl | exact .lit rfl | exact .of (by first | (rfl)) | exact .lit (by first | (rfl))), (by first | exact trivial | exact Nat.le_of_ble_eq_true rfl | exact small1 rfl)⟩, ?_⟩)
    · repeat (first | exact trivial | refine ⟨⟨_, rfl⟩, ?_⟩)
    · repeat (first | exact trivial | refine ⟨.inl ⟨_, rfl, (by first | rfl | (rfl))⟩, ?_⟩ | refine ⟨.inr ⟨Nat.le_of_ble_eq_true rfl, rfl, rfl, rfl, rfl⟩, ?_⟩)
  rintro ⟨⟨ys, zs, c⟩, i1, i2, i3, i4, i5⟩
  simp only at i1 i2 i3 i4 i5
  refine CaseB.mk (fun g => ?_) (fun g => ?_)
  · cases zs with
    | nil => simp at g
    | cons x zs =>
      simp only [List.length_cons] at i3 i5
      have hx := i4 x (by simp)
      have hnx := nxOpS_le c x hx
      unfold OpS.small20 at hx
      have hlt : ∀ y : OpSH, ys.length < (ys ++ y :: zs).length := fun y => by simp
      refine stop_idx encOpSH (xs := ys ++ x :: zs) tabOk rfl (Eq.trans rfl (congrArg (fun n => some (SV.v (h.val n))) (by simp))) rfl rfl rfl ⟨rfl, rfl⟩ (rdOwnAt 0 rfl) ys.length rfl (hlt _) (fun ad0 => ?_)
      rw [app_get]
      refine stop_shift (.splitO 1 (L := opSO x) (G' := (ys ++ zs).flatMap opSO) rfl (perm_out opSO ys zs x)) ?_
      refine stop_callG _ [0] (G := [_]) cl152 rfl rfl rfl rfl ⟨rfl, rfl⟩ ⟨rfl, trivial⟩ ⟨rfl, rfl, trivial⟩ (fun A w hW => (markOpS_c _ _ (c) w (hW.atG [0] (G := [_]) ⟨rfl, trivial⟩ rfl ⟨rfl, rfl, trivial⟩ [] (Fo := []) trivial rfl) (by first | omega | (simp only; omega)) (by omega))) ?_
      rintro v L ⟨rfl, rfl⟩
      have hwj := e_succ ys.length xs.length (by omega) (by omega)
      have hz : nxOpS c x = c + 3 * x.m.length := rfl
      generalize hzz : mkOpS c x = z
      have hwj2 : IntKind.i64.wrap ((ys.length : Int) + 1) = (((ys ++ [z]).length : Nat) : Int) := by rw [hwj]; simp
      have hl0 : h.val (ys ++ x :: zs).length = h.val ((ys ++ [z]) ++ zs).length := congrArg h.val (by simp)
      have hrow : own h 89 cOpSH 1 (ys ++ x :: zs) = own h 89 cOpSH 1 ((ys ++ [z]) ++ zs) := by
        subst hzz
        have e1 : cells cOpSH (ys ++ x :: zs) = cells cOpSH ((ys ++ [mkOpS c x]) ++ zs) := by simp [cells, cOpSH, mkOpS, marksOp_len]
        have e2 : (ys ++ x :: zs).length = ((ys ++ [mkOpS c x]) ++ zs).length := by simp
        rw [own_eq e1 e2]
      refine ⟨⟨(ys ++ [z], zs, nxOpS c x), by rw [i1, ← hzz]; simp [mkL], by rw [i2]; rfl, by simp; omega, fun y hy => i4 y (by simp [hy]), by simp only; omega⟩, ?_, by simp⟩
      refine weak_shift (.joinO [0, 1] (Gs := [[_], _]) ⟨.inl ⟨_, rfl, .own⟩, .inl ⟨_, rfl, .o⟩, trivial⟩ rfl (G := ((ys ++ [z]) ++ zs).flatMap opSO) (.trans (.of_eq (by rw [← hzz]; simp [opSO, mkOpS])) (perm_in opSO ys zs z))) ?_
      refine weak_mk [1, 0] ?_ ?_ ?_ ?_ ?_ rfl rfl
      · repeat (first | exact trivial | refine ⟨⟨_, rfl, (by first | exact .of rfl | exact .lit rfl | exact .of (by first | ((first | exact hrow | exact congrArg SV.v hl0 | exact congrArg (fun z => SV.v (Value.int .i64 z)) hwj2 | exact congrArg (fun z => SV.v (Value.int .i64 z)) rfl))) | exact .lit (by first | ((first | exact hrow | exact congrArg SV.v hl0 | exact congrArg (fun z => SV.v (Value.int .i64 z)) hwj2 | exact congrArg (fun z => SV.v (Value.int .i64 z)) rfl)))), (by first | exact trivial | exact Nat.le_of_ble_eq_true rfl | exact small1 rfl)⟩, ?_⟩)
      · repeat (first | exact trivial | refine ⟨⟨(by first | exact .head _ | exact .tail _ (.head _) | exact .tail _ (.tail _ (.head _)) | exact .tail _ (.tail _ (.tail _ (.head _))) | exact .tail _ (.tail _ (.tail _ (.tail _ (.head _)))) | exact .tail _ (.tail _ (.tail _ (.tail _ (.tail _ (.head _))))) | exact .tail _ (.tail _ (.tail _ (.tail _ (.tail _ (.tail _ (.head _)))))) | exact .tail _ (.tail _ (.tail _ (.tail _ (.tail _ (.tail _ (.tail _ (.head _))))))) | exact .tail _ (.tail _ (.tail _ (.tail _ (.tail _ (.tail _ (.tail _ (.tail _ (.head _)))))))) | exact .tail _ (.tail _ (.tail _ (.tail _ (.tail _ (.tail _ (.tail _ (.tail _ (.tail _ (.head _)))))))))), Nat.le_of_ble_eq_true rfl⟩, ?_⟩)
      · repeat (first | exact trivial | refine ⟨⟨_, rfl, (by first | exact .of rfl | exact .lit rfl | exact .of (by first | ((first | exact hrow | exact congrArg SV.v hl0 | exact congrArg (fun z => SV.v (Value.int .i64 z)) hwj2 | exact congrArg (fun z => SV.v (Value.int .i64 z)) rfl))) | exact .lit (by first | ((first | exact hrow | exact congrArg SV.v hl0 | exact congrArg (fun z => SV.v (Value.int .i64 z)) hwj2 | exact congrArg (fun z => SV.v (Value.int .i64 z)) rfl)))), (by first | exact trivial | exact Nat.le_of_ble_eq_true rfl | exact small1 rfl)⟩, ?_⟩)
      · repeat (first | exact trivial | refine ⟨⟨_, rfl⟩, ?_⟩)
      · repeat (first | exact trivial | refine ⟨.inl ⟨_, rfl, (by first | rfl | ((first | exact hrow | exact congrArg SV.v hl0 | exact congrArg (fun z => SV.v (Value.int .i64 z)) hwj2 | exact congrArg (fun z => SV.v (Value.int .i64 z)) rfl)))⟩, ?_⟩ | refine ⟨.inr ⟨Nat.le_of_ble_eq_true rfl, rfl, rfl, rfl, rfl⟩, ?_⟩)
  · cases zs with
    | nil =>
      simp only [mkL, List.append_nil] at i1
      simp only [nxL] at i2
      have hyl : ys.length = xs.length := by simpa using i3
      simp only [List.append_nil]
      refine retG_shift (.joinO [0, 1] (Gs := [[_], _]) ⟨.inl ⟨_, rfl, .own⟩, .inl ⟨_, rfl, .o⟩, trivial⟩ rfl (G := threadsO h ys) (.of_eq (by simp [threadsO, nestO]))) ?_
      exact retG [0] (L := [fO (threadsO h ys)]) ⟨congrArg (fun z : Nat => Value.int .i64 (z : Int)) i2.symm, by rw [i1]⟩ ⟨.inl ⟨_, rfl, rfl⟩, trivial⟩ rfl ⟨rfl, trivial⟩ (fun _ => rfl)
    | cons x zs => simp at g; omega

end Go.Proofs.YtklclbcckjhdpaaGreat

namespace Go.Proofs.YtklclbcckjhdpaaGreat

open Go Go.Sx Go.RowKit

def atProg0 (k : Nat) (s : ProgH) : Nat := k + s.sems.length

def atProg1 (k : Nat) (s : ProgH) : Nat := (atProg0 k s) + s.groups.length

def atProg2 (k : Nat) (s : ProgH) : Nat := (atProg1 k s) + s.barriers.length

def atProg3 (k : Nat) (s : ProgH) : Nat := (atProg2 k s) + s.rooms.length

def atProg4 (k : Nat) (s : ProgH) : Nat := nxL nxOpS (atProg3 k s) s.threads

def mkProg (k : Nat) (s : ProgH) : ProgH := { s with sems := marks (k) s.sems.length, groups := marks (atProg0 k s) s.groups.length, barriers := marks (atProg1 k s) s.barriers.length, rooms := marks (atProg2 k s) s.rooms.length, threads := mkL mkOpS nxOpS (atProg3 k s) s.threads }

set_option maxHeartbeats 16000000 in
set_option maxRecDepth 100000 in
theorem markProg_c (s : ProgH) (k : Nat) (w : World) (hh : AtG w [fO (progO s)] []) (hb : s.pure.small20) (hk : k ≤ 36028797018963968) :
    Calls Tryz.prog 20 #[progV s, .int .i64 (k : Int)] w (RetG w [fO (progO s)] fun v L => v = .int .i64 ((atProg4 k s : Nat) : Int) ∧ L = [fO (progO (mkProg k s))]) := by
  obtain ⟨b0, b1, b2, b3, b4⟩ := hb
  have t0 : atProg0 k s = k + s.sems.length := rfl
  have t1 : atProg1 k s = atProg0 k s + s.groups.length := rfl
  have t2 : atProg2 k s = atProg1 k s + s.barriers.length := rfl
  have t3 : atProg3 k s = atProg2 k s + s.rooms.length := rfl
  have t4 : atProg4 k s ≤ atProg3 k s + s.threads.length * 8388608 := nxL_le (P := fun x => OpS.small20 x.m) (fun c x h => nxOpS_le c x h) _ _ (allS_map b4).2
  have s0 : s.sems.length ≤ 1048576 := b0
  have s1 : s.groups.length ≤ 1048576 := b1
  have s2 : s.barriers.length ≤ 1048576 := b2
  have s3 : s.rooms.length ≤ 1048576 := b3
  have s4 := (allS_map b4).1
  refine callsG_fn Tryz.func20 rfl tabOk w _ rfl _ rfl _ _ hh trivial _ _ rfl rfl ?_
  refine stop_shift (.splitO 0 (L := [own s.h0 3 cInt 1 s.sems, own s.h1 3 cInt 1 s.groups, own s.h2 3 cInt 1 s.barriers, own s.h3 3 cInt 1 s.rooms]) (G' := threadsO s.h4 s.threads) rfl (.of_eq (by simp [progO]))) ?_
  refine stop_callG _ [0] (G := [_]) cl37 rfl rfl rfl rfl ⟨rfl, rfl⟩ ⟨rfl, trivial⟩ ⟨rfl, rfl, trivial⟩ (fun A w hW => (markIntS_c s.h0 s.sems (k) w (hW.atG [0] (G := [_]) ⟨rfl, trivial⟩ rfl ⟨rfl, rfl, trivial⟩ [] (Fo := []) trivial rfl) (Nat.le_trans b0 (by decide)) (by omega))) ?_
  rintro v L ⟨rfl, rfl⟩
  refine stop_callG _ [1] (G := [_]) cl37 rfl rfl rfl rfl ⟨rfl, rfl⟩ ⟨rfl, trivial⟩ ⟨rfl, rfl, trivial⟩ (fun A w hW => (markIntS_c s.h1 s.groups (atProg0 k s) w (hW.atG [1] (G := [_]) ⟨rfl, trivial⟩ rfl ⟨rfl, rfl, trivial⟩ [] (Fo := []) trivial rfl) (Nat.le_trans b1 (by decide)) (by omega))) ?_
  rintro v L ⟨rfl, rfl⟩
  refine stop_callG _ [2] (G := [_]) cl37 rfl rfl rfl rfl ⟨rfl, rfl⟩ ⟨rfl, trivial⟩ ⟨rfl, rfl, trivial⟩ (fun A w hW => (markIntS_c s.h2 s.barriers (atProg1 k s) w (hW.atG [2] (G := [_]) ⟨rfl, trivial⟩ rfl ⟨rfl, rfl, trivial⟩ [] (Fo := []) trivial rfl) (Nat.le_trans b2 (by decide)) (by omega))) ?_
  rintro v L ⟨rfl, rfl⟩
  refine stop_callG _ [3] (G := [_]) cl37 rfl rfl rfl rfl ⟨rfl, rfl⟩ ⟨rfl, trivial⟩ ⟨rfl, rfl, trivial⟩ (fun A w hW => (markIntS_c s.h3 s.rooms (atProg2 k s) w (hW.atG [3] (G := [_]) ⟨rfl, trivial⟩ rfl ⟨rfl, rfl, trivial⟩ [] (Fo := []) trivial rfl) (Nat.le_trans b3 (by decide)) (by omega))) ?_
  rintro v L ⟨rfl, rfl⟩
  refine stop_callG _ [4] (G := [_]) cl83 rfl rfl rfl rfl ⟨rfl, rfl⟩ ⟨rfl, trivial⟩ ⟨rfl, rfl, trivial⟩ (fun A w hW => (markOpSS_c s.h4 s.threads (atProg3 k s) w (hW.atG [4] (G := [_]) ⟨rfl, trivial⟩ rfl ⟨rfl, rfl, trivial⟩ [] (Fo := []) trivial rfl) (allS_map b4).1 (allS_map b4).2 (by omega))) ?_
  rintro v L ⟨rfl, rfl⟩
  refine retG_shift (.joinO [4, 3, 2, 1, 0] (Gs := [[_], [_], [_], [_], _]) ⟨.inl ⟨_, rfl, .own⟩, .inl ⟨_, rfl, .own⟩, .inl ⟨_, rfl, .own⟩, .inl ⟨_, rfl, .own⟩, .inl ⟨_, rfl, .o⟩, trivial⟩ rfl (G := progO (mkProg k s)) (.of_eq (by simp [progO, mkProg]))) ?_
  exact retG [0] ⟨rfl, rfl⟩ ⟨.inl ⟨_, rfl, rfl⟩, trivial⟩ rfl ⟨rfl, trivial⟩ (fun _ => rfl)

end Go.Proofs.YtklclbcckjhdpaaGreat

namespace Go.Proofs.YtklclbcckjhdpaaGreat

open Go Go.Sx Go.RowKit

def mkSem (c : Nat) (x : SemH) : SemH := ⟨⟨((c : Nat) : Int), ((c + 1 : Nat) : Int), marksWaiter (c + 1 + 1) x.m.queue.length⟩, x.q⟩

def nxSem (c : Nat) (x : SemH) : Nat := c + 1 + 1 + 2 * x.m.queue.length

theorem nxSem_le (c : Nat) (x : SemH) (h : Sem.small20 x.m) : nxSem c x ≤ c + 8388608 := by
  unfold Sem.small20 at h
  unfold nxSem
  omega

set_option maxHeartbeats 16000000 in
set_option maxRecDepth 100000 in
theorem markSemS_c (h : Sl) (xs : List SemH) (k : Nat) (w : World) (hh : AtG w [fO (semsO h xs)] []) (hl : xs.length ≤ 1048576) (hb : ∀ x ∈ xs, Sem.small20 x.m) (hk : k ≤ 144115188075855872) :
    Calls Tryz.prog 84 #[h.val xs.length, .int .i64 (k : Int)] w (RetG w [fO (semsO h xs)] fun v L => v = .int .i64 ((nxL nxSem k xs : Nat) : Int) ∧ L = [fO (semsO h (mkL mkSem nxSem k xs))]) := by
  refine callsG_fn Tryz.func84 rfl tabOk w _ rfl _ rfl _ _ hh trivial _ _ rfl rfl ?_
  refine LoopW.mk ⟨{ p : List SemH × List SemH × Nat // mkL mkSem nxSem k xs = p.1 ++ mkL mkSem nxSem p.2.2 p.2.1 ∧ nxL nxSem k xs = nxL nxSem p.2.2 p.2.1 ∧ p.1.length + p.2.1.length = xs.length ∧ (∀ x ∈ p.2.1, Sem.small20 x.m) ∧ p.2.2 + p.2.1.length * 8388608 ≤ 288230376151711744 },
    fun p => .mk [(0, .v (h.val (p.1.1 ++ p.1.2.1).length)), (1, .v (.int .i64 (p.1.2.2 : Int))), (5, .v (.int .i64 (p.1.1.length : Int)))] 0 0 [] [] [own h 95 cSemH 3 (p.1.1 ++ p.1.2.1), fO ((p.1.1 ++ p.1.2.1).flatMap semO)],
    fun p => p.1.2.1.length, ⟨([], xs, k), by simp, rfl, by simp, hb, by simp only; omega⟩, ?_, ?_⟩
  · refine weak_shift (.splitO 0 (L := [own h 95 cSemH 3 xs]) (G' := xs.flatMap semO) rfl (.of_eq rfl)) ?_
    refine weak_mk [0, 1] ?_ ?_ ?_ ?_ ?_ rfl rfl
    · repeat (first | exact trivial | refine ⟨⟨_, rfl, (by first | exact .of rfl | exact .lit rfl | exact .of (by first | (rfl)) | exact .lit (by first | (rfl))), (by first | exact trivial | exact Nat.le_of_ble_eq_true rfl | exact small1 rfl)⟩, ?_⟩)
    · repeat (first | exact trivial | refine ⟨⟨(by first | exact .head _ | exact .tail _ (.head _) | exact .tail _ (.tail _ (.head _)) | exact .tail _ (.tail _ (.tail _ (.head _))) | exact .tail _ (.tail _ (.tail _ (.tail _ (.head _)))) | exact .tail _ (.tail _ (.tail _ (.tail _ (.tail _ (.head _))))) | exact .tail _ (.tail _ (.tail _ (.tail _ (.tail _ (.tail _ (.head _)))))) | exact .tail _ (.tail _ (.tail _ (.tail _ (.tail _ (.tail _ (.tail _ (.head _))))))) | exact .tail _ (.tail _ (.tail _ (.tail _ (.tail _ (.tail _ (.tail _ (.tail _ (.head _)))))))) | exact .tail _ (.tail _ (.tail _ (.tail _ (.tail _ (.tail _ (.tail _ (.tail _ (.tail _ (.head _)))))))))), Nat.le_of_ble_eq_true rfl⟩, ?_⟩)
    · repeat (first | exact trivial | refine ⟨⟨_, rfl, (by first | exact .of rfl | exact .lit rfl | exact .of (by first | (rfl)) | exact .lit (by first | (rfl))), (by first | exact trivial | exact Nat.le_of_ble_eq_true rfl | exact small1 rfl)⟩, ?_⟩)
    · repeat (first | exact trivial | refine ⟨⟨_, rfl⟩, ?_⟩)
    · repeat (first | exact trivial | refine ⟨.inl ⟨_, rfl, (by first | rfl | (rfl))⟩, ?_⟩ | refine ⟨.inr ⟨Nat.le_of_ble_eq_true rfl, rfl, rfl, rfl, rfl⟩, ?_⟩)
  rintro ⟨⟨ys, zs, c⟩, i1, i2, i3, i4, i5⟩
  simp only at i1 i2 i3 i4 i5
  refine CaseB.mk (fun g => ?_) (fun g => ?_)
  · cases zs with
    | nil => simp at g
    | cons x zs =>
      simp only [List.length_cons] at i3 i5
      have hx := i4 x (by simp)
      have hnx := nxSem_le c x hx
      unfold Sem.small20 at hx
      have hlt : ∀ y : SemH, ys.length < (ys ++ y :: zs).length := fun y => by simp
      refine stop_idxW encSemH 0 tabOk rfl rfl rfl rfl rfl ⟨rfl, rfl⟩ rfl (by first | rfl | (simp; done)) ys.length rfl (hlt _) (fun g0 hg0 => ?_)
      refine stop_fldW tabOk rfl rfl rfl rfl ⟨rfl, rfl⟩ ?_
      refine stop_storeW encSemH 0 tabOk rfl rfl rfl rfl rfl rfl rfl rfl hg0 ys.length 0 (⟨⟨((c : Nat) : Int), x.m.limit, x.m.queue⟩, x.q⟩ : SemH) rfl (hlt _) rfl [.int .i64 ((c : Nat) : Int)] (fun _ => rfl) (by simp [cSemH]) ?_
      rw [app_set]
      have hw1 : IntKind.i64.wrap (((c : Nat) : Int) + 1) = ((c + 1 : Nat) : Int) := e_succ (c) (c + 1) (by omega) (by omega)
      refine stop_eq 1 rfl (congrArg (Value.int .i64) hw1) ?_
      refine stop_idxW encSemH 0 tabOk rfl rfl rfl rfl rfl ⟨rfl, rfl⟩ rfl (by first | rfl | (simp; done)) ys.length rfl (hlt _) (fun g1 hg1 => ?_)
      refine stop_fldW tabOk rfl rfl rfl rfl ⟨rfl, rfl⟩ ?_
      refine stop_storeW encSemH 0 tabOk rfl rfl rfl rfl rfl rfl rfl rfl hg1 ys.length 1 (⟨⟨((c : Nat) : Int), ((c + 1 : Nat) : Int), x.m.queue⟩, x.q⟩ : SemH) rfl (hlt _) rfl [.int .i64 ((c + 1 : Nat) : Int)] (fun _ => by simp only [List.map_cons, List.map_nil, SV.den, hw1]) (by simp [cSemH]) ?_
      rw [app_set]
      have hw2 : IntKind.i64.wrap (((c + 1 : Nat) : Int) + 1) = ((c + 1 + 1 : Nat) : Int) := e_succ (c + 1) (c + 1 + 1) (by omega) (by omega)
      refine stop_eq 1 rfl (congrArg (Value.int .i64) hw2) ?_
      refine stop_idx encSemH (xs := ys ++ (⟨⟨((c : Nat) : Int), ((c + 1 : Nat) : Int), x.m.queue⟩, x.q⟩ : SemH) :: zs) tabOk rfl (Eq.trans rfl (congrArg (fun n => some (SV.v (h.val n))) (by simp))) rfl rfl rfl ⟨rfl, rfl⟩ (rdOwnAt 0 rfl) ys.length rfl (hlt _) (fun ad2 => ?_)
      rw [app_get]
      refine stop_shift (.splitO 1 (L := semO x) (G' := (ys ++ zs).flatMap semO) rfl (perm_out semO ys zs x)) ?_
      refine stop_callG _ [0] (G := [_]) cl153 rfl rfl rfl rfl ⟨rfl, rfl⟩ ⟨rfl, trivial⟩ ⟨rfl, rfl, trivial⟩ (fun A w hW => (markWaiterS_c _ _ (c + 1 + 1) w (hW.atG [0] (G := [_]) ⟨rfl, trivial⟩ rfl ⟨rfl, rfl, trivial⟩ [] (Fo := []) trivial rfl) (by first | omega | (simp only; omega)) (by omega))) ?_
      rintro v L ⟨rfl, rfl⟩
      have hwj := e_succ ys.length xs.length (by omega) (by omega)
      have hz : nxSem c x = c + 1 + 1 + 2 * x.m.queue.length := rfl
      generalize hzz : mkSem c x = z
      have hwj2 : IntKind.i64.wrap ((ys.length : Int) + 1) = (((ys ++ [z]).length : Nat) : Int) := by rw [hwj]; simp
      have hl0 : h.val (ys ++ x :: zs).length = h.val ((ys ++ [z]) ++ zs).length := congrArg h.val (by simp)
      have hrow : own h 95 cSemH 3 (ys ++ (⟨⟨((c : Nat) : Int), ((c + 1 : Nat) : Int), x.m.queue⟩, x.q⟩ : SemH) :: zs) = own h 95 cSemH 3 ((ys ++ [z]) ++ zs) := by
        subst hzz
        have e1 : cells cSemH (ys ++ (⟨⟨((c : Nat) : Int), ((c + 1 : Nat) : Int), x.m.queue⟩, x.q⟩ : SemH) :: zs) = cells cSemH ((ys ++ [mkSem c x]) ++ zs) := by simp [cells, cSemH, mkSem, marksWaiter_len]
        have e2 : (ys ++ (⟨⟨((c : Nat) : Int), ((c + 1 : Nat) : Int), x.m.queue⟩, x.q⟩ : SemH) :: zs).length = ((ys ++ [mkSem c x]) ++ zs).length := by simp
        rw [own_eq e1 e2]
      refine ⟨⟨(ys ++ [z], zs, nxSem c x), by rw [i1, ← hzz]; simp [mkL], by rw [i2]; rfl, by simp; omega, fun y hy => i4 y (by simp [hy]), by simp only; omega⟩, ?_, by simp⟩
      refine weak_shift (.joinO [0, 1] (Gs := [[_], _]) ⟨.inl ⟨_, rfl, .own⟩, .inl ⟨_, rfl, .o⟩, trivial⟩ rfl (G := ((ys ++ [z]) ++ zs).flatMap semO) (.trans (.of_eq (by rw [← hzz]; simp [semO, mkSem])) (perm_in semO ys zs z))) ?_
      refine weak_mk [1, 0] ?_ ?_ ?_ ?_ ?_ rfl rfl
      · repeat (first | exact trivial | refine ⟨⟨_, rfl, (by first | exact .of rfl | exact .lit rfl | exact .of (by first | ((first | exact hrow | exact congrArg SV.v hl0 | exact congrArg (fun z => SV.v (Value.int .i64 z)) hwj2 | exact congrArg (fun z => SV.v (Value.int .i64 z)) rfl))) | exact .lit (by first | ((first | exact hrow | exact congrArg SV.v hl0 | exact congrArg (fun z => SV.v (Value.int .i64 z)) hwj2 | exact congrArg (fun z => SV.v (Value.int .i64 z)) rfl)))), (by first | exact trivial | exact Nat.le_of_ble_eq_true rfl | exact small1 rfl)⟩, ?_⟩)
      · repeat (first | exact trivial | refine ⟨⟨(by first | exact .head _ | exact .tail _ (.head _) | exact .tail _ (.tail _ (.head _)) | exact .tail _ (.tail _ (.tail _ (.head _))) | exact .tail _ (.tail _ (.tail _ (.tail _ (.head _)))) | exact .tail _ (.tail _ (.tail _ (.tail _ (.tail _ (.head _))))) | exact .tail _ (.tail _ (.tail _ (.tail _ (.tail _ (.tail _ (.head _)))))) | exact .tail _ (.tail _ (.tail _ (.tail _ (.tail _ (.tail _ (.tail _ (.head _))))))) | exact .tail _ (.tail _ (.tail _ (.tail _ (.tail _ (.tail _ (.tail _ (.tail _ (.head _)))))))) | exact .tail _ (.tail _ (.tail _ (.tail _ (.tail _ (.tail _ (.tail _ (.tail _ (.tail _ (.head _)))))))))), Nat.le_of_ble_eq_true rfl⟩, ?_⟩)
      · repeat (first | exact trivial | refine ⟨⟨_, rfl, (by first | exact .of rfl | exact .lit rfl | exact .of (by first | ((first | exact hrow | exact congrArg SV.v hl0 | exact congrArg (fun z => SV.v (Value.int .i64 z)) hwj2 | exact congrArg (fun z => SV.v (Value.int .i64 z)) rfl))) | exact .lit (by first | ((first | exact hrow | exact congrArg SV.v hl0 | exact congrArg (fun z => SV.v (Value.int .i64 z)) hwj2 | exact congrArg (fun z => SV.v (Value.int .i64 z)) rfl)))), (by first | exact trivial | exact Nat.le_of_ble_eq_true rfl | exact small1 rfl)⟩, ?_⟩)
      · repeat (first | exact trivial | refine ⟨⟨_, rfl⟩, ?_⟩)
      · repeat (first | exact trivial | refine ⟨.inl ⟨_, rfl, (by first | rfl | ((first | exact hrow | exact congrArg SV.v hl0 | exact congrArg (fun z => SV.v (Value.int .i64 z)) hwj2 | exact congrArg (fun z => SV.v (Value.int .i64 z)) rfl)))⟩, ?_⟩ | refine ⟨.inr ⟨Nat.le_of_ble_eq_true rfl, rfl, rfl, rfl, rfl⟩, ?_⟩)
  · cases zs with
    | nil =>
      simp only [mkL, List.append_nil] at i1
      simp only [nxL] at i2
      have hyl : ys.length = xs.length := by simpa using i3
      simp only [List.append_nil]
      refine retG_shift (.joinO [0, 1] (Gs := [[_], _]) ⟨.inl ⟨_, rfl, .own⟩, .inl ⟨_, rfl, .o⟩, trivial⟩ rfl (G := semsO h ys) (.of_eq (by simp [semsO, nestO]))) ?_
      exact retG [0] (L := [fO (semsO h ys)]) ⟨congrArg (fun z : Nat => Value.int .i64 (z : Int)) i2.symm, by rw [i1]⟩ ⟨.inl ⟨_, rfl, rfl⟩, trivial⟩ rfl ⟨rfl, trivial⟩ (fun _ => rfl)
    | cons x zs => simp at g; omega

end Go.Proofs.YtklclbcckjhdpaaGreat

namespace Go.Proofs.YtklclbcckjhdpaaGreat

open Go Go.Sx Go.RowKit

def mkOnce (c : Nat) (x : OnceH) : OnceH := ⟨⟨((c : Nat) : Int), ((c + 1 : Nat) : Int), ((c + 1 + 1 : Nat) : Int), marks (c + 1 + 1 + 1) x.m.waits.length⟩, x.q⟩

def nxOnce (c : Nat) (x : OnceH) : Nat := c + 1 + 1 + 1 + x.m.waits.length

theorem nxOnce_le (c : Nat) (x : OnceH) (h : Once.small20 x.m) : nxOnce c x ≤ c + 8388608 := by
  unfold Once.small20 at h
  unfold nxOnce
  omega

set_option maxHeartbeats 16000000 in
set_option maxRecDepth 100000 in
theorem markOnceS_c (h : Sl) (xs : List OnceH) (k : Nat) (w : World) (hh : AtG w [fO (oncesO h xs)] []) (hl : xs.length ≤ 1048576) (hb : ∀ x ∈ xs, Once.small20 x.m) (hk : k ≤ 144115188075855872) :
    Calls Tryz.prog 85 #[h.val xs.length, .int .i64 (k : Int)] w (RetG w [fO (oncesO h xs)] fun v L => v = .int .i64 ((nxL nxOnce k xs : Nat) : Int) ∧ L = [fO (oncesO h (mkL mkOnce nxOnce k xs))]) := by
  refine callsG_fn Tryz.func85 rfl tabOk w _ rfl _ rfl _ _ hh trivial _ _ rfl rfl ?_
  refine LoopW.mk ⟨{ p : List OnceH × List OnceH × Nat // mkL mkOnce nxOnce k xs = p.1 ++ mkL mkOnce nxOnce p.2.2 p.2.1 ∧ nxL nxOnce k xs = nxL nxOnce p.2.2 p.2.1 ∧ p.1.length + p.2.1.length = xs.length ∧ (∀ x ∈ p.2.1, Once.small20 x.m) ∧ p.2.2 + p.2.1.length * 8388608 ≤ 288230376151711744 },
    fun p => .mk [(0, .v (h.val (p.1.1 ++ p.1.2.1).length)), (1, .v (.int .i64 (p.1.2.2 : Int))), (5, .v (.int .i64 (p.1.1.length : Int)))] 0 0 [] [] [own h 102 cOnceH 4 (p.1.1 ++ p.1.2.1), fO ((p.1.1 ++ p.1.2.1).flatMap onceO)],
    fun p => p.1.2.1.length, ⟨([], xs, k), by simp, rfl, by simp, hb, by simp only; omega⟩, ?_, ?_⟩
  · refine weak_shift (.splitO 0 (L := [own h 102 cOnceH 4 xs]) (G' := xs.flatMap onceO) rfl (.of_eq rfl)) ?_
    refine weak_mk [0, 1] ?_ ?_ ?_ ?_ ?_ rfl rfl
    · repeat (first | exact trivial | refine ⟨⟨_, rfl, (by first | exact .of rfl | exact .lit rfl | exact .of (by first | (rfl)) | exact .lit (by first | (rfl))), (by first | exact trivial | exact Nat.le_of_ble_eq_true rfl | exact small1 rfl)⟩, ?_⟩)
    · repeat (first | exact trivial | refine ⟨⟨(by first | exact .head _ | exact .tail _ (.head _) | exact .tail _ (.tail _ (.head _)) | exact .tail _ (.tail _ (.tail _ (.head _))) | exact .tail _ (.tail _ (.tail _ (.tail _ (.head _)))) | exact .tail _ (.tail _ (.tail _ (.tail _ (.tail _ (.head _))))) | exact .tail _ (.tail _ (.tail _ (.tail _ (.tail _ (.tail _ (.head _)))))) | exact .tail _ (.tail _ (.tail _ (.tail _ (.tail _ (.tail _ (.tail _ (.head _))))))) | exact .tail _ (.tail _ (.tail _ (.tail _ (.tail _ (.tail _ (.tail _ (.tail _ (.head _)))))))) | exact .tail _ (.tail _ (.tail _ (.tail _ (.tail _ (.tail _ (.tail _ (.tail _ (.tail _ (.head _)))))))))), Nat.le_of_ble_eq_true rfl⟩, ?_⟩)
    · repeat (first | exact trivial | refine ⟨⟨_, rfl, (by first | exact .of rfl | exact .lit rfl | exact .of (by first | (rfl)) | exact .lit (by first | (rfl))), (by first | exact trivial | exact Nat.le_of_ble_eq_true rfl | exact small1 rfl)⟩, ?_⟩)
    · repeat (first | exact trivial | refine ⟨⟨_, rfl⟩, ?_⟩)
    · repeat (first | exact trivial | refine ⟨.inl ⟨_, rfl, (by first | rfl | (rfl))⟩, ?_⟩ | refine ⟨.inr ⟨Nat.le_of_ble_eq_true rfl, rfl, rfl, rfl, rfl⟩, ?_⟩)
  rintro ⟨⟨ys, zs, c⟩, i1, i2, i3, i4, i5⟩
  simp only at i1 i2 i3 i4 i5
  refine CaseB.mk (fun g => ?_) (fun g => ?_)
  · cases zs with
    | nil => simp at g
    | cons x zs =>
      simp only [List.length_cons] at i3 i5
      have hx := i4 x (by simp)
      have hnx := nxOnce_le c x hx
      unfold Once.small20 at hx
      have hlt : ∀ y : OnceH, ys.length < (ys ++ y :: zs).length := fun y => by simp
      refine stop_idxW encOnceH 0 tabOk rfl rfl rfl rfl rfl ⟨rfl, rfl⟩ rfl (by first | rfl | (simp; done)) ys.length rfl (hlt _) (fun g0 hg0 => ?_)
      refine stop_fldW tabOk rfl rfl rfl rfl ⟨rfl, rfl⟩ ?_
      refine stop_storeW encOnceH 0 tabOk rfl rfl rfl rfl rfl rfl rfl rfl hg0 ys.length 0 (⟨⟨((c : Nat) : Int), x.m.owner, x.m.value, x.m.waits⟩, x.q⟩ : OnceH) rfl (hlt _) rfl [.int .i64 ((c : Nat) : Int)] (fun _ => rfl) (by simp [cOnceH]) ?_
      rw [app_set]
      have hw1 : IntKind.i64.wrap (((c : Nat) : Int) + 1) = ((c + 1 : Nat) : Int) := e_succ (c) (c + 1) (by omega) (by omega)
      refine stop_eq 1 rfl (congrArg (Value.int .i64) hw1) ?_
      refine stop_idxW encOnceH 0 tabOk rfl rfl rfl rfl rfl ⟨rfl, rfl⟩ rfl (by first | rfl | (simp; done)) ys.length rfl (hlt _) (fun g1 hg1 => ?_)
      refine stop_fldW tabOk rfl rfl rfl rfl ⟨rfl, rfl⟩ ?_
      refine stop_storeW encOnceH 0 tabOk rfl rfl rfl rfl rfl rfl rfl rfl hg1 ys.length 1 (⟨⟨((c : Nat) : Int), ((c + 1 : Nat) : Int), x.m.value, x.m.waits⟩, x.q⟩ : OnceH) rfl (hlt _) rfl [.int .i64 ((c + 1 : Nat) : Int)] (fun _ => by simp only [List.map_cons, List.map_nil, SV.den, hw1]) (by simp [cOnceH]) ?_
      rw [app_set]
      have hw2 : IntKind.i64.wrap (((c + 1 : Nat) : Int) + 1) = ((c + 1 + 1 : Nat) : Int) := e_succ (c + 1) (c + 1 + 1) (by omega) (by omega)
      refine stop_eq 1 rfl (congrArg (Value.int .i64) hw2) ?_
      refine stop_idxW encOnceH 0 tabOk rfl rfl rfl rfl rfl ⟨rfl, rfl⟩ rfl (by first | rfl | (simp; done)) ys.length rfl (hlt _) (fun g2 hg2 => ?_)
      refine stop_fldW tabOk rfl rfl rfl rfl ⟨rfl, rfl⟩ ?_
      refine stop_storeW encOnceH 0 tabOk rfl rfl rfl rfl rfl rfl rfl rfl hg2 ys.length 2 (⟨⟨((c : Nat) : Int), ((c + 1 : Nat) : Int), ((c + 1 + 1 : Nat) : Int), x.m.waits⟩, x.q⟩ : OnceH) rfl (hlt _) rfl [.int .i64 ((c + 1 + 1 : Nat) : Int)] (fun _ => by simp only [List.map_cons, List.map_nil, SV.den, hw2]) (by simp [cOnceH]) ?_
      rw [app_set]
      have hw3 : IntKind.i64.wrap (((c + 1 + 1 : Nat) : Int) + 1) = ((c + 1 + 1 + 1 : Nat) : Int) := e_succ (c + 1 + 1) (c + 1 + 1 + 1) (by omega) (by omega)
      refine stop_eq 1 rfl (congrArg (Value.int .i64) hw3) ?_
      refine stop_idx encOnceH (xs := ys ++ (⟨⟨((c : Nat) : Int), ((c + 1 : Nat) : Int), ((c + 1 + 1 : Nat) : Int), x.m.waits⟩, x.q⟩ : OnceH) :: zs) tabOk rfl (Eq.trans rfl (congrArg (fun n => some (SV.v (h.val n))) (by simp))) rfl rfl rfl ⟨rfl, rfl⟩ (rdOwnAt 0 rfl) ys.length rfl (hlt _) (fun ad3 => ?_)
      rw [app_get]
      refine stop_shift (.splitO 1 (L := onceO x) (G' := (ys ++ zs).flatMap onceO) rfl (perm_out onceO ys zs x)) ?_
      refine stop_callG _ [0] (G := [_]) cl37 rfl rfl rfl rfl ⟨rfl, rfl⟩ ⟨rfl, trivial⟩ ⟨rfl, rfl, trivial⟩ (fun A w hW => (markIntS_c _ _ (c + 1 + 1 + 1) w (hW.atG [0] (G := [_]) ⟨rfl, trivial⟩ rfl ⟨rfl, rfl, trivial⟩ [] (Fo := []) trivial rfl) (by first | omega | (simp only; omega)) (by omega))) ?_
      rintro v L ⟨rfl, rfl⟩
      have hwj := e_succ ys.length xs.length (by omega) (by omega)
      have hz : nxOnce c x = c + 1 + 1 + 1 + x.m.waits.length := rfl
      generalize hzz : mkOnce c x = z
      have hwj2 : IntKind.i64.wrap ((ys.length : Int) + 1) = (((ys ++ [z]).length : Nat) : Int) := by rw [hwj]; simp
      have hl0 : h.val (ys ++ x :: zs).length = h.val ((ys ++ [z]) ++ zs).length := congrArg h.val (by simp)
      have hrow : own h 102 cOnceH 4 (ys ++ (⟨⟨((c : Nat) : Int), ((c + 1 : Nat) : Int), ((c + 1 + 1 : Nat) : Int), x.m.waits⟩, x.q⟩ : OnceH) :: zs) = own h 102 cOnceH 4 ((ys ++ [z]) ++ zs) := by
        subst hzz
        have e1 : cells cOnceH (ys ++ (⟨⟨((c : Nat) : Int), ((c + 1 : Nat) : Int), ((c + 1 + 1 : Nat) : Int), x.m.waits⟩, x.q⟩ : OnceH) :: zs) = cells cOnceH ((ys ++ [mkOnce c x]) ++ zs) := by simp [cells, cOnceH, mkOnce, marks_len]
        have e2 : (ys ++ (⟨⟨((c : Nat) : Int), ((c + 1 : Nat) : Int), ((c + 1 + 1 : Nat) : Int), x.m.waits⟩, x.q⟩ : OnceH) :: zs).length = ((ys ++ [mkOnce c x]) ++ zs).length := by simp
        rw [own_eq e1 e2]
      refine ⟨⟨(ys ++ [z], zs, nxOnce c x), by rw [i1, ← hzz]; simp [mkL], by rw [i2]; rfl, by simp; omega, fun y hy => i4 y (by simp [hy]), by simp only; omega⟩, ?_, by simp⟩
      refine weak_shift (.joinO [0, 1] (Gs := [[_], _]) ⟨.inl ⟨_, rfl, .own⟩, .inl ⟨_, rfl, .o⟩, trivial⟩ rfl (G := ((ys ++ [z]) ++ zs).flatMap onceO) (.trans (.of_eq (by rw [← hzz]; simp [onceO, mkOnce])) (perm_in onceO ys zs z))) ?_
      refine weak_mk [1, 0] ?_ ?_ ?_ ?_ ?_ rfl rfl
      · repeat (first | exact trivial | refine ⟨⟨_, rfl, (by first | exact .of rfl | exact .lit rfl | exact .of (by first | ((first | exact hrow | exact congrArg SV.v hl0 | exact congrArg (fun z => SV.v (Value.int .i64 z)) hwj2 | exact congrArg (fun z => SV.v (Value.int .i64 z)) rfl))) | exact .lit (by first | ((first | exact hrow | exact congrArg SV.v hl0 | exact congrArg (fun z => SV.v (Value.int .i64 z)) hwj2 | exact congrArg (fun z => SV.v (Value.int .i64 z)) rfl)))), (by first | exact trivial | exact Nat.le_of_ble_eq_true rfl | exact small1 rfl)⟩, ?_⟩)
      · repeat (first | exact trivial | refine ⟨⟨(by first | exact .head _ | exact .tail _ (.head _) | exact .tail _ (.tail _ (.head _)) | exact .tail _ (.tail _ (.tail _ (.head _))) | exact .tail _ (.tail _ (.tail _ (.tail _ (.head _)))) | exact .tail _ (.tail _ (.tail _ (.tail _ (.tail _ (.head _))))) | exact .tail _ (.tail _ (.tail _ (.tail _ (.tail _ (.tail _ (.head _)))))) | exact .tail _ (.tail _ (.tail _ (.tail _ (.tail _ (.tail _ (.tail _ (.head _))))))) | exact .tail _ (.tail _ (.tail _ (.tail _ (.tail _ (.tail _ (.tail _ (.tail _ (.head _)))))))) | exact .tail _ (.tail _ (.tail _ (.tail _ (.tail _ (.tail _ (.tail _ (.tail _ (.tail _ (.head _)))))))))), Nat.le_of_ble_eq_true rfl⟩, ?_⟩)
      · repeat (first | exact trivial | refine ⟨⟨_, rfl, (by first | exact .of rfl | exact .lit rfl | exact .of (by first | ((first | exact hrow | exact congrArg SV.v hl0 | exact congrArg (fun z => SV.v (Value.int .i64 z)) hwj2 | exact congrArg (fun z => SV.v (Value.int .i64 z)) rfl))) | exact .lit (by first | ((first | exact hrow | exact congrArg SV.v hl0 | exact congrArg (fun z => SV.v (Value.int .i64 z)) hwj2 | exact congrArg (fun z => SV.v (Value.int .i64 z)) rfl)))), (by first | exact trivial | exact Nat.le_of_ble_eq_true rfl | exact small1 rfl)⟩, ?_⟩)
      · repeat (first | exact trivial | refine ⟨⟨_, rfl⟩, ?_⟩)
      · repeat (first | exact trivial | refine ⟨.inl ⟨_, rfl, (by first | rfl | ((first | exact hrow | exact congrArg SV.v hl0 | exact congrArg (fun z => SV.v (Value.int .i64 z)) hwj2 | exact congrArg (fun z => SV.v (Value.int .i64 z)) rfl)))⟩, ?_⟩ | refine ⟨.inr ⟨Nat.le_of_ble_eq_true rfl, rfl, rfl, rfl, rfl⟩, ?_⟩)
  · cases zs with
    | nil =>
      simp only [mkL, List.append_nil] at i1
      simp only [nxL] at i2
      have hyl : ys.length = xs.length := by simpa using i3
      simp only [List.append_nil]
      refine retG_shift (.joinO [0, 1] (Gs := [[_], _]) ⟨.inl ⟨_, rfl, .own⟩, .inl ⟨_, rfl, .o⟩, trivial⟩ rfl (G := oncesO h ys) (.of_eq (by simp [oncesO, nestO]))) ?_
      exact retG [0] (L := [fO (oncesO h ys)]) ⟨congrArg (fun z : Nat => Value.int .i64 (z : Int)) i2.symm, by rw [i1]⟩ ⟨.inl ⟨_, rfl, rfl⟩, trivial⟩ rfl ⟨rfl, trivial⟩ (fun _ => rfl)
    | cons x zs => simp at g; omega

end Go.Proofs.YtklclbcckjhdpaaGreat

namespace Go.Proofs.YtklclbcckjhdpaaGreat

open Go Go.Sx Go.RowKit

def mkGroup (c : Nat) (x : GroupH) : GroupH := ⟨⟨((c : Nat) : Int), marks (c + 1) x.m.waits.length⟩, x.q⟩

def nxGroup (c : Nat) (x : GroupH) : Nat := c + 1 + x.m.waits.length

theorem nxGroup_le (c : Nat) (x : GroupH) (h : Group.small20 x.m) : nxGroup c x ≤ c + 8388608 := by
  unfold Group.small20 at h
  unfold nxGroup
  omega

set_option maxHeartbeats 16000000 in
set_option maxRecDepth 100000 in
theorem markGroupS_c (h : Sl) (xs : List GroupH) (k : Nat) (w : World) (hh : AtG w [fO (groupsO h xs)] []) (hl : xs.length ≤ 1048576) (hb : ∀ x ∈ xs, Group.small20 x.m) (hk : k ≤ 144115188075855872) :
    Calls Tryz.prog 86 #[h.val xs.length, .int .i64 (k : Int)] w (RetG w [fO (groupsO h xs)] fun v L => v = .int .i64 ((nxL nxGroup k xs : Nat) : Int) ∧ L = [fO (groupsO h (mkL mkGroup nxGroup k xs))]) := by
  refine callsG_fn Tryz.func86 rfl tabOk w _ rfl _ rfl _ _ hh trivial _ _ rfl rfl ?_
  refine LoopW.mk ⟨{ p : List GroupH × List GroupH × Nat // mkL mkGroup nxGroup k xs = p.1 ++ mkL mkGroup nxGroup p.2.2 p.2.1 ∧ nxL nxGroup k xs = nxL nxGroup p.2.2 p.2.1 ∧ p.1.length + p.2.1.length = xs.length ∧ (∀ x ∈ p.2.1, Group.small20 x.m) ∧ p.2.2 + p.2.1.length * 8388608 ≤ 288230376151711744 },
    fun p => .mk [(0, .v (h.val (p.1.1 ++ p.1.2.1).length)), (1, .v (.int .i64 (p.1.2.2 : Int))), (5, .v (.int .i64 (p.1.1.length : Int)))] 0 0 [] [] [own h 108 cGroupH 2 (p.1.1 ++ p.1.2.1), fO ((p.1.1 ++ p.1.2.1).flatMap groupO)],
    fun p => p.1.2.1.length, ⟨([], xs, k), by simp, rfl, by simp, hb, by simp only; omega⟩, ?_, ?_⟩
  · refine weak_shift (.splitO 0 (L := [own h 108 cGroupH 2 xs]) (G' := xs.flatMap groupO) rfl (.of_eq rfl)) ?_
    refine weak_mk [0, 1] ?_ ?_ ?_ ?_ ?_ rfl rfl
    · repeat (first | exact trivial | refine ⟨⟨_, rfl, (by first | exact .of rfl | exact .lit rfl | exact .of (by first | (rfl)) | exact .lit (by first | (rfl))), (by first | exact trivial | exact Nat.le_of_ble_eq_true rfl | exact small1 rfl)⟩, ?_⟩)
    · repeat (first | exact trivial | refine ⟨⟨(by first | exact .head _ | exact .tail _ (.head _) | exact .tail _ (.tail _ (.head _)) | exact .tail _ (.tail _ (.tail _ (.head _))) | exact .tail _ (.tail _ (.tail _ (.tail _ (.head _)))) | exact .tail _ (.tail _ (.tail _ (.tail _ (.tail _ (.head _))))) | exact .tail _ (.tail _ (.tail _ (.tail _ (.tail _ (.tail _ (.head _)))))) | exact .tail _ (.tail _ (.tail _ (.tail _ (.tail _ (.tail _ (.tail _ (.head _))))))) | exact .tail _ (.tail _ (.tail _ (.tail _ (.tail _ (.tail _ (.tail _ (.tail _ (.head _)))))))) | exact .tail _ (.tail _ (.tail _ (.tail _ (.tail _ (.tail _ (.tail _ (.tail _ (.tail _ (.head _)))))))))), Nat.le_of_ble_eq_true rfl⟩, ?_⟩)
    · repeat (first | exact trivial | refine ⟨⟨_, rfl, (by first | exact .of rfl | exact .lit rfl | exact .of (by first | (rfl)) | exact .lit (by first | (rfl))), (by first | exact trivial | exact Nat.le_of_ble_eq_true rfl | exact small1 rfl)⟩, ?_⟩)
    · repeat (first | exact trivial | refine ⟨⟨_, rfl⟩, ?_⟩)
    · repeat (first | exact trivial | refine ⟨.inl ⟨_, rfl, (by first | rfl | (rfl))⟩, ?_⟩ | refine ⟨.inr ⟨Nat.le_of_ble_eq_true rfl, rfl, rfl, rfl, rfl⟩, ?_⟩)
  rintro ⟨⟨ys, zs, c⟩, i1, i2, i3, i4, i5⟩
  simp only at i1 i2 i3 i4 i5
  refine CaseB.mk (fun g => ?_) (fun g => ?_)
  · cases zs with
    | nil => simp at g
    | cons x zs =>
      simp only [List.length_cons] at i3 i5
      have hx := i4 x (by simp)
      have hnx := nxGroup_le c x hx
      unfold Group.small20 at hx
      have hlt : ∀ y : GroupH, ys.length < (ys ++ y :: zs).length := fun y => by simp
      refine stop_idxW encGroupH 0 tabOk rfl rfl rfl rfl rfl ⟨rfl, rfl⟩ rfl (by first | rfl | (simp; done)) ys.length rfl (hlt _) (fun g0 hg0 => ?_)
      refine stop_fldW tabOk rfl rfl rfl rfl ⟨rfl, rfl⟩ ?_
      refine stop_storeW encGroupH 0 tabOk rfl rfl rfl rfl rfl rfl rfl rfl hg0 ys.length 0 (⟨⟨((c : Nat) : Int), x.m.waits⟩, x.q⟩ : GroupH) rfl (hlt _) rfl [.int .i64 ((c : Nat) : Int)] (fun _ => rfl) (by simp [cGroupH]) ?_
      rw [app_set]
      have hw1 : IntKind.i64.wrap (((c : Nat) : Int) + 1) = ((c + 1 : Nat) : Int) := e_succ (c) (c + 1) (by omega) (by omega)
      refine stop_eq 1 rfl (congrArg (Value.int .i64) hw1) ?_
      refine stop_idx encGroupH (xs := ys ++ (⟨⟨((c : Nat) : Int), x.m.waits⟩, x.q⟩ : GroupH) :: zs) tabOk rfl (Eq.trans rfl (congrArg (fun n => some (SV.v (h.val n))) (by simp))) rfl rfl rfl ⟨rfl, rfl⟩ (rdOwnAt 0 rfl) ys.length rfl (hlt _) (fun ad1 => ?_)
      rw [app_get]
      refine stop_shift (.splitO 1 (L := groupO x) (G' := (ys ++ zs).flatMap groupO) rfl (perm_out groupO ys zs x)) ?_
      refine stop_callG _ [0] (G := [_]) cl37 rfl rfl rfl rfl ⟨rfl, rfl⟩ ⟨rfl, trivial⟩ ⟨rfl, rfl, trivial⟩ (fun A w hW => (markIntS_c _ _ (c + 1) w (hW.atG [0] (G := [_]) ⟨rfl, trivial⟩ rfl ⟨rfl, rfl, trivial⟩ [] (Fo := []) trivial rfl) (by first | omega | (simp only; omega)) (by omega))) ?_
      rintro v L ⟨rfl, rfl⟩
      have hwj := e_succ ys.length xs.length (by omega) (by omega)
      have hz : nxGroup c x = c + 1 + x.m.waits.length := rfl
      generalize hzz : mkGroup c x = z
      have hwj2 : IntKind.i64.wrap ((ys.length : Int) + 1) = (((ys ++ [z]).length : Nat) : Int) := by rw [hwj]; simp
      have hl0 : h.val (ys ++ x :: zs).length = h.val ((ys ++ [z]) ++ zs).length := congrArg h.val (by simp)
      have hrow : own h 108 cGroupH 2 (ys ++ (⟨⟨((c : Nat) : Int), x.m.waits⟩, x.q⟩ : GroupH) :: zs) = own h 108 cGroupH 2 ((ys ++ [z]) ++ zs) := by
        subst hzz
        have e1 : cells cGroupH (ys ++ (⟨⟨((c : Nat) : Int), x.m.waits⟩, x.q⟩ : GroupH) :: zs) = cells cGroupH ((ys ++ [mkGroup c x]) ++ zs) := by simp [cells, cGroupH, mkGroup, marks_len]
        have e2 : (ys ++ (⟨⟨((c : Nat) : Int), x.m.waits⟩, x.q⟩ : GroupH) :: zs).length = ((ys ++ [mkGroup c x]) ++ zs).length := by simp
        rw [own_eq e1 e2]
      refine ⟨⟨(ys ++ [z], zs, nxGroup c x), by rw [i1, ← hzz]; simp [mkL], by rw [i2]; rfl, by simp; omega, fun y hy => i4 y (by simp [hy]), by simp only; omega⟩, ?_, by simp⟩
      refine weak_shift (.joinO [0, 1] (Gs := [[_], _]) ⟨.inl ⟨_, rfl, .own⟩, .inl ⟨_, rfl, .o⟩, trivial⟩ rfl (G := ((ys ++ [z]) ++ zs).flatMap groupO) (.trans (.of_eq (by rw [← hzz]; simp [groupO, mkGroup])) (perm_in groupO ys zs z))) ?_
      refine weak_mk [1, 0] ?_ ?_ ?_ ?_ ?_ rfl rfl
      · repeat (first | exact trivial | refine ⟨⟨_, rfl, (by first | exact .of rfl | exact .lit rfl | exact .of (by first | ((first | exact hrow | exact congrArg SV.v hl0 | exact congrArg (fun z => SV.v (Value.int .i64 z)) hwj2 | exact congrArg (fun z => SV.v (Value.int .i64 z)) rfl))) | exact .lit (by first | ((first | exact hrow | exact congrArg SV.v hl0 | exact congrArg (fun z => SV.v (Value.int .i64 z)) hwj2 | exact congrArg (fun z => SV.v (Value.int .i64 z)) rfl)))), (by first | exact trivial | exact Nat.le_of_ble_eq_true rfl | exact small1 rfl)⟩, ?_⟩)
      · repeat (first | exact trivial | refine ⟨⟨(by first | exact .head _ | exact .tail _ (.head _) | exact .tail _ (.tail _ (.head _)) | exact .tail _ (.tail _ (.tail _ (.head _))) | exact .tail _ (.tail _ (.tail _ (.tail _ (.head _)))) | exact .tail _ (.tail _ (.tail _ (.tail _ (.tail _ (.head _))))) | exact .tail _ (.tail _ (.tail _ (.tail _ (.tail _ (.tail _ (.head _)))))) | exact .tail _ (.tail _ (.tail _ (.tail _ (.tail _ (.tail _ (.tail _ (.head _))))))) | exact .tail _ (.tail _ (.tail _ (.tail _ (.tail _ (.tail _ (.tail _ (.tail _ (.head _)))))))) | exact .tail _ (.tail _ (.tail _ (.tail _ (.tail _ (.tail _ (.tail _ (.tail _ (.tail _ (.head _)))))))))), Nat.le_of_ble_eq_true rfl⟩, ?_⟩)
      · repeat (first | exact trivial | refine ⟨⟨_, rfl, (by first | exact .of rfl | exact .lit rfl | exact .of (by first | ((first | exact hrow | exact congrArg SV.v hl0 | exact congrArg (fun z => SV.v (Value.int .i64 z)) hwj2 | exact congrArg (fun z => SV.v (Value.int .i64 z)) rfl))) | exact .lit (by first | ((first | exact hrow | exact congrArg SV.v hl0 | exact congrArg (fun z => SV.v (Value.int .i64 z)) hwj2 | exact congrArg (fun z => SV.v (Value.int .i64 z)) rfl)))), (by first | exact trivial | exact Nat.le_of_ble_eq_true rfl | exact small1 rfl)⟩, ?_⟩)
      · repeat (first | exact trivial | refine ⟨⟨_, rfl⟩, ?_⟩)
      · repeat (first | exact trivial | refine ⟨.inl ⟨_, rfl, (by first | rfl | ((first | exact hrow | exact congrArg SV.v hl0 | exact congrArg (fun z => SV.v (Value.int .i64 z)) hwj2 | exact congrArg (fun z => SV.v (Value.int .i64 z)) rfl)))⟩, ?_⟩ | refine ⟨.inr ⟨Nat.le_of_ble_eq_true rfl, rfl, rfl, rfl, rfl⟩, ?_⟩)
  · cases zs with
    | nil =>
      simp only [mkL, List.append_nil] at i1
      simp only [nxL] at i2
      have hyl : ys.length = xs.length := by simpa using i3
      simp only [List.append_nil]
      refine retG_shift (.joinO [0, 1] (Gs := [[_], _]) ⟨.inl ⟨_, rfl, .own⟩, .inl ⟨_, rfl, .o⟩, trivial⟩ rfl (G := groupsO h ys) (.of_eq (by simp [groupsO, nestO]))) ?_
      exact retG [0] (L := [fO (groupsO h ys)]) ⟨congrArg (fun z : Nat => Value.int .i64 (z : Int)) i2.symm, by rw [i1]⟩ ⟨.inl ⟨_, rfl, rfl⟩, trivial⟩ rfl ⟨rfl, trivial⟩ (fun _ => rfl)
    | cons x zs => simp at g; omega

end Go.Proofs.YtklclbcckjhdpaaGreat

namespace Go.Proofs.YtklclbcckjhdpaaGreat

open Go Go.Sx Go.RowKit

def mkBarrier (c : Nat) (x : BarrierH) : BarrierH := ⟨⟨((c : Nat) : Int), ((c + 1 : Nat) : Int), marks (c + 1 + 1) x.m.waits.length⟩, x.q⟩

def nxBarrier (c : Nat) (x : BarrierH) : Nat := c + 1 + 1 + x.m.waits.length

theorem nxBarrier_le (c : Nat) (x : BarrierH) (h : Barrier.small20 x.m) : nxBarrier c x ≤ c + 8388608 := by
  unfold Barrier.small20 at h
  unfold nxBarrier
  omega

set_option maxHeartbeats 16000000 in
set_option maxRecDepth 100000 in
theorem markBarrierS_c (h : Sl) (xs : List BarrierH) (k : Nat) (w : World) (hh : AtG w [fO (barriersO h xs)] []) (hl : xs.length ≤ 1048576) (hb : ∀ x ∈ xs, Barrier.small20 x.m) (hk : k ≤ 144115188075855872) :
    Calls Tryz.prog 87 #[h.val xs.length, .int .i64 (k : Int)] w (RetG w [fO (barriersO h xs)] fun v L => v = .int .i64 ((nxL nxBarrier k xs : Nat) : Int) ∧ L = [fO (barriersO h (mkL mkBarrier nxBarrier k xs))]) := by
  refine callsG_fn Tryz.func87 rfl tabOk w _ rfl _ rfl _ _ hh trivial _ _ rfl rfl ?_
  refine LoopW.mk ⟨{ p : List BarrierH × List BarrierH × Nat // mkL mkBarrier nxBarrier k xs = p.1 ++ mkL mkBarrier nxBarrier p.2.2 p.2.1 ∧ nxL nxBarrier k xs = nxL nxBarrier p.2.2 p.2.1 ∧ p.1.length + p.2.1.length = xs.length ∧ (∀ x ∈ p.2.1, Barrier.small20 x.m) ∧ p.2.2 + p.2.1.length * 8388608 ≤ 288230376151711744 },
    fun p => .mk [(0, .v (h.val (p.1.1 ++ p.1.2.1).length)), (1, .v (.int .i64 (p.1.2.2 : Int))), (5, .v (.int .i64 (p.1.1.length : Int)))] 0 0 [] [] [own h 114 cBarrierH 3 (p.1.1 ++ p.1.2.1), fO ((p.1.1 ++ p.1.2.1).flatMap barrierO)],
    fun p => p.1.2.1.length, ⟨([], xs, k), by simp, rfl, by simp, hb, by simp only; omega⟩, ?_, ?_⟩
  · refine weak_shift (.splitO 0 (L := [own h 114 cBarrierH 3 xs]) (G' := xs.flatMap barrierO) rfl (.of_eq rfl)) ?_
    refine weak_mk [0, 1] ?_ ?_ ?_ ?_ ?_ rfl rfl
    · repeat (first | exact trivial | refine ⟨⟨_, rfl, (by first | exact .of rfl | exact .lit rfl | exact .of (by first | (rfl)) | exact .lit (by first | (rfl))), (by first | exact trivial | exact Nat.le_of_ble_eq_true rfl | exact small1 rfl)⟩, ?_⟩)
    · repeat (first | exact trivial | refine ⟨⟨(by first | exact .head _ | exact .tail _ (.head _) | exact .tail _ (.tail _ (.head _)) | exact .tail _ (.tail _ (.tail _ (.head _))) | exact .tail _ (.tail _ (.tail _ (.tail _ (.head _)))) | exact .tail _ (.tail _ (.tail _ (.tail _ (.tail _ (.head _))))) | exact .tail _ (.tail _ (.tail _ (.tail _ (.tail _ (.tail _ (.head _)))))) | exact .tail _ (.tail _ (.tail _ (.tail _ (.tail _ (.tail _ (.tail _ (.head _))))))) | exact .tail _ (.tail _ (.tail _ (.tail _ (.tail _ (.tail _ (.tail _ (.tail _ (.head _)))))))) | exact .tail _ (.tail _ (.tail _ (.tail _ (.tail _ (.tail _ (.tail _ (.tail _ (.tail _ (.head _)))))))))), Nat.le_of_ble_eq_true rfl⟩, ?_⟩)
    · repeat (first | exact trivial | refine ⟨⟨_, rfl, (by first | exact .of rfl | exact .lit rfl | exact .of (by first | (rfl)) | exact .lit (by first | (rfl))), (by first | exact trivial | exact Nat.le_of_ble_eq_true rfl | exact small1 rfl)⟩, ?_⟩)
    · repeat (first | exact trivial | refine ⟨⟨_, rfl⟩, ?_⟩)
    · repeat (first | exact trivial | refine ⟨.inl ⟨_, rfl, (by first | rfl | (rfl))⟩, ?_⟩ | refine ⟨.inr ⟨Nat.le_of_ble_eq_true rfl, rfl, rfl, rfl, rfl⟩, ?_⟩)
  rintro ⟨⟨ys, zs, c⟩, i1, i2, i3, i4, i5⟩
  simp only at i1 i2 i3 i4 i5
  refine CaseB.mk (fun g => ?_) (fun g => ?_)
  · cases zs with
    | nil => simp at g
    | cons x zs =>
      simp only [List.length_cons] at i3 i5
      have hx := i4 x (by simp)
      have hnx := nxBarrier_le c x hx
      unfold Barrier.small20 at hx
      have hlt : ∀ y : BarrierH, ys.length < (ys ++ y :: zs).length := fun y => by simp
      refine stop_idxW encBarrierH 0 tabOk rfl rfl rfl rfl rfl ⟨rfl, rfl⟩ rfl (by first | rfl | (simp; done)) ys.length rfl (hlt _) (fun g0 hg0 => ?_)
      refine stop_fldW tabOk rfl rfl rfl rfl ⟨rfl, rfl⟩ ?_
      refine stop_storeW encBarrierH 0 tabOk rfl rfl rfl rfl rfl rfl rfl rfl hg0 ys.length 0 (⟨⟨((c : Nat) : Int), x.m.round, x.m.waits⟩, x.q⟩ : BarrierH) rfl (hlt _) rfl [.int .i64 ((c : Nat) : Int)] (fun _ => rfl) (by simp [cBarrierH]) ?_
      rw [app_set]
      have hw1 : IntKind.i64.wrap (((c : Nat) : Int) + 1) = ((c + 1 : Nat) : Int) := e_succ (c) (c + 1) (by omega) (by omega)
      refine stop_eq 1 rfl (congrArg (Value.int .i64) hw1) ?_
      refine stop_idxW encBarrierH 0 tabOk rfl rfl rfl rfl rfl ⟨rfl, rfl⟩ rfl (by first | rfl | (simp; done)) ys.length rfl (hlt _) (fun g1 hg1 => ?_)
      refine stop_fldW tabOk rfl rfl rfl rfl ⟨rfl, rfl⟩ ?_
      refine stop_storeW encBarrierH 0 tabOk rfl rfl rfl rfl rfl rfl rfl rfl hg1 ys.length 1 (⟨⟨((c : Nat) : Int), ((c + 1 : Nat) : Int), x.m.waits⟩, x.q⟩ : BarrierH) rfl (hlt _) rfl [.int .i64 ((c + 1 : Nat) : Int)] (fun _ => by simp only [List.map_cons, List.map_nil, SV.den, hw1]) (by simp [cBarrierH]) ?_
      rw [app_set]
      have hw2 : IntKind.i64.wrap (((c + 1 : Nat) : Int) + 1) = ((c + 1 + 1 : Nat) : Int) := e_succ (c + 1) (c + 1 + 1) (by omega) (by omega)
      refine stop_eq 1 rfl (congrArg (Value.int .i64) hw2) ?_
      refine stop_idx encBarrierH (xs := ys ++ (⟨⟨((c : Nat) : Int), ((c + 1 : Nat) : Int), x.m.waits⟩, x.q⟩ : BarrierH) :: zs) tabOk rfl (Eq.trans rfl (congrArg (fun n => some (SV.v (h.val n))) (by simp))) rfl rfl rfl ⟨rfl, rfl⟩ (rdOwnAt 0 rfl) ys.length rfl (hlt _) (fun ad2 => ?_)
      rw [app_get]
      refine stop_shift (.splitO 1 (L := barrierO x) (G' := (ys ++ zs).flatMap barrierO) rfl (perm_out barrierO ys zs x)) ?_
      refine stop_callG _ [0] (G := [_]) cl37 rfl rfl rfl rfl ⟨rfl, rfl⟩ ⟨rfl, trivial⟩ ⟨rfl, rfl, trivial⟩ (fun A w hW => (markIntS_c _ _ (c + 1 + 1) w (hW.atG [0] (G := [_]) ⟨rfl, trivial⟩ rfl ⟨rfl, rfl, trivial⟩ [] (Fo := []) trivial rfl) (by first | omega | (simp only; omega)) (by omega))) ?_
      rintro v L ⟨rfl, rfl⟩
      have hwj := e_succ ys.length xs.length (by omega) (by omega)
      have hz : nxBarrier c x = c + 1 + 1 + x.m.waits.length := rfl
      generalize hzz : mkBarrier c x = z
      have hwj2 : IntKind.i64.wrap ((ys.length : Int) + 1) = (((ys ++ [z]).length : Nat) : Int) := by rw [hwj]; simp
      have hl0 : h.val (ys ++ x :: zs).length = h.val ((ys ++ [z]) ++ zs).length := congrArg h.val (by simp)
      have hrow : own h 114 cBarrierH 3 (ys ++ (⟨⟨((c : Nat) : Int), ((c + 1 : Nat) : Int), x.m.waits⟩, x.q⟩ : BarrierH) :: zs) = own h 114 cBarrierH 3 ((ys ++ [z]) ++ zs) := by
        subst hzz
        have e1 : cells cBarrierH (ys ++ (⟨⟨((c : Nat) : Int), ((c + 1 : Nat) : Int), x.m.waits⟩, x.q⟩ : BarrierH) :: zs) = cells cBarrierH ((ys ++ [mkBarrier c x]) ++ zs) := by simp [cells, cBarrierH, mkBarrier, marks_len]
        have e2 : (ys ++ (⟨⟨((c : Nat) : Int), ((c + 1 : Nat) : Int), x.m.waits⟩, x.q⟩ : BarrierH) :: zs).length = ((ys ++ [mkBarrier c x]) ++ zs).length := by simp
        rw [own_eq e1 e2]
      refine ⟨⟨(ys ++ [z], zs, nxBarrier c x), by rw [i1, ← hzz]; simp [mkL], by rw [i2]; rfl, by simp; omega, fun y hy => i4 y (by simp [hy]), by simp only; omega⟩, ?_, by simp⟩
      refine weak_shift (.joinO [0, 1] (Gs := [[_], _]) ⟨.inl ⟨_, rfl, .own⟩, .inl ⟨_, rfl, .o⟩, trivial⟩ rfl (G := ((ys ++ [z]) ++ zs).flatMap barrierO) (.trans (.of_eq (by rw [← hzz]; simp [barrierO, mkBarrier])) (perm_in barrierO ys zs z))) ?_
      refine weak_mk [1, 0] ?_ ?_ ?_ ?_ ?_ rfl rfl
      · repeat (first | exact trivial | refine ⟨⟨_, rfl, (by first | exact .of rfl | exact .lit rfl | exact .of (by first | ((first | exact hrow | exact congrArg SV.v hl0 | exact congrArg (fun z => SV.v (Value.int .i64 z)) hwj2 | exact congrArg (fun z => SV.v (Value.int .i64 z)) rfl))) | exact .lit (by first | ((first | exact hrow | exact congrArg SV.v hl0 | exact congrArg (fun z => SV.v (Value.int .i64 z)) hwj2 | exact congrArg (fun z => SV.v (Value.int .i64 z)) rfl)))), (by first | exact trivial | exact Nat.le_of_ble_eq_true rfl | exact small1 rfl)⟩, ?_⟩)
      · repeat (first | exact trivial | refine ⟨⟨(by first | exact .head _ | exact .tail _ (.head _) | exact .tail _ (.tail _ (.head _)) | exact .tail _ (.tail _ (.tail _ (.head _))) | exact .tail _ (.tail _ (.tail _ (.tail _ (.head _)))) | exact .tail _ (.tail _ (.tail _ (.tail _ (.tail _ (.head _))))) | exact .tail _ (.tail _ (.tail _ (.tail _ (.tail _ (.tail _ (.head _)))))) | exact .tail _ (.tail _ (.tail _ (.tail _ (.tail _ (.tail _ (.tail _ (.head _))))))) | exact .tail _ (.tail _ (.tail _ (.tail _ (.tail _ (.tail _ (.tail _ (.tail _ (.head _)))))))) | exact .tail _ (.tail _ (.tail _ (.tail _ (.tail _ (.tail _ (.tail _ (.tail _ (.tail _ (.head _)))))))))), Nat.le_of_ble_eq_true rfl⟩, ?_⟩)
      · repeat (first | exact trivial | refine ⟨⟨_, rfl, (by first | exact .of rfl | exact .lit rfl | exact .of (by first | ((first | exact hrow | exact congrArg SV.v hl0 | exact congrArg (fun z => SV.v (Value.int .i64 z)) hwj2 | exact congrArg (fun z => SV.v (Value.int .i64 z)) rfl))) | exact .lit (by first | ((first | exact hrow | exact congrArg SV.v hl0 | exact congrArg (fun z => SV.v (Value.int .i64 z)) hwj2 | exact congrArg (fun z => SV.v (Value.int .i64 z)) rfl)))), (by first | exact trivial | exact Nat.le_of_ble_eq_true rfl | exact small1 rfl)⟩, ?_⟩)
      · repeat (first | exact trivial | refine ⟨⟨_, rfl⟩, ?_⟩)
      · repeat (first | exact trivial | refine ⟨.inl ⟨_, rfl, (by first | rfl | ((first | exact hrow | exact congrArg SV.v hl0 | exact congrArg (fun z => SV.v (Value.int .i64 z)) hwj2 | exact congrArg (fun z => SV.v (Value.int .i64 z)) rfl)))⟩, ?_⟩ | refine ⟨.inr ⟨Nat.le_of_ble_eq_true rfl, rfl, rfl, rfl, rfl⟩, ?_⟩)
  · cases zs with
    | nil =>
      simp only [mkL, List.append_nil] at i1
      simp only [nxL] at i2
      have hyl : ys.length = xs.length := by simpa using i3
      simp only [List.append_nil]
      refine retG_shift (.joinO [0, 1] (Gs := [[_], _]) ⟨.inl ⟨_, rfl, .own⟩, .inl ⟨_, rfl, .o⟩, trivial⟩ rfl (G := barriersO h ys) (.of_eq (by simp [barriersO, nestO]))) ?_
      exact retG [0] (L := [fO (barriersO h ys)]) ⟨congrArg (fun z : Nat => Value.int .i64 (z : Int)) i2.symm, by rw [i1]⟩ ⟨.inl ⟨_, rfl, rfl⟩, trivial⟩ rfl ⟨rfl, trivial⟩ (fun _ => rfl)
    | cons x zs => simp at g; omega

end Go.Proofs.YtklclbcckjhdpaaGreat
