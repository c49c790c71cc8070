/- FnStartProg: texts that its proof stands on, part 8. -/
import Derived.ProofKit
import Derived.Deep.Slices
import Derived.Laws.StructEq
import Derived.Test.YtjkkoonennpceaaQStartProgg
namespace Go.Proofs.Ytjkkoonennpceaa

open Go Go.Sx Go.RowKit

/-- The rows outside of a program. -/
def progL (y : ProgH) : List Fct := [own y.h0 3 cInt 1 y.sems, own y.h1 3 cInt 1 y.groups, own y.h2 3 cInt 1 y.barriers, own y.h3 3 cInt 1 y.rooms, own y.h4 39 cOpSH 1 y.threads]

theorem progO_perm (y : ProgH) : (progO y).Perm (progL y ++ y.threads.flatMap opSO) := .of_eq (by simp [progO, threadsO, nestO, progL])

theorem progN {Zs : List Fct} (y : ProgH) (k0 k1 k2 k3 k4 : Nat) (e0 : Zs[k0]? = some (own y.h0 3 cInt 1 y.sems)) (e1 : Zs[k1]? = some (own y.h1 3 cInt 1 y.groups)) (e2 : Zs[k2]? = some (own y.h2 3 cInt 1 y.barriers)) (e3 : Zs[k3]? = some (own y.h3 3 cInt 1 y.rooms)) (e4 : Zs[k4]? = some (own y.h4 39 cOpSH 1 y.threads))
    (hin : ∀ g ∈ y.threads.flatMap opSO, ∃ f ∈ Zs, f.old = false ∧ Rd f g.aged) : ∀ g ∈ progO y, ∃ f ∈ Zs, f.old = false ∧ Rd f g.aged := by
  intro g hg
  rcases List.mem_append.1 ((progO_perm y).mem_iff.1 hg) with hg | hg
  · simp only [progL, List.mem_cons, List.not_mem_nil, or_false] at hg
    rcases hg with rfl | rfl | rfl | rfl | rfl
    · exact ⟨_, List.mem_of_getElem? e0, rfl, .aged _⟩
    · exact ⟨_, List.mem_of_getElem? e1, rfl, .aged _⟩
    · exact ⟨_, List.mem_of_getElem? e2, rfl, .aged _⟩
    · exact ⟨_, List.mem_of_getElem? e3, rfl, .aged _⟩
    · exact ⟨_, List.mem_of_getElem? e4, rfl, .aged _⟩
  · exact hin g hg

theorem perm_ix {α : Type} {Zs Zs' : List α} (ix : List Nat) {n : Nat} (hn : Zs.length = n) (hp : ix.Perm (List.range n)) (h : ix.map (fun i => Zs[i]?) = Zs'.map some) : Zs'.Perm Zs := by
  subst hn
  have h1 : (ix.map fun i => Zs[i]?).Perm ((List.range Zs.length).map fun i => Zs[i]?) := hp.map _
  have h2 : ((List.range Zs.length).map fun i => Zs[i]?) = Zs.map some := by
    apply List.ext_getElem
    · simp
    · intro i h1 h2
      simp at h1
      simp [h1]
  rw [h, h2] at h1
  have h3 := h1.filterMap id
  simpa using h3

def keysB : List (Nat × SV) → Nat → Bool
  | [], _ => true
  | (k, _) :: r, N => match Nat.blt k N with
    | true => keysB r N
    | false => false

def allK (T T' : List (Nat × SV)) : Nat → Prop
  | 0 => True
  | n + 1 => Sx.look T' n = Sx.look T n ∧ allK T T' n

theorem keysB_none : ∀ {T : List (Nat × SV)} {N k : Nat}, keysB T N = true → N ≤ k → Sx.look T k = none
  | [], _, _, _, _ => rfl
  | (j, x) :: r, N, k, h, hk => by
    simp only [keysB] at h
    cases hj : Nat.blt j N with
    | false => simp only [hj] at h; cases h
    | true =>
      simp only [hj] at h
      have hjN : j < N := Nat.le_of_ble_eq_true hj
      have hne : Nat.beq j k = false := by
        cases hb : Nat.beq j k with
        | false => rfl
        | true => have := Nat.eq_of_beq_eq_true hb; omega
      simp only [Sx.look, hne]
      exact keysB_none h hk

theorem look_eq {T T' : List (Nat × SV)} (N : Nat) (h1 : keysB T N = true) (h2 : keysB T' N = true) (h : allK T T' N) : Sx.look T' = Sx.look T := by
  have key : ∀ n, allK T T' n → ∀ k, k < n → Sx.look T' k = Sx.look T k := by
    intro n
    induction n with
    | zero => intro _ k hk; omega
    | succ n ih =>
      intro h k hk
      rcases Nat.lt_or_ge k n with hk2 | hk2
      · exact ih h.2 k hk2
      · obtain rfl : k = n := by omega
        exact h.1
  funext k
  rcases Nat.lt_or_ge k N with hk | hk
  · exact key N h k hk
  · rw [keysB_none h1 hk, keysB_none h2 hk]

section

variable {E : Env} {ti : Nat → TI} {ops : List Oper} {n0 : Nat} {B0 : List (Nat × TypeId × Nat)} {Ms : List ((Nat × Nat) × SV)} {Fs : List Fct} {K : St → Prop} {f : Nat} {L : List Bool} {T T' : List (Nat × SV)} {n c : Nat} {B : List (Nat × TypeId × Nat)} {M : List ((Nat × Nat) × SV)} {Zs Zs' : List Fct}

theorem vf (k : vcD E ti ops n0 B0 Ms Fs K f L (.mk T n c B M Zs)) : vcD E ti ops n0 B0 Ms Fs K f L (.mk T n c B M Zs) := k

theorem vr (k : vcD E ti ops n0 B0 Ms Fs K f L (.mk T n c B M Zs)) (hK : PermOk K := by exact weak_perm) (h1 : keysB T 44 = true := by rfl) (h2 : keysB T' 44 = true := by rfl) (h : allK T T' 44 := by repeat (first | exact trivial | refine ⟨rfl, ?_⟩)) : vcD E ti ops n0 B0 Ms Fs K f L (.mk T' n c B M Zs) := vcD_perm hK _ _ _ _ _ _ _ _ _ _ (look_eq 44 h1 h2 h) (.refl _) k

theorem vg (ix : List Nat) (k : vcD E ti ops n0 B0 Ms Fs K f L (.mk T n c B M Zs)) (hK : PermOk K := by exact weak_perm) (h1 : keysB T 44 = true := by rfl) (h2 : keysB T' 44 = true := by rfl) (h : allK T T' 44 := by repeat (first | exact trivial | refine ⟨rfl, ?_⟩)) (hl : Zs.length = ix.length := by rfl) (hp : ix.Perm (List.range ix.length) := by decide) (hm : ix.map (fun i => Zs[i]?) = Zs'.map some := by rfl) : vcD E ti ops n0 B0 Ms Fs K f L (.mk T' n c B M Zs') := vcD_perm hK _ _ _ _ _ _ _ _ _ _ (look_eq 44 h1 h2 h) (perm_ix ix hl hp hm) k

end

theorem vcD_lone {E : Env} {ti : Nat → TI} {ops : List Oper} {n0 : Nat} {B0 : List (Nat × TypeId × Nat)} {Ms : List ((Nat × Nat) × SV)} {Fs : List Fct} {K : St → Prop} {f : Nat} {L : List Bool} {T : List (Nat × SV)} {n c : Nat} {B : List (Nat × TypeId × Nat)} {M : List ((Nat × Nat) × SV)} {F : List Fct} {i : Nat} {o : Oper} (hp : pickFrom ti ops T c Ms (readyB L 0 ops L) = .none) (hr : readyB L 0 ops L = [i]) (ho : nth ops i = some o) (hg : guardSt ops T o.guard = .go) (k : effD E ti o Ms Fs (fun s' => vcD E ti ops n0 B0 Ms Fs K f (setB L i) s') T n c B M F o.op) : vcD E ti ops n0 B0 Ms Fs K (f + 1) L (.mk T n c B M F) := by
  rw [hr] at hp
  simp only [vcD, hr, hp, allR, ho, hg]
  exact k

theorem cutS0 {Q : Prop} {G : Prop} (main : (Q) → G) (pf : Q) : G := main pf

theorem cutS1 {Q : Sl → Prop} {G : Prop} (main : (∀ x0 : Sl, Q x0) → G) (pf : ∀ x0 : Sl, Q x0) : G := main pf

theorem cutS2 {Q : Sl → Sl → Prop} {G : Prop} (main : (∀ x0 x1 : Sl, Q x0 x1) → G) (pf : ∀ x0 x1 : Sl, Q x0 x1) : G := main pf

theorem cutS3 {Q : Sl → Sl → Sl → Prop} {G : Prop} (main : (∀ x0 x1 x2 : Sl, Q x0 x1 x2) → G) (pf : ∀ x0 x1 x2 : Sl, Q x0 x1 x2) : G := main pf

theorem cutS4 {Q : Sl → Sl → Sl → Sl → Prop} {G : Prop} (main : (∀ x0 x1 x2 x3 : Sl, Q x0 x1 x2 x3) → G) (pf : ∀ x0 x1 x2 x3 : Sl, Q x0 x1 x2 x3) : G := main pf

theorem cutS5 {Q : Sl → Sl → Sl → Sl → Sl → Prop} {G : Prop} (main : (∀ x0 x1 x2 x3 x4 : Sl, Q x0 x1 x2 x3 x4) → G) (pf : ∀ x0 x1 x2 x3 x4 : Sl, Q x0 x1 x2 x3 x4) : G := main pf

theorem cutS6 {Q : Sl → Sl → Sl → Sl → Sl → Sl → Prop} {G : Prop} (main : (∀ x0 x1 x2 x3 x4 x5 : Sl, Q x0 x1 x2 x3 x4 x5) → G) (pf : ∀ x0 x1 x2 x3 x4 x5 : Sl, Q x0 x1 x2 x3 x4 x5) : G := main pf

theorem cutS7 {Q : Sl → Sl → Sl → Sl → Sl → Sl → Sl → Prop} {G : Prop} (main : (∀ x0 x1 x2 x3 x4 x5 x6 : Sl, Q x0 x1 x2 x3 x4 x5 x6) → G) (pf : ∀ x0 x1 x2 x3 x4 x5 x6 : Sl, Q x0 x1 x2 x3 x4 x5 x6) : G := main pf

theorem cutS8 {Q : Sl → Sl → Sl → Sl → Sl → Sl → Sl → Sl → Prop} {G : Prop} (main : (∀ x0 x1 x2 x3 x4 x5 x6 x7 : Sl, Q x0 x1 x2 x3 x4 x5 x6 x7) → G) (pf : ∀ x0 x1 x2 x3 x4 x5 x6 x7 : Sl, Q x0 x1 x2 x3 x4 x5 x6 x7) : G := main pf

set_option maxHeartbeats 100000000 in
set_option maxRecDepth 100000 in
theorem l6Copy_c (p : ProgH) (w : World) (h : At w [fR (progO p)]) (hb : p.pure.small20) :
    Calls Try.prog 56 #[progV p] w (Ret w fun v L => ∃ y : ProgH, v = progV y ∧ y.pure = p.pure ∧ L = [fO (progO y)]) := by
  obtain ⟨b0, b1, b2, b3, b4, b5⟩ := hb
  have l0 : p.sems.length ≤ 1048576 := b0
  have l1 : p.groups.length ≤ 1048576 := b1
  have l2 : p.barriers.length ≤ 1048576 := b2
  have l3 : p.rooms.length ≤ 1048576 := b3
  have l4 : p.threads.length ≤ 1048576 := by have := b4; simpa [ProgH.pure] using this
  refine calls1 Try.func56 rfl tabOk w _ rfl _ rfl _ h ⟨rfl, rfl, trivial⟩ _ (by decide) ?_
  have key : ∀ (T : List (Nat × SV)) (c0 : Nat) (M : List ((Nat × Nat) × SV)) (a b c d : Sl), Sx.look T 1 = some (.p 0 0) → Sx.look T 2 = some (.p 1 0) → Sx.look T 3 = some (.p 2 0) → lookM M 0 4 = some (.v (p.h4.val p.threads.length)) → lookM M 2 0 = some (.v (a.val p.sems.length)) → lookM M 2 1 = some (.v (b.val p.groups.length)) → lookM M 2 2 = some (.v (c.val p.barriers.length)) → lookM M 2 3 = some (.v (d.val p.rooms.length)) → lookM M 2 4 = some (.v (.slice none 0 0)) →
      Weak (mkEnv Try.prog w Try.f56.ntmps) (.mk T 3 c0 [(2, 26, 5), (1, 26, 5), (0, 26, 5)] M [own d 3 cInt 1 p.rooms, own c 3 cInt 1 p.barriers, own b 3 cInt 1 p.groups, own a 3 cInt 1 p.sems, fR (progO p)]) (.mk [(1, .p 0 0), (2, .p 1 0), (3, .p 2 0)] 3 0 [(0, 26, 5), (1, 26, 5), (2, 26, 5)] [((0, 4), .v (p.h4.val p.threads.length)), ((2, 0), .v (a.val p.sems.length)), ((2, 1), .v (b.val p.groups.length)), ((2, 2), .v (c.val p.barriers.length)), ((2, 3), .v (d.val p.rooms.length)), ((2, 4), .v (.slice none 0 0))] [own a 3 cInt 1 p.sems, own b 3 cInt 1 p.groups, own c 3 cInt 1 p.barriers, own d 3 cInt 1 p.rooms, fR (progO p)]) := by
    intro T c0 M a b c d t1 t2 t3 m0 m1 m2 m3 m4 m5
    refine weak_mk [3, 2, 1, 0, 4] ?_ ?_ ?_ ?_ ?_ rfl rfl
    · repeat (first | exact trivial | refine ⟨⟨_, (by assumption), (by first | exact .of rfl | exact .lit rfl), (by first | exact trivial | exact Nat.le_of_ble_eq_true rfl | exact small1 rfl)⟩, ?_⟩)
    · repeat (first | exact trivial | refine ⟨⟨(by first | exact .head _ | exact .tail _ (.head _) | exact .tail _ (.tail _ (.head _))), Nat.le_of_ble_eq_true rfl⟩, ?_⟩)
    · repeat (first | exact trivial | refine ⟨⟨_, (by assumption), (by first | exact .of rfl | exact .lit rfl), (by first | exact trivial | exact Nat.le_of_ble_eq_true rfl | exact small1 rfl)⟩, ?_⟩)
    · repeat (first | exact trivial | refine ⟨⟨_, rfl⟩, ?_⟩)
    · repeat (first | exact trivial | refine ⟨.inl ⟨_, rfl, rfl⟩, ?_⟩)
  refine draw_cut (Sl × Sl × Sl × Sl) (fun y => .mk [(1, .p 0 0), (2, .p 1 0), (3, .p 2 0)] 3 0 [(0, 26, 5), (1, 26, 5), (2, 26, 5)] [((0, 4), .v (p.h4.val p.threads.length)), ((2, 0), .v (y.1.val p.sems.length)), ((2, 1), .v (y.2.1.val p.groups.length)), ((2, 2), .v (y.2.2.1.val p.barriers.length)), ((2, 3), .v (y.2.2.2.val p.rooms.length)), ((2, 4), .v (.slice none 0 0))] [own y.1 3 cInt 1 p.sems, own y.2.1 3 cInt 1 p.groups, own y.2.2.1 3 cInt 1 p.barriers, own y.2.2.2 3 cInt 1 p.rooms, fR (progO p)]) ?_ ?_
  · refine draw_start tabOk (by kernel_rfl) (by kernel_rfl) (by kernel_rfl) 200 [((0, 0), .v (p.h0.val p.sems.length)), ((0, 1), .v (p.h1.val p.groups.length)), ((0, 2), .v (p.h2.val p.barriers.length)), ((0, 3), .v (p.h3.val p.rooms.length))] [] [] ⟨⟨_, rfl, rfl, (by first | exact trivial | exact Nat.le_of_ble_eq_true rfl)⟩, ⟨_, rfl, rfl, (by first | exact trivial | exact Nat.le_of_ble_eq_true rfl)⟩, ⟨_, rfl, rfl, (by first | exact trivial | exact Nat.le_of_ble_eq_true rfl)⟩, ⟨_, rfl, rfl, (by first | exact trivial | exact Nat.le_of_ble_eq_true rfl)⟩, trivial⟩ ⟨⟨_, rfl⟩, ⟨_, rfl⟩, ⟨_, rfl⟩, ⟨_, rfl⟩, trivial⟩ trivial rfl ?_
    have e0 := progO_sems p
    have e1 := progO_groups p
    have e2 := progO_barriers p
    have e3 := progO_rooms p
    apply cutS8; intro v0
    apply cutS8; intro v1
    apply cutS7; intro v2
    apply cutS7; intro v3
    apply cutS6; intro v4
    apply cutS6; intro v5
    apply cutS6; intro v6
    apply cutS5; intro v7
    apply cutS6; intro v8
    apply cutS5; intro v9
    apply cutS5; intro v10
    apply cutS5; intro v11
    apply cutS5; intro v12
    apply cutS4; intro v13
    apply cutS4; intro v14
    apply cutS4; intro v15
    apply cutS5; intro v16
    apply cutS4; intro v17
    apply cutS4; intro v18
    apply cutS4; intro v19
    apply cutS3; intro v20
    apply cutS4; intro v21
    apply cutS3; intro v22
    apply cutS4; intro v23
    apply cutS4; intro v24
    apply cutS3; intro v25
    apply cutS3; intro v26
    apply cutS3; intro v27
    apply cutS3; intro v28
    apply cutS4; intro v29
    apply cutS3; intro v30
    apply cutS3; intro v31
    apply cutS3; intro v32
    apply cutS3; intro v33
    apply cutS2; intro v34
    apply cutS2; intro v35
    apply cutS2; intro v36
    apply cutS3; intro v37
    apply cutS2; intro v38
    apply cutS2; intro v39
    apply cutS3; intro v40
    apply cutS2; intro v41
    apply cutS3; intro v42
    apply cutS3; intro v43
    apply cutS2; intro v44
    apply cutS2; intro v45
    apply cutS1; intro v46
    apply cutS2; intro v47
    apply cutS1; intro v48
    apply cutS2; intro v49
    apply cutS2; intro v50
    apply cutS1; intro v51
    apply cutS2; intro v52
    apply cutS2; intro v53
    apply cutS2; intro v54
    apply cutS1; intro v55
    apply cutS1; intro v56
    apply cutS1; intro v57
    apply cutS1; intro v58
    apply cutS1; intro v59
    apply cutS0; intro v60
    refine BothW.mk (AllSl.mk fun a0 => vf (v59 a0)) ?_
    refine BothW.mk (AllSl.mk fun a1 => vf (v58 a1)) ?_
    refine BothW.mk (AllSl.mk fun a2 => vf (v57 a2)) ?_
    refine BothW.mk (AllSl.mk fun a3 => vf (v56 a3)) ?_
    exact vf v60
    · refine BothW.mk (AllSl.mk fun a0 => vf (v55 a0)) ?_
      refine BothW.mk (AllSl.mk fun a1 => vf (v51 a1)) ?_
      refine BothW.mk (AllSl.mk fun a2 => vf (v48 a2)) ?_
      exact AllSl.mk fun a3 => vf (v46 a3)
    · intro a0
      refine BothW.mk (d_app encInt 0 tabOk (xs := []) (ys := p.sems) rfl rfl rfl rfl rfl rfl rfl rfl rfl (by decide) ⟨rfl, rfl⟩ rfl (rdVia 1 rfl (.ofR e0)) (by first | omega | (simp; done) | (simp; omega) | (unfold maxLen; omega) | (unfold maxLen; simp; done) | (unfold maxLen; simp; omega)) (by first | omega | (simp; done) | (simp; omega) | (unfold maxLen; omega) | (unfold maxLen; simp; done) | (unfold maxLen; simp; omega)) (by simp [keepF]) fun b0 => vf (v45 a0 b0)) ?_
      refine BothW.mk (AllSl.mk fun a1 => vf (v54 a0 a1)) ?_
      refine BothW.mk (AllSl.mk fun a2 => vf (v53 a0 a2)) ?_
      refine BothW.mk (AllSl.mk fun a3 => vf (v52 a0 a3)) ?_
      exact vr (v55 a0)
    · intro a1
      refine BothW.mk (AllSl.mk fun a0 => vg [1, 0, 2] (v54 a0 a1)) ?_
      refine BothW.mk (AllSl.mk fun a2 => vf (v50 a1 a2)) ?_
      refine BothW.mk (AllSl.mk fun a3 => vf (v49 a1 a3)) ?_
      exact vr (v51 a1)
    · intro a2
      refine BothW.mk (AllSl.mk fun a0 => vg [1, 0, 2] (v53 a0 a2)) ?_
      refine BothW.mk (AllSl.mk fun a1 => vg [1, 0, 2] (v50 a1 a2)) ?_
      refine BothW.mk (AllSl.mk fun a3 => vf (v47 a2 a3)) ?_
      exact vr (v48 a2)
    · intro a3
      refine BothW.mk (AllSl.mk fun a0 => vg [1, 0, 2] (v52 a0 a3)) ?_
      refine BothW.mk (AllSl.mk fun a1 => vg [1, 0, 2] (v49 a1 a3)) ?_
      refine BothW.mk (AllSl.mk fun a2 => vg [1, 0, 2] (v47 a2 a3)) ?_
      exact vr (v46 a3)
    · intro a0
      refine BothW.mk (d_app encInt 0 tabOk (xs := []) (ys := p.sems) rfl rfl rfl rfl rfl rfl rfl rfl rfl (by decide) ⟨rfl, rfl⟩ rfl (rdVia 1 rfl (.ofR e0)) (by first | omega | (simp; done) | (simp; omega) | (unfold maxLen; omega) | (unfold maxLen; simp; done) | (unfold maxLen; simp; omega)) (by first | omega | (simp; done) | (simp; omega) | (unfold maxLen; omega) | (unfold maxLen; simp; done) | (unfold maxLen; simp; omega)) (by simp [keepF]) fun b0 => vf (v34 a0 b0)) ?_
      refine BothW.mk (AllSl.mk fun a1 => vf (v44 a0 a1)) ?_
      refine BothW.mk (AllSl.mk fun a2 => vf (v41 a0 a2)) ?_
      exact AllSl.mk fun a3 => vf (v39 a0 a3)
    · intro a0 a1
      refine BothW.mk (d_app encInt 1 tabOk (xs := []) (ys := p.sems) rfl rfl rfl rfl rfl rfl rfl rfl rfl (by decide) ⟨rfl, rfl⟩ rfl (rdVia 2 rfl (.ofR e0)) (by first | omega | (simp; done) | (simp; omega) | (unfold maxLen; omega) | (unfold maxLen; simp; done) | (unfold maxLen; simp; omega)) (by first | omega | (simp; done) | (simp; omega) | (unfold maxLen; omega) | (unfold maxLen; simp; done) | (unfold maxLen; simp; omega)) (by simp [keepF]) fun b0 => vf (v33 a0 a1 b0)) ?_
      refine BothW.mk (AllSl.mk fun a2 => vf (v43 a0 a1 a2)) ?_
      refine BothW.mk (AllSl.mk fun a3 => vf (v42 a0 a1 a3)) ?_
      exact vr (v44 a0 a1)
    · intro a0 a2
      refine BothW.mk (d_app encInt 1 tabOk (xs := []) (ys := p.sems) rfl rfl rfl rfl rfl rfl rfl rfl rfl (by decide) ⟨rfl, rfl⟩ rfl (rdVia 2 rfl (.ofR e0)) (by first | omega | (simp; done) | (simp; omega) | (unfold maxLen; omega) | (unfold maxLen; simp; done) | (unfold maxLen; simp; omega)) (by first | omega | (simp; done) | (simp; omega) | (unfold maxLen; omega) | (unfold maxLen; simp; done) | (unfold maxLen; simp; omega)) (by simp [keepF]) fun b0 => vf (v32 a0 a2 b0)) ?_
      refine BothW.mk (AllSl.mk fun a1 => vg [1, 0, 2, 3] (v43 a0 a1 a2)) ?_
      refine BothW.mk (AllSl.mk fun a3 => vf (v40 a0 a2 a3)) ?_
      exact vr (v41 a0 a2)
    · intro a0 a3
      refine BothW.mk (d_app encInt 1 tabOk (xs := []) (ys := p.sems) rfl rfl rfl rfl rfl rfl rfl rfl rfl (by decide) ⟨rfl, rfl⟩ rfl (rdVia 2 rfl (.ofR e0)) (by first | omega | (simp; done) | (simp; omega) | (unfold maxLen; omega) | (unfold maxLen; simp; done) | (unfold maxLen; simp; omega)) (by first | omega | (simp; done) | (simp; omega) | (unfold maxLen; omega) | (unfold maxLen; simp; done) | (unfold maxLen; simp; omega)) (by simp [keepF]) fun b0 => vf (v31 a0 a3 b0)) ?_
      refine BothW.mk (AllSl.mk fun a1 => vg [1, 0, 2, 3] (v42 a0 a1 a3)) ?_
      refine BothW.mk (AllSl.mk fun a2 => vg [1, 0, 2, 3] (v40 a0 a2 a3)) ?_
      exact vr (v39 a0 a3)
    · intro a1
      refine BothW.mk (AllSl.mk fun a0 => vg [1, 0, 2] (v44 a0 a1)) ?_
      refine BothW.mk (AllSl.mk fun a2 => vf (v38 a1 a2)) ?_
      exact AllSl.mk fun a3 => vf (v36 a1 a3)
    · intro a1 a2
      refine BothW.mk (AllSl.mk fun a0 => vg [2, 0, 1, 3] (v43 a0 a1 a2)) ?_
      refine BothW.mk (AllSl.mk fun a3 => vf (v37 a1 a2 a3)) ?_
      exact vr (v38 a1 a2)
    · intro a1 a3
      refine BothW.mk (AllSl.mk fun a0 => vg [2, 0, 1, 3] (v42 a0 a1 a3)) ?_
      refine BothW.mk (AllSl.mk fun a2 => vg [1, 0, 2, 3] (v37 a1 a2 a3)) ?_
      exact vr (v36 a1 a3)
    · intro a2
      refine BothW.mk (AllSl.mk fun a0 => vg [1, 0, 2] (v41 a0 a2)) ?_
      refine BothW.mk (AllSl.mk fun a1 => vg [1, 0, 2] (v38 a1 a2)) ?_
      exact AllSl.mk fun a3 => vf (v35 a2 a3)
    · intro a2 a3
      refine BothW.mk (AllSl.mk fun a0 => vg [2, 0, 1, 3] (v40 a0 a2 a3)) ?_
      refine BothW.mk (AllSl.mk fun a1 => vg [2, 0, 1, 3] (v37 a1 a2 a3)) ?_
      exact vr (v35 a2 a3)
    · intro a3
      refine BothW.mk (AllSl.mk fun a0 => vg [1, 0, 2] (v39 a0 a3)) ?_
      refine BothW.mk (AllSl.mk fun a1 => vg [1, 0, 2] (v36 a1 a3)) ?_
      exact AllSl.mk fun a2 => vg [1, 0, 2] (v35 a2 a3)
    · intro a0 b0
      refine BothW.mk (AllSl.mk fun a1 => vg [1, 0, 2] (v33 a0 a1 b0)) ?_
      refine BothW.mk (AllSl.mk fun a2 => vg [1, 0, 2] (v32 a0 a2 b0)) ?_
      refine BothW.mk (AllSl.mk fun a3 => vg [1, 0, 2] (v31 a0 a3 b0)) ?_
      exact vr (v34 a0 b0)
    · intro a0 a1
      refine BothW.mk (d_app encInt 1 tabOk (xs := []) (ys := p.sems) rfl rfl rfl rfl rfl rfl rfl rfl rfl (by decide) ⟨rfl, rfl⟩ rfl (rdVia 2 rfl (.ofR e0)) (by first | omega | (simp; done) | (simp; omega) | (unfold maxLen; omega) | (unfold maxLen; simp; done) | (unfold maxLen; simp; omega)) (by first | omega | (simp; done) | (simp; omega) | (unfold maxLen; omega) | (unfold maxLen; simp; done) | (unfold maxLen; simp; omega)) (by simp [keepF]) fun b0 => vf (v25 a0 a1 b0)) ?_
      refine BothW.mk (AllSl.mk fun a2 => vf (v30 a0 a1 a2)) ?_
      exact AllSl.mk fun a3 => vf (v28 a0 a1 a3)
    · intro a0 a1 a2
      refine BothW.mk (d_app encInt 2 tabOk (xs := []) (ys := p.sems) rfl rfl rfl rfl rfl rfl rfl rfl rfl (by decide) ⟨rfl, rfl⟩ rfl (rdVia 3 rfl (.ofR e0)) (by first | omega | (simp; done) | (simp; omega) | (unfold maxLen; omega) | (unfold maxLen; simp; done) | (unfold maxLen; simp; omega)) (by first | omega | (simp; done) | (simp; omega) | (unfold maxLen; omega) | (unfold maxLen; simp; done) | (unfold maxLen; simp; omega)) (by simp [keepF]) fun b0 => vf (v24 a0 a1 a2 b0)) ?_
      refine BothW.mk (AllSl.mk fun a3 => vf (v29 a0 a1 a2 a3)) ?_
      exact vr (v30 a0 a1 a2)
    · intro a0 a1 a3
      refine BothW.mk (d_app encInt 2 tabOk (xs := []) (ys := p.sems) rfl rfl rfl rfl rfl rfl rfl rfl rfl (by decide) ⟨rfl, rfl⟩ rfl (rdVia 3 rfl (.ofR e0)) (by first | omega | (simp; done) | (simp; omega) | (unfold maxLen; omega) | (unfold maxLen; simp; done) | (unfold maxLen; simp; omega)) (by first | omega | (simp; done) | (simp; omega) | (unfold maxLen; omega) | (unfold maxLen; simp; done) | (unfold maxLen; simp; omega)) (by simp [keepF]) fun b0 => vf (v23 a0 a1 a3 b0)) ?_
      refine BothW.mk (AllSl.mk fun a2 => vg [1, 0, 2, 3, 4] (v29 a0 a1 a2 a3)) ?_
      exact vr (v28 a0 a1 a3)
    · intro a0 a2
      refine BothW.mk (d_app encInt 1 tabOk (xs := []) (ys := p.sems) rfl rfl rfl rfl rfl rfl rfl rfl rfl (by decide) ⟨rfl, rfl⟩ rfl (rdVia 2 rfl (.ofR e0)) (by first | omega | (simp; done) | (simp; omega) | (unfold maxLen; omega) | (unfold maxLen; simp; done) | (unfold maxLen; simp; omega)) (by first | omega | (simp; done) | (simp; omega) | (unfold maxLen; omega) | (unfold maxLen; simp; done) | (unfold maxLen; simp; omega)) (by simp [keepF]) fun b0 => vf (v22 a0 a2 b0)) ?_
      refine BothW.mk (AllSl.mk fun a1 => vg [1, 0, 2, 3] (v30 a0 a1 a2)) ?_
      exact AllSl.mk fun a3 => vf (v27 a0 a2 a3)
    · intro a0 a2 a3
      refine BothW.mk (d_app encInt 2 tabOk (xs := []) (ys := p.sems) rfl rfl rfl rfl rfl rfl rfl rfl rfl (by decide) ⟨rfl, rfl⟩ rfl (rdVia 3 rfl (.ofR e0)) (by first | omega | (simp; done) | (simp; omega) | (unfold maxLen; omega) | (unfold maxLen; simp; done) | (unfold maxLen; simp; omega)) (by first | omega | (simp; done) | (simp; omega) | (unfold maxLen; omega) | (unfold maxLen; simp; done) | (unfold maxLen; simp; omega)) (by simp [keepF]) fun b0 => vf (v21 a0 a2 a3 b0)) ?_
      refine BothW.mk (AllSl.mk fun a1 => vg [2, 0, 1, 3, 4] (v29 a0 a1 a2 a3)) ?_
      exact vr (v27 a0 a2 a3)
    · intro a0 a3
      refine BothW.mk (d_app encInt 1 tabOk (xs := []) (ys := p.sems) rfl rfl rfl rfl rfl rfl rfl rfl rfl (by decide) ⟨rfl, rfl⟩ rfl (rdVia 2 rfl (.ofR e0)) (by first | omega | (simp; done) | (simp; omega) | (unfold maxLen; omega) | (unfold maxLen; simp; done) | (unfold maxLen; simp; omega)) (by first | omega | (simp; done) | (simp; omega) | (unfold maxLen; omega) | (unfold maxLen; simp; done) | (unfold maxLen; simp; omega)) (by simp [keepF]) fun b0 => vf (v20 a0 a3 b0)) ?_
      refine BothW.mk (AllSl.mk fun a1 => vg [1, 0, 2, 3] (v28 a0 a1 a3)) ?_
      exact AllSl.mk fun a2 => vg [1, 0, 2, 3] (v27 a0 a2 a3)
    · intro a1 a2
      refine BothW.mk (AllSl.mk fun a0 => vg [2, 0, 1, 3] (v30 a0 a1 a2)) ?_
      exact AllSl.mk fun a3 => vf (v26 a1 a2 a3)
    · intro a1 a2 a3
      refine BothW.mk (AllSl.mk fun a0 => vg [3, 0, 1, 2, 4] (v29 a0 a1 a2 a3)) ?_
      exact vr (v26 a1 a2 a3)
    · intro a1 a3
      refine BothW.mk (AllSl.mk fun a0 => vg [2, 0, 1, 3] (v28 a0 a1 a3)) ?_
      exact AllSl.mk fun a2 => vg [1, 0, 2, 3] (v26 a1 a2 a3)
    · intro a2 a3
      refine BothW.mk (AllSl.mk fun a0 => vg [2, 0, 1, 3] (v27 a0 a2 a3)) ?_
      exact AllSl.mk fun a1 => vg [2, 0, 1, 3] (v26 a1 a2 a3)
    · intro a0 b0
      refine BothW.mk (AllSl.mk fun a1 => vg [1, 0, 2] (v25 a0 a1 b0)) ?_
      refine BothW.mk (AllSl.mk fun a2 => vg [1, 0, 2] (v22 a0 a2 b0)) ?_
      exact AllSl.mk fun a3 => vg [1, 0, 2] (v20 a0 a3 b0)
    · intro a0 a1 b0
      refine BothW.mk (d_app encInt 1 tabOk (xs := []) (ys := p.groups) rfl rfl rfl rfl rfl rfl rfl rfl rfl (by decide) ⟨rfl, rfl⟩ rfl (rdVia 2 rfl (.ofR e1)) (by first | omega | (simp; done) | (simp; omega) | (unfold maxLen; omega) | (unfold maxLen; simp; done) | (unfold maxLen; simp; omega)) (by first | omega | (simp; done) | (simp; omega) | (unfold maxLen; omega) | (unfold maxLen; simp; done) | (unfold maxLen; simp; omega)) (by simp [keepF]) fun b1 => vf (v19 a0 a1 b0 b1)) ?_
      refine BothW.mk (AllSl.mk fun a2 => vg [1, 0, 2, 3] (v24 a0 a1 a2 b0)) ?_
      refine BothW.mk (AllSl.mk fun a3 => vg [1, 0, 2, 3] (v23 a0 a1 a3 b0)) ?_
      exact vr (v25 a0 a1 b0)
    · intro a0 a2 b0
      refine BothW.mk (AllSl.mk fun a1 => vg [2, 0, 1, 3] (v24 a0 a1 a2 b0)) ?_
      refine BothW.mk (AllSl.mk fun a3 => vg [1, 0, 2, 3] (v21 a0 a2 a3 b0)) ?_
      exact vr (v22 a0 a2 b0)
    · intro a0 a3 b0
      refine BothW.mk (AllSl.mk fun a1 => vg [2, 0, 1, 3] (v23 a0 a1 a3 b0)) ?_
      refine BothW.mk (AllSl.mk fun a2 => vg [2, 0, 1, 3] (v21 a0 a2 a3 b0)) ?_
      exact vr (v20 a0 a3 b0)
    · intro a0 a1 a2
      refine BothW.mk (d_app encInt 2 tabOk (xs := []) (ys := p.sems) rfl rfl rfl rfl rfl rfl rfl rfl rfl (by decide) ⟨rfl, rfl⟩ rfl (rdVia 3 rfl (.ofR e0)) (by first | omega | (simp; done) | (simp; omega) | (unfold maxLen; omega) | (unfold maxLen; simp; done) | (unfold maxLen; simp; omega)) (by first | omega | (simp; done) | (simp; omega) | (unfold maxLen; omega) | (unfold maxLen; simp; done) | (unfold maxLen; simp; omega)) (by simp [keepF]) fun b0 => vf (v17 a0 a1 a2 b0)) ?_
      exact AllSl.mk fun a3 => vf (v18 a0 a1 a2 a3)
    · intro a0 a1 a2 a3
      refine BothW.mk (d_app encInt 3 tabOk (xs := []) (ys := p.sems) rfl rfl rfl rfl rfl rfl rfl rfl rfl (by decide) ⟨rfl, rfl⟩ rfl (rdVia 4 rfl (.ofR e0)) (by first | omega | (simp; done) | (simp; omega) | (unfold maxLen; omega) | (unfold maxLen; simp; done) | (unfold maxLen; simp; omega)) (by first | omega | (simp; done) | (simp; omega) | (unfold maxLen; omega) | (unfold maxLen; simp; done) | (unfold maxLen; simp; omega)) (by simp [keepF]) fun b0 => vf (v16 a0 a1 a2 a3 b0)) ?_
      exact vr (v18 a0 a1 a2 a3)
    · intro a0 a1 a3
      refine BothW.mk (d_app encInt 2 tabOk (xs := []) (ys := p.sems) rfl rfl rfl rfl rfl rfl rfl rfl rfl (by decide) ⟨rfl, rfl⟩ rfl (rdVia 3 rfl (.ofR e0)) (by first | omega | (simp; done) | (simp; omega) | (unfold maxLen; omega) | (unfold maxLen; simp; done) | (unfold maxLen; simp; omega)) (by first | omega | (simp; done) | (simp; omega) | (unfold maxLen; omega) | (unfold maxLen; simp; done) | (unfold maxLen; simp; omega)) (by simp [keepF]) fun b0 => vf (v15 a0 a1 a3 b0)) ?_
      exact AllSl.mk fun a2 => vg [1, 0, 2, 3, 4] (v18 a0 a1 a2 a3)
    · intro a0 a2 a3
      refine BothW.mk (d_app encInt 2 tabOk (xs := []) (ys := p.sems) rfl rfl rfl rfl rfl rfl rfl rfl rfl (by decide) ⟨rfl, rfl⟩ rfl (rdVia 3 rfl (.ofR e0)) (by first | omega | (simp; done) | (simp; omega) | (unfold maxLen; omega) | (unfold maxLen; simp; done) | (unfold maxLen; simp; omega)) (by first | omega | (simp; done) | (simp; omega) | (unfold maxLen; omega) | (unfold maxLen; simp; done) | (unfold maxLen; simp; omega)) (by simp [keepF]) fun b0 => vf (v14 a0 a2 a3 b0)) ?_
      exact AllSl.mk fun a1 => vg [2, 0, 1, 3, 4] (v18 a0 a1 a2 a3)
    · intro a1 a2 a3
      exact AllSl.mk fun a0 => vg [3, 0, 1, 2, 4] (v18 a0 a1 a2 a3)
    · intro a0 a1 b0
      refine BothW.mk (d_app encInt 1 tabOk (xs := []) (ys := p.groups) rfl rfl rfl rfl rfl rfl rfl rfl rfl (by decide) ⟨rfl, rfl⟩ rfl (rdVia 2 rfl (.ofR e1)) (by first | omega | (simp; done) | (simp; omega) | (unfold maxLen; omega) | (unfold maxLen; simp; done) | (unfold maxLen; simp; omega)) (by first | omega | (simp; done) | (simp; omega) | (unfold maxLen; omega) | (unfold maxLen; simp; done) | (unfold maxLen; simp; omega)) (by simp [keepF]) fun b1 => vf (v13 a0 a1 b0 b1)) ?_
      refine BothW.mk (AllSl.mk fun a2 => vg [1, 0, 2, 3] (v17 a0 a1 a2 b0)) ?_
      exact AllSl.mk fun a3 => vg [1, 0, 2, 3] (v15 a0 a1 a3 b0)
    · intro a0 a1 a2 b0
      refine BothW.mk (d_app encInt 2 tabOk (xs := []) (ys := p.groups) rfl rfl rfl rfl rfl rfl rfl rfl rfl (by decide) ⟨rfl, rfl⟩ rfl (rdVia 3 rfl (.ofR e1)) (by first | omega | (simp; done) | (simp; omega) | (unfold maxLen; omega) | (unfold maxLen; simp; done) | (unfold maxLen; simp; omega)) (by first | omega | (simp; done) | (simp; omega) | (unfold maxLen; omega) | (unfold maxLen; simp; done) | (unfold maxLen; simp; omega)) (by simp [keepF]) fun b1 => vf (v12 a0 a1 a2 b0 b1)) ?_
      refine BothW.mk (AllSl.mk fun a3 => vg [1, 0, 2, 3, 4] (v16 a0 a1 a2 a3 b0)) ?_
      exact vr (v17 a0 a1 a2 b0)
    · intro a0 a1 a3 b0
      refine BothW.mk (d_app encInt 2 tabOk (xs := []) (ys := p.groups) rfl rfl rfl rfl rfl rfl rfl rfl rfl (by decide) ⟨rfl, rfl⟩ rfl (rdVia 3 rfl (.ofR e1)) (by first | omega | (simp; done) | (simp; omega) | (unfold maxLen; omega) | (unfold maxLen; simp; done) | (unfold maxLen; simp; omega)) (by first | omega | (simp; done) | (simp; omega) | (unfold maxLen; omega) | (unfold maxLen; simp; done) | (unfold maxLen; simp; omega)) (by simp [keepF]) fun b1 => vf (v11 a0 a1 a3 b0 b1)) ?_
      refine BothW.mk (AllSl.mk fun a2 => vg [2, 0, 1, 3, 4] (v16 a0 a1 a2 a3 b0)) ?_
      exact vr (v15 a0 a1 a3 b0)
    · intro a0 a2 b0
      refine BothW.mk (AllSl.mk fun a1 => vg [2, 0, 1, 3] (v17 a0 a1 a2 b0)) ?_
      exact AllSl.mk fun a3 => vg [1, 0, 2, 3] (v14 a0 a2 a3 b0)
    · intro a0 a2 a3 b0
      refine BothW.mk (AllSl.mk fun a1 => vg [3, 0, 1, 2, 4] (v16 a0 a1 a2 a3 b0)) ?_
      exact vr (v14 a0 a2 a3 b0)
    · intro a0 a3 b0
      refine BothW.mk (AllSl.mk fun a1 => vg [2, 0, 1, 3] (v15 a0 a1 a3 b0)) ?_
      exact AllSl.mk fun a2 => vg [2, 0, 1, 3] (v14 a0 a2 a3 b0)
    · intro a0 a1 b0 b1
      refine BothW.mk (AllSl.mk fun a2 => vg [2, 0, 1, 3] (v12 a0 a1 a2 b0 b1)) ?_
      refine BothW.mk (AllSl.mk fun a3 => vg [2, 0, 1, 3] (v11 a0 a1 a3 b0 b1)) ?_
      exact vr (v13 a0 a1 b0 b1)
    · intro a0 a1 a2 a3
      exact d_app encInt 3 tabOk (xs := []) (ys := p.sems) rfl rfl rfl rfl rfl rfl rfl rfl rfl (by decide) ⟨rfl, rfl⟩ rfl (rdVia 4 rfl (.ofR e0)) (by first | omega | (simp; done) | (simp; omega) | (unfold maxLen; omega) | (unfold maxLen; simp; done) | (unfold maxLen; simp; omega)) (by first | omega | (simp; done) | (simp; omega) | (unfold maxLen; omega) | (unfold maxLen; simp; done) | (unfold maxLen; simp; omega)) (by simp [keepF]) fun b0 => vf (v10 a0 a1 a2 a3 b0)
    · intro a0 a1 a2 b0
      refine BothW.mk (d_app encInt 2 tabOk (xs := []) (ys := p.groups) rfl rfl rfl rfl rfl rfl rfl rfl rfl (by decide) ⟨rfl, rfl⟩ rfl (rdVia 3 rfl (.ofR e1)) (by first | omega | (simp; done) | (simp; omega) | (unfold maxLen; omega) | (unfold maxLen; simp; done) | (unfold maxLen; simp; omega)) (by first | omega | (simp; done) | (simp; omega) | (unfold maxLen; omega) | (unfold maxLen; simp; done) | (unfold maxLen; simp; omega)) (by simp [keepF]) fun b1 => vf (v9 a0 a1 a2 b0 b1)) ?_
      exact AllSl.mk fun a3 => vg [1, 0, 2, 3, 4] (v10 a0 a1 a2 a3 b0)
    · intro a0 a1 a2 a3 b0
      refine BothW.mk (d_app encInt 3 tabOk (xs := []) (ys := p.groups) rfl rfl rfl rfl rfl rfl rfl rfl rfl (by decide) ⟨rfl, rfl⟩ rfl (rdVia 4 rfl (.ofR e1)) (by first | omega | (simp; done) | (simp; omega) | (unfold maxLen; omega) | (unfold maxLen; simp; done) | (unfold maxLen; simp; omega)) (by first | omega | (simp; done) | (simp; omega) | (unfold maxLen; omega) | (unfold maxLen; simp; done) | (unfold maxLen; simp; omega)) (by simp [keepF]) fun b1 => vf (v8 a0 a1 a2 a3 b0 b1)) ?_
      exact vr (v10 a0 a1 a2 a3 b0)
    · intro a0 a1 a3 b0
      refine BothW.mk (d_app encInt 2 tabOk (xs := []) (ys := p.groups) rfl rfl rfl rfl rfl rfl rfl rfl rfl (by decide) ⟨rfl, rfl⟩ rfl (rdVia 3 rfl (.ofR e1)) (by first | omega | (simp; done) | (simp; omega) | (unfold maxLen; omega) | (unfold maxLen; simp; done) | (unfold maxLen; simp; omega)) (by first | omega | (simp; done) | (simp; omega) | (unfold maxLen; omega) | (unfold maxLen; simp; done) | (unfold maxLen; simp; omega)) (by simp [keepF]) fun b1 => vf (v7 a0 a1 a3 b0 b1)) ?_
      exact AllSl.mk fun a2 => vg [2, 0, 1, 3, 4] (v10 a0 a1 a2 a3 b0)
    · intro a0 a2 a3 b0
      exact AllSl.mk fun a1 => vg [3, 0, 1, 2, 4] (v10 a0 a1 a2 a3 b0)
    · intro a0 a1 b0 b1
      refine BothW.mk (AllSl.mk fun a2 => vg [2, 0, 1, 3] (v9 a0 a1 a2 b0 b1)) ?_
      exact AllSl.mk fun a3 => vg [2, 0, 1, 3] (v7 a0 a1 a3 b0 b1)
    · intro a0 a1 a2 b0 b1
      refine BothW.mk (d_app encInt 2 tabOk (xs := []) (ys := p.barriers) rfl rfl rfl rfl rfl rfl rfl rfl rfl (by decide) ⟨rfl, rfl⟩ rfl (rdVia 3 rfl (.ofR e2)) (by first | omega | (simp; done) | (simp; omega) | (unfold maxLen; omega) | (unfold maxLen; simp; done) | (unfold maxLen; simp; omega)) (by first | omega | (simp; done) | (simp; omega) | (unfold maxLen; omega) | (unfold maxLen; simp; done) | (unfold maxLen; simp; omega)) (by simp [keepF]) fun b2 => vf (v6 a0 a1 a2 b0 b1 b2)) ?_
      refine BothW.mk (AllSl.mk fun a3 => vg [2, 0, 1, 3, 4] (v8 a0 a1 a2 a3 b0 b1)) ?_
      exact vr (v9 a0 a1 a2 b0 b1)
    · intro a0 a1 a3 b0 b1
      refine BothW.mk (AllSl.mk fun a2 => vg [3, 0, 1, 2, 4] (v8 a0 a1 a2 a3 b0 b1)) ?_
      exact vr (v7 a0 a1 a3 b0 b1)
    · intro a0 a1 a2 a3 b0
      exact d_app encInt 3 tabOk (xs := []) (ys := p.groups) rfl rfl rfl rfl rfl rfl rfl rfl rfl (by decide) ⟨rfl, rfl⟩ rfl (rdVia 4 rfl (.ofR e1)) (by first | omega | (simp; done) | (simp; omega) | (unfold maxLen; omega) | (unfold maxLen; simp; done) | (unfold maxLen; simp; omega)) (by first | omega | (simp; done) | (simp; omega) | (unfold maxLen; omega) | (unfold maxLen; simp; done) | (unfold maxLen; simp; omega)) (by simp [keepF]) fun b1 => vf (v5 a0 a1 a2 a3 b0 b1)
    · intro a0 a1 a2 b0 b1
      refine BothW.mk (d_app encInt 2 tabOk (xs := []) (ys := p.barriers) rfl rfl rfl rfl rfl rfl rfl rfl rfl (by decide) ⟨rfl, rfl⟩ rfl (rdVia 3 rfl (.ofR e2)) (by first | omega | (simp; done) | (simp; omega) | (unfold maxLen; omega) | (unfold maxLen; simp; done) | (unfold maxLen; simp; omega)) (by first | omega | (simp; done) | (simp; omega) | (unfold maxLen; omega) | (unfold maxLen; simp; done) | (unfold maxLen; simp; omega)) (by simp [keepF]) fun b2 => vf (v4 a0 a1 a2 b0 b1 b2)) ?_
      exact AllSl.mk fun a3 => vg [2, 0, 1, 3, 4] (v5 a0 a1 a2 a3 b0 b1)
    · intro a0 a1 a2 a3 b0 b1
      refine BothW.mk (d_app encInt 3 tabOk (xs := []) (ys := p.barriers) rfl rfl rfl rfl rfl rfl rfl rfl rfl (by decide) ⟨rfl, rfl⟩ rfl (rdVia 4 rfl (.ofR e2)) (by first | omega | (simp; done) | (simp; omega) | (unfold maxLen; omega) | (unfold maxLen; simp; done) | (unfold maxLen; simp; omega)) (by first | omega | (simp; done) | (simp; omega) | (unfold maxLen; omega) | (unfold maxLen; simp; done) | (unfold maxLen; simp; omega)) (by simp [keepF]) fun b2 => vf (v3 a0 a1 a2 a3 b0 b1 b2)) ?_
      exact vr (v5 a0 a1 a2 a3 b0 b1)
    · intro a0 a1 a3 b0 b1
      exact AllSl.mk fun a2 => vg [3, 0, 1, 2, 4] (v5 a0 a1 a2 a3 b0 b1)
    · intro a0 a1 a2 b0 b1 b2
      refine BothW.mk (AllSl.mk fun a3 => vg [3, 0, 1, 2, 4] (v3 a0 a1 a2 a3 b0 b1 b2)) ?_
      exact vr (v4 a0 a1 a2 b0 b1 b2)
    · intro a0 a1 a2 a3 b0 b1
      exact d_app encInt 3 tabOk (xs := []) (ys := p.barriers) rfl rfl rfl rfl rfl rfl rfl rfl rfl (by decide) ⟨rfl, rfl⟩ rfl (rdVia 4 rfl (.ofR e2)) (by first | omega | (simp; done) | (simp; omega) | (unfold maxLen; omega) | (unfold maxLen; simp; done) | (unfold maxLen; simp; omega)) (by first | omega | (simp; done) | (simp; omega) | (unfold maxLen; omega) | (unfold maxLen; simp; done) | (unfold maxLen; simp; omega)) (by simp [keepF]) fun b2 => vf (v2 a0 a1 a2 a3 b0 b1 b2)
    · intro a0 a1 a2 b0 b1 b2
      exact AllSl.mk fun a3 => vg [3, 0, 1, 2, 4] (v2 a0 a1 a2 a3 b0 b1 b2)
    · intro a0 a1 a2 a3 b0 b1 b2
      refine BothW.mk (d_app encInt 3 tabOk (xs := []) (ys := p.rooms) rfl rfl rfl rfl rfl rfl rfl rfl rfl (by decide) ⟨rfl, rfl⟩ rfl (rdVia 4 rfl (.ofR e3)) (by first | omega | (simp; done) | (simp; omega) | (unfold maxLen; omega) | (unfold maxLen; simp; done) | (unfold maxLen; simp; omega)) (by first | omega | (simp; done) | (simp; omega) | (unfold maxLen; omega) | (unfold maxLen; simp; done) | (unfold maxLen; simp; omega)) (by simp [keepF]) fun b3 => ?_) ?_
      · show vcD _ _ _ _ _ _ _ _ _ _ (.mk ((21, _) :: _) _ _ _ _ _)
        exact v1 a0 a1 a2 a3 b0 b1 b2 b3
      exact vr (v2 a0 a1 a2 a3 b0 b1 b2)
    · intro a0 a1 a2 a3 b0 b1 b2
      refine d_app encInt 3 tabOk (xs := []) (ys := p.rooms) rfl rfl rfl rfl rfl rfl rfl rfl rfl (by decide) ⟨rfl, rfl⟩ rfl (rdVia 4 rfl (.ofR e3)) (by first | omega | (simp; done) | (simp; omega) | (unfold maxLen; omega) | (unfold maxLen; simp; done) | (unfold maxLen; simp; omega)) (by first | omega | (simp; done) | (simp; omega) | (unfold maxLen; omega) | (unfold maxLen; simp; done) | (unfold maxLen; simp; omega)) (by simp [keepF]) fun b3 => ?_
      show vcD _ _ _ _ _ _ _ _ _ _ (.mk ((21, _) :: _) _ _ _ _ _)
      exact v0 a0 a1 a2 a3 b0 b1 b2 b3
    · intro a0 a1 a2 a3 b0 b1 b2 b3
      show vcD _ _ _ _ _ _ _ _ _ _ (.mk ((21, _) :: _) _ _ _ _ _)
      apply vcD_lone
      case hp => rfl
      case hr => rfl
      case ho => rfl
      case hg => rfl
      exact vr (v0 a0 a1 a2 a3 b0 b1 b2 b3)
    · intro a0 a1 a2 a3 b0 b1 b2 b3
      exact ⟨(b0, b1, b2, b3), key _ _ _ _ _ _ _ rfl rfl rfl rfl rfl rfl rfl rfl rfl⟩
  rintro ⟨a, b, c, d⟩
  simp only
  refine LoopW.mk ⟨{ q : Nat × Sl × List OpSH // q.1 ≤ p.threads.length ∧ q.2.2.map (·.m) = (p.threads.map (·.m)).take q.1 },
    fun q => .mk [(1, .p 0 0), (2, .p 1 0), (3, .p 2 0), (4, .v (.int .i64 (q.1.1 : Int)))] 3 0 [(0, 26, 5), (1, 26, 5), (2, 26, 5)] [((0, 4), .v (p.h4.val p.threads.length)), ((2, 0), .v (a.val p.sems.length)), ((2, 1), .v (b.val p.groups.length)), ((2, 2), .v (c.val p.barriers.length)), ((2, 3), .v (d.val p.rooms.length)), ((2, 4), .v (q.1.2.1.val q.1.2.2.length))] [own q.1.2.1 39 cOpSH 1 q.1.2.2, fO (q.1.2.2.flatMap opSO), own a 3 cInt 1 p.sems, own b 3 cInt 1 p.groups, own c 3 cInt 1 p.barriers, own d 3 cInt 1 p.rooms, fR (progO p)],
    fun q => p.threads.length - q.1.1, ⟨(0, ⟨none, 0⟩, []), Nat.zero_le _, by simp⟩, ?_, ?_⟩
  · refine weak_shift (.joinO [] (Gs := []) trivial rfl (.refl _)) ?_
    refine weak_mk [99, 0, 1, 2, 3, 4, 5] ?_ ?_ ?_ ?_ ?_ rfl rfl
    · repeat (first | exact trivial | refine ⟨⟨_, rfl, (by first | exact .of rfl | exact .lit rfl | exact .of (by first | (rfl)) | exact .lit (by first | (rfl))), (by first | exact trivial | exact Nat.le_of_ble_eq_true rfl | exact small1 rfl)⟩, ?_⟩)
    · repeat (first | exact trivial | refine ⟨⟨(by first | exact .head _ | exact .tail _ (.head _) | exact .tail _ (.tail _ (.head _)) | exact .tail _ (.tail _ (.tail _ (.head _))) | exact .tail _ (.tail _ (.tail _ (.tail _ (.head _)))) | exact .tail _ (.tail _ (.tail _ (.tail _ (.tail _ (.head _))))) | exact .tail _ (.tail _ (.tail _ (.tail _ (.tail _ (.tail _ (.head _)))))) | exact .tail _ (.tail _ (.tail _ (.tail _ (.tail _ (.tail _ (.tail _ (.head _))))))) | exact .tail _ (.tail _ (.tail _ (.tail _ (.tail _ (.tail _ (.tail _ (.tail _ (.head _)))))))) | exact .tail _ (.tail _ (.tail _ (.tail _ (.tail _ (.tail _ (.tail _ (.tail _ (.tail _ (.head _)))))))))), Nat.le_of_ble_eq_true rfl⟩, ?_⟩)
    · repeat (first | exact trivial | refine ⟨⟨_, rfl, (by first | exact .of rfl | exact .lit rfl | exact .of (by first | (rfl)) | exact .lit (by first | (rfl))), (by first | exact trivial | exact Nat.le_of_ble_eq_true rfl | exact small1 rfl)⟩, ?_⟩)
    · repeat (first | exact trivial | refine ⟨⟨_, rfl⟩, ?_⟩)
    · repeat (first | exact trivial | refine ⟨.inl ⟨_, rfl, (by first | rfl | (rfl))⟩, ?_⟩ | refine ⟨.inr ⟨Nat.le_of_ble_eq_true rfl, rfl, rfl, rfl, rfl⟩, ?_⟩)
  rintro ⟨⟨k, c0, L0⟩, hk, hL0⟩
  simp only at hk hL0
  have ln0 : L0.length = k := by have := congrArg List.length hL0; simp at this; omega
  refine CaseB.mk (fun g => ?_) (fun g => ?_)
  · have hlt : k < p.threads.length := by simpa using g
    have hw := e_succ k _ hlt (by omega)
    have hsm : (p.threads[k]).m.length ≤ 1048576 := b5 _ (List.mem_map_of_mem (List.getElem_mem hlt))
    refine draw_start tabOk (by kernel_rfl) (by kernel_rfl) (by kernel_rfl) 200 [((0, 4), .v (p.h4.val p.threads.length))] [6] [_] ⟨⟨_, rfl, rfl, (by first | exact trivial | exact Nat.le_of_ble_eq_true rfl)⟩, trivial⟩ ⟨⟨_, rfl⟩, trivial⟩ ⟨rfl, trivial⟩ rfl ?_
    refine d_idx (ti := tiOf tab) encOpSH tabOk rfl rfl rfl rfl rfl ⟨rfl, rfl⟩ (rdVia 0 rfl (.trans (.R_R (progO_threads p)) (.ofR nest_h))) k rfl (by first | omega | (simp; done) | (simp; omega) | (unfold maxLen; omega) | (unfold maxLen; simp; done) | (unfold maxLen; simp; omega)) (fun ad => ?_)
    refine BothW.mk ?_ ?_
    all_goals
      refine AllSl.mk fun u1 => ?_
      first
      | refine BothW.mk ?_ ?_
      | skip
      all_goals
        refine d_app (ti := tiOf tab) encOp 0 tabOk (xs := []) (ys := (p.threads[k]).m) rfl rfl rfl rfl rfl rfl rfl rfl rfl (by decide) ⟨rfl, rfl⟩ rfl (rdVia 7 rfl (.trans (.R_R (progO_threads p)) (.ofR (threadsO_0 _ _ k hlt)))) (by first | omega | (simp; done) | (simp; omega) | (unfold maxLen; omega) | (unfold maxLen; simp; done) | (unfold maxLen; simp; omega)) (by first | omega | (simp; done) | (simp; omega) | (unfold maxLen; omega) | (unfold maxLen; simp; done) | (unfold maxLen; simp; omega)) (by simp [keepF]) (fun y0 => ?_)
        first
        | refine BothW.mk ?_ ?_
        | skip
        all_goals
          refine AllSl.mk fun u2 => ?_
          first
          | refine BothW.mk ?_ ?_
          | skip
          all_goals
            refine d_app (ti := tiOf tab) encOpSH 2 tabOk (ys := [⟨(p.threads[k]).m, y0⟩]) rfl rfl rfl rfl rfl rfl rfl rfl rfl (by decide) ⟨rfl, rfl⟩ rfl (by first | exact rdAt 0 rfl | exact rdOwnAt 0 rfl | exact rdAt 1 rfl | exact rdOwnAt 1 rfl | exact rdAt 2 rfl | exact rdOwnAt 2 rfl | exact rdAt 3 rfl | exact rdOwnAt 3 rfl | exact rdAt 4 rfl | exact rdOwnAt 4 rfl | exact rdAt 5 rfl | exact rdOwnAt 5 rfl | exact rdAt 6 rfl | exact rdOwnAt 6 rfl | exact rdAt 7 rfl | exact rdOwnAt 7 rfl | exact rdAt 8 rfl | exact rdOwnAt 8 rfl | exact rdAt 9 rfl | exact rdOwnAt 9 rfl | exact rdAt 10 rfl | exact rdOwnAt 10 rfl | exact rdAt 11 rfl | exact rdOwnAt 11 rfl | exact rdAt 12 rfl | exact rdOwnAt 12 rfl | exact rdAt 13 rfl | exact rdOwnAt 13 rfl | exact rdAt 14 rfl | exact rdOwnAt 14 rfl | exact rdAt 15 rfl | exact rdOwnAt 15 rfl | exact rdAt 16 rfl | exact rdOwnAt 16 rfl | exact rdAt 17 rfl | exact rdOwnAt 17 rfl | exact rdAt 18 rfl | exact rdOwnAt 18 rfl | exact rdAt 19 rfl | exact rdOwnAt 19 rfl | exact rdAt 20 rfl | exact rdOwnAt 20 rfl | exact rdAt 21 rfl | exact rdOwnAt 21 rfl | exact rdAt 22 rfl | exact rdOwnAt 22 rfl | exact rdAt 23 rfl | exact rdOwnAt 23 rfl) (by first | omega | (simp; done) | (simp; omega) | (unfold maxLen; omega) | (unfold maxLen; simp; done) | (unfold maxLen; simp; omega)) (by first | omega | (simp; done) | (simp; omega) | (unfold maxLen; omega) | (unfold maxLen; simp; done) | (unfold maxLen; simp; omega)) (by simp [keepF]) (fun c2 => ?_)
            refine ⟨⟨(k + 1, c2, L0 ++ [⟨(p.threads[k]).m, y0⟩]), hlt, by rw [List.map_append]; exact map_take_succ hlt hL0 rfl⟩, ?_, by simp only; omega⟩
            refine weak_shift (.joinO [2, 3] (Gs := [[_], _]) ⟨.inl ⟨_, rfl, .own⟩, .inl ⟨_, rfl, .o⟩, trivial⟩ rfl (G := (L0 ++ [(⟨(p.threads[k]).m, y0⟩ : OpSH)]).flatMap opSO) (by rw [List.flatMap_append]; exact (List.Perm.of_eq (by simp [opSO])).trans List.perm_append_comm)) ?_
            refine weak_mk [1, 0, 3, 4, 5, 6, 7] ?_ ?_ ?_ ?_ ?_ rfl rfl
            · repeat (first | exact trivial | refine ⟨⟨_, rfl, (by first | exact .of rfl | exact .lit rfl | exact .of (by first | ((exact congrArg (fun z => SV.v (Value.int .i64 z)) hw))) | exact .lit (by first | ((exact congrArg (fun z => SV.v (Value.int .i64 z)) hw)))), (by first | exact trivial | exact Nat.le_of_ble_eq_true rfl | exact small1 rfl)⟩, ?_⟩)
            · repeat (first | exact trivial | refine ⟨⟨(by first | exact .head _ | exact .tail _ (.head _) | exact .tail _ (.tail _ (.head _)) | exact .tail _ (.tail _ (.tail _ (.head _))) | exact .tail _ (.tail _ (.tail _ (.tail _ (.head _)))) | exact .tail _ (.tail _ (.tail _ (.tail _ (.tail _ (.head _))))) | exact .tail _ (.tail _ (.tail _ (.tail _ (.tail _ (.tail _ (.head _)))))) | exact .tail _ (.tail _ (.tail _ (.tail _ (.tail _ (.tail _ (.tail _ (.head _))))))) | exact .tail _ (.tail _ (.tail _ (.tail _ (.tail _ (.tail _ (.tail _ (.tail _ (.head _)))))))) | exact .tail _ (.tail _ (.tail _ (.tail _ (.tail _ (.tail _ (.tail _ (.tail _ (.tail _ (.head _)))))))))), Nat.le_of_ble_eq_true rfl⟩, ?_⟩)
            · repeat (first | exact trivial | refine ⟨⟨_, rfl, (by first | exact .of rfl | exact .lit rfl | exact .of (by first | ((exact congrArg (fun z => SV.v (Value.int .i64 z)) hw))) | exact .lit (by first | ((exact congrArg (fun z => SV.v (Value.int .i64 z)) hw)))), (by first | exact trivial | exact Nat.le_of_ble_eq_true rfl | exact small1 rfl)⟩, ?_⟩)
            · repeat (first | exact trivial | refine ⟨⟨_, rfl⟩, ?_⟩)
            · repeat (first | exact trivial | refine ⟨.inl ⟨_, rfl, (by first | rfl | ((exact congrArg (fun z => SV.v (Value.int .i64 z)) hw)))⟩, ?_⟩ | refine ⟨.inr ⟨Nat.le_of_ble_eq_true rfl, rfl, rfl, rfl, rfl⟩, ?_⟩)
  have hge : p.threads.length ≤ k := by simpa using g
  rw [List.take_of_length_le (by simpa using hge)] at hL0
  refine ret_shift (.joinO [2, 3, 4, 5, 0, 1] (Gs := [[_], [_], [_], [_], [_], _]) ⟨.inl ⟨_, rfl, .own⟩, .inl ⟨_, rfl, .own⟩, .inl ⟨_, rfl, .own⟩, .inl ⟨_, rfl, .own⟩, .inl ⟨_, rfl, .own⟩, .inl ⟨_, rfl, .o⟩, trivial⟩ rfl (G := progO ⟨p.sems, p.groups, p.barriers, p.rooms, L0, a, b, c, d, c0⟩) ((List.Perm.of_eq (by simp [progL])).trans (progO_perm ⟨p.sems, p.groups, p.barriers, p.rooms, L0, a, b, c, d, c0⟩).symm)) ?_
  exact retw [0] ⟨⟨p.sems, p.groups, p.barriers, p.rooms, L0, a, b, c, d, c0⟩, rfl, by simp only [ProgH.pure, hL0], rfl⟩ ⟨.inl ⟨_, rfl, rfl⟩, trivial⟩ rfl ⟨rfl, trivial⟩ (fun _ => rfl)

end Go.Proofs.Ytjkkoonennpceaa

namespace Go.Proofs.Ytjkkoonennpceaa

open Go Go.Sx Go.RowKit

/-- A state that a program reaches in n steps. -/
inductive Reach (p : Prog) : Nat → State → Prop where
  | begin : Reach p 0 (start p)
  | step {n : Nat} {s : State} {t : Int} : Reach p n s → StepOk p s t → Reach p (n + 1) (doM p s t)

theorem Reach.small {p : Prog} (ok : ProgOk p) {n : Nat} {s : State} (h : Reach p n s) : s.small20 := by
  cases h with
  | begin => exact start_small ok
  | step _ h => exact h.2.2.2.small

theorem ProgOk.small20 {p : Prog} (ok : ProgOk p) : p.small20 := by
  have h0 := ok.sems.1
  have h1 := ok.groups.1
  have h2 := ok.barriers.1
  have h3 := ok.rooms.1
  have h4 := ok.n4
  exact ⟨by omega, by omega, by omega, by omega, by omega, fun x hx => Nat.le_trans (ok.ops x hx).1 (by decide)⟩

end Go.Proofs.Ytjkkoonennpceaa

namespace Go.Proofs.Ytjkkoonennpceaa

open Go Go.Sx Go.RowKit

set_option maxHeartbeats 32000000 in
set_option maxRecDepth 100000 in
theorem wrong6_c (g : Nat) (bi : Sl) (rb : List UInt8) (p0 : Nat) (q : ProgH) (w : World) (hg : Blk w g 108 (rdrV bi rb p0)) (h : AtP w g [slo bi cByte 1 rb, fR (progO q)]) (hb : rb.length ≤ 2000) (hp : p0 < 100000) (ok : ProgOk q.pure) :
    Calls Try.prog 41 #[.pointer (some ⟨g, 0, none⟩), progV q] w (RetP w g 108 2 fun v cs L => ∃ (y : ProgH) (p2 : Nat), v = progV y ∧ y.pure.small20 ∧ cs = rdrV bi rb p2 ∧ p2 ≤ p0 + 10 ∧ L = [fN (progO y)]) := by
  refine callsP2 Try.func41 rfl tabOk w _ rfl _ rfl _ 108 _ 2 rfl hg _ h ⟨rfl, rfl, rfl, rfl, trivial⟩ _ (by decide) ?_
  refine stop_call _ cl56 rfl rfl rfl rfl ⟨rfl, rfl⟩ (fun A w hW => l6Copy_c q w ⟨hW.get 1 rfl (.refl _), trivial⟩ ok.small20) ?_
  rintro v L ⟨y, rfl, hy, rfl⟩
  rw [← hy] at ok
  have m0 : y.sems.length ≤ 3 := ok.sems.1
  have m1 : y.groups.length ≤ 3 := ok.groups.1
  have m2 : y.barriers.length ≤ 3 := ok.barriers.1
  have m3 : y.rooms.length ≤ 3 := ok.rooms.1
  have m4 : y.pure.threads.length ≤ 4 := ok.n4
  have m4' : y.threads.length ≤ 4 := by simpa [ProgH.pure] using m4
  have m5 : ∀ t ∈ y.pure.threads, t.length ≤ 1048576 := fun t ht => Nat.le_trans (ok.ops t ht).1 (by decide)
  have e0 : y.pure.sems.length ≤ 1048576 := Nat.le_trans m0 (by decide)
  have e1 : y.pure.groups.length ≤ 1048576 := Nat.le_trans m1 (by decide)
  have e2 : y.pure.barriers.length ≤ 1048576 := Nat.le_trans m2 (by decide)
  have e3 : y.pure.rooms.length ≤ 1048576 := Nat.le_trans m3 (by decide)
  have e4 : y.pure.threads.length ≤ 1048576 := Nat.le_trans m4 (by decide)
  refine stop_callP _ cl57 rfl rfl rfl rfl ⟨rfl, rfl⟩ rfl rfl (fun A w ga hga hW hblk => (pick_c ga bi rb _ _ w hblk ⟨(by first | exact hW.rdP _ hga rfl 0 rfl | exact hW.rdOwnP _ hga rfl 0 rfl | exact hW.rdP _ hga rfl 1 rfl | exact hW.rdOwnP _ hga rfl 1 rfl | exact hW.rdP _ hga rfl 2 rfl | exact hW.rdOwnP _ hga rfl 2 rfl | exact hW.rdP _ hga rfl 3 rfl | exact hW.rdOwnP _ hga rfl 3 rfl | exact hW.rdP _ hga rfl 4 rfl | exact hW.rdOwnP _ hga rfl 4 rfl | exact hW.rdP _ hga rfl 5 rfl | exact hW.rdOwnP _ hga rfl 5 rfl | exact hW.rdP _ hga rfl 6 rfl | exact hW.rdOwnP _ hga rfl 6 rfl | exact hW.rdP _ hga rfl 7 rfl | exact hW.rdOwnP _ hga rfl 7 rfl | exact hW.rdP _ hga rfl 8 rfl | exact hW.rdOwnP _ hga rfl 8 rfl | exact hW.rdP _ hga rfl 9 rfl | exact hW.rdOwnP _ hga rfl 9 rfl | exact hW.rdP _ hga rfl 10 rfl | exact hW.rdOwnP _ hga rfl 10 rfl | exact hW.rdP _ hga rfl 11 rfl | exact hW.rdOwnP _ hga rfl 11 rfl | exact hW.rdP _ hga rfl 12 rfl | exact hW.rdOwnP _ hga rfl 12 rfl | exact hW.rdP _ hga rfl 13 rfl | exact hW.rdOwnP _ hga rfl 13 rfl | exact hW.rdP _ hga rfl 14 rfl | exact hW.rdOwnP _ hga rfl 14 rfl | exact hW.rdP _ hga rfl 15 rfl | exact hW.rdOwnP _ hga rfl 15 rfl | exact hW.rdP _ hga rfl 16 rfl | exact hW.rdOwnP _ hga rfl 16 rfl | exact hW.rdP _ hga rfl 17 rfl | exact hW.rdOwnP _ hga rfl 17 rfl | exact hW.rdP _ hga rfl 18 rfl | exact hW.rdOwnP _ hga rfl 18 rfl | exact hW.rdP _ hga rfl 19 rfl | exact hW.rdOwnP _ hga rfl 19 rfl | exact hW.rdP _ hga rfl 20 rfl | exact hW.rdOwnP _ hga rfl 20 rfl | exact hW.rdP _ hga rfl 21 rfl | exact hW.rdOwnP _ hga rfl 21 rfl | exact hW.rdP _ hga rfl 22 rfl | exact hW.rdOwnP _ hga rfl 22 rfl | exact hW.rdP _ hga rfl 23 rfl | exact hW.rdOwnP _ hga rfl 23 rfl), trivial⟩ hb (by omega))) ?_
  rintro v cs L ⟨k, rfl, _, _, rfl, rfl⟩
  refine CaseB.mk (fun g0 => ?_) (fun g0 => ?_)
  · refine draw_shift (Shift.splitO 0 (L := progL y) (G := progO y) (G' := y.threads.flatMap opSO) rfl (progO_perm y)) ?_
    refine draw_start tabOk (by kernel_rfl) (by kernel_rfl) (by kernel_rfl) 200 [] [] [] trivial trivial trivial rfl ?_
    refine BothW.mk ?_ ?_
    all_goals
      refine AllSl.mk fun l => ?_
      first
      | refine BothW.mk ?_ ?_
      | skip
      all_goals
        refine d_callP _ cl58 rfl rfl rfl rfl ⟨rfl, rfl⟩ rfl rfl rfl (fun A w ga hga hW hblk => (num_c ga bi rb _ _ [0, 10, 1] w hblk ⟨(by first | exact hW.rdP _ hga rfl 0 rfl | exact hW.rdOwnP _ hga rfl 0 rfl | exact hW.rdP _ hga rfl 1 rfl | exact hW.rdOwnP _ hga rfl 1 rfl | exact hW.rdP _ hga rfl 2 rfl | exact hW.rdOwnP _ hga rfl 2 rfl | exact hW.rdP _ hga rfl 3 rfl | exact hW.rdOwnP _ hga rfl 3 rfl | exact hW.rdP _ hga rfl 4 rfl | exact hW.rdOwnP _ hga rfl 4 rfl | exact hW.rdP _ hga rfl 5 rfl | exact hW.rdOwnP _ hga rfl 5 rfl | exact hW.rdP _ hga rfl 6 rfl | exact hW.rdOwnP _ hga rfl 6 rfl | exact hW.rdP _ hga rfl 7 rfl | exact hW.rdOwnP _ hga rfl 7 rfl | exact hW.rdP _ hga rfl 8 rfl | exact hW.rdOwnP _ hga rfl 8 rfl | exact hW.rdP _ hga rfl 9 rfl | exact hW.rdOwnP _ hga rfl 9 rfl | exact hW.rdP _ hga rfl 10 rfl | exact hW.rdOwnP _ hga rfl 10 rfl | exact hW.rdP _ hga rfl 11 rfl | exact hW.rdOwnP _ hga rfl 11 rfl | exact hW.rdP _ hga rfl 12 rfl | exact hW.rdOwnP _ hga rfl 12 rfl | exact hW.rdP _ hga rfl 13 rfl | exact hW.rdOwnP _ hga rfl 13 rfl | exact hW.rdP _ hga rfl 14 rfl | exact hW.rdOwnP _ hga rfl 14 rfl | exact hW.rdP _ hga rfl 15 rfl | exact hW.rdOwnP _ hga rfl 15 rfl | exact hW.rdP _ hga rfl 16 rfl | exact hW.rdOwnP _ hga rfl 16 rfl | exact hW.rdP _ hga rfl 17 rfl | exact hW.rdOwnP _ hga rfl 17 rfl | exact hW.rdP _ hga rfl 18 rfl | exact hW.rdOwnP _ hga rfl 18 rfl | exact hW.rdP _ hga rfl 19 rfl | exact hW.rdOwnP _ hga rfl 19 rfl | exact hW.rdP _ hga rfl 20 rfl | exact hW.rdOwnP _ hga rfl 20 rfl | exact hW.rdP _ hga rfl 21 rfl | exact hW.rdOwnP _ hga rfl 21 rfl | exact hW.rdP _ hga rfl 22 rfl | exact hW.rdOwnP _ hga rfl 22 rfl | exact hW.rdP _ hga rfl 23 rfl | exact hW.rdOwnP _ hga rfl 23 rfl), (by first | exact hW.rdP _ hga rfl 0 rfl | exact hW.rdOwnP _ hga rfl 0 rfl | exact hW.rdP _ hga rfl 1 rfl | exact hW.rdOwnP _ hga rfl 1 rfl | exact hW.rdP _ hga rfl 2 rfl | exact hW.rdOwnP _ hga rfl 2 rfl | exact hW.rdP _ hga rfl 3 rfl | exact hW.rdOwnP _ hga rfl 3 rfl | exact hW.rdP _ hga rfl 4 rfl | exact hW.rdOwnP _ hga rfl 4 rfl | exact hW.rdP _ hga rfl 5 rfl | exact hW.rdOwnP _ hga rfl 5 rfl | exact hW.rdP _ hga rfl 6 rfl | exact hW.rdOwnP _ hga rfl 6 rfl | exact hW.rdP _ hga rfl 7 rfl | exact hW.rdOwnP _ hga rfl 7 rfl | exact hW.rdP _ hga rfl 8 rfl | exact hW.rdOwnP _ hga rfl 8 rfl | exact hW.rdP _ hga rfl 9 rfl | exact hW.rdOwnP _ hga rfl 9 rfl | exact hW.rdP _ hga rfl 10 rfl | exact hW.rdOwnP _ hga rfl 10 rfl | exact hW.rdP _ hga rfl 11 rfl | exact hW.rdOwnP _ hga rfl 11 rfl | exact hW.rdP _ hga rfl 12 rfl | exact hW.rdOwnP _ hga rfl 12 rfl | exact hW.rdP _ hga rfl 13 rfl | exact hW.rdOwnP _ hga rfl 13 rfl | exact hW.rdP _ hga rfl 14 rfl | exact hW.rdOwnP _ hga rfl 14 rfl | exact hW.rdP _ hga rfl 15 rfl | exact hW.rdOwnP _ hga rfl 15 rfl | exact hW.rdP _ hga rfl 16 rfl | exact hW.rdOwnP _ hga rfl 16 rfl | exact hW.rdP _ hga rfl 17 rfl | exact hW.rdOwnP _ hga rfl 17 rfl | exact hW.rdP _ hga rfl 18 rfl | exact hW.rdOwnP _ hga rfl 18 rfl | exact hW.rdP _ hga rfl 19 rfl | exact hW.rdOwnP _ hga rfl 19 rfl | exact hW.rdP _ hga rfl 20 rfl | exact hW.rdOwnP _ hga rfl 20 rfl | exact hW.rdP _ hga rfl 21 rfl | exact hW.rdOwnP _ hga rfl 21 rfl | exact hW.rdP _ hga rfl 22 rfl | exact hW.rdOwnP _ hga rfl 22 rfl | exact hW.rdP _ hga rfl 23 rfl | exact hW.rdOwnP _ hga rfl 23 rfl), trivial⟩ hb (by omega) (by decide))) ?_
        rintro v cs L ⟨x, rfl, _, rfl, rfl⟩
        first
        | refine BothW.mk ?_ ?_
        | skip
        all_goals
          refine AllSl.mk fun l2 => ?_
          refine d_app (ti := tiOf tab) encInt 2 tabOk (xs := y.sems) (ys := [x]) rfl rfl rfl rfl rfl rfl rfl rfl rfl (by decide) ⟨rfl, rfl⟩ rfl (by first | exact rdAt 0 rfl | exact rdOwnAt 0 rfl | exact rdAt 1 rfl | exact rdOwnAt 1 rfl | exact rdAt 2 rfl | exact rdOwnAt 2 rfl | exact rdAt 3 rfl | exact rdOwnAt 3 rfl | exact rdAt 4 rfl | exact rdOwnAt 4 rfl | exact rdAt 5 rfl | exact rdOwnAt 5 rfl | exact rdAt 6 rfl | exact rdOwnAt 6 rfl | exact rdAt 7 rfl | exact rdOwnAt 7 rfl | exact rdAt 8 rfl | exact rdOwnAt 8 rfl | exact rdAt 9 rfl | exact rdOwnAt 9 rfl | exact rdAt 10 rfl | exact rdOwnAt 10 rfl | exact rdAt 11 rfl | exact rdOwnAt 11 rfl | exact rdAt 12 rfl | exact rdOwnAt 12 rfl | exact rdAt 13 rfl | exact rdOwnAt 13 rfl | exact rdAt 14 rfl | exact rdOwnAt 14 rfl | exact rdAt 15 rfl | exact rdOwnAt 15 rfl | exact rdAt 16 rfl | exact rdOwnAt 16 rfl | exact rdAt 17 rfl | exact rdOwnAt 17 rfl | exact rdAt 18 rfl | exact rdOwnAt 18 rfl | exact rdAt 19 rfl | exact rdOwnAt 19 rfl | exact rdAt 20 rfl | exact rdOwnAt 20 rfl | exact rdAt 21 rfl | exact rdOwnAt 21 rfl | exact rdAt 22 rfl | exact rdOwnAt 22 rfl | exact rdAt 23 rfl | exact rdOwnAt 23 rfl) (by first | omega | (simp; done) | (simp; omega) | (unfold maxLen; omega) | (unfold maxLen; simp; done) | (unfold maxLen; simp; omega)) (by first | omega | (simp; done) | (simp; omega) | (unfold maxLen; omega) | (unfold maxLen; simp; done) | (unfold maxLen; simp; omega)) (by simp [keepF]) (fun z => ?_)
          obtain ⟨y9, hy9⟩ : ∃ y9 : ProgH, y9 = ⟨(y.sems ++ [x]), y.groups, y.barriers, y.rooms, y.threads, z, y.h1, y.h2, y.h3, y.h4⟩ := ⟨_, rfl⟩
          have hv : progV y9 = .agg #[z.val (y.sems ++ [x]).length, y.h1.val y.groups.length, y.h2.val y.barriers.length, y.h3.val y.rooms.length, y.h4.val y.threads.length] := by
            rw [hy9]; rfl
          have hN : y9.pure.small20 := by
            rw [hy9]
            exact ⟨by show (y.sems ++ [x]).length ≤ 1048576; rw [List.length_append, List.length_singleton]; omega, e1, e2, e3, e4, m5⟩
          refine ret_shift (Shift.pack (G := progO y9) (progN y9 0 3 4 5 6 (by rw [hy9]; rfl) (by rw [hy9]; rfl) (by rw [hy9]; rfl) (by rw [hy9]; rfl) (by rw [hy9]; rfl) (by rw [hy9]; exact fun g hg => inON 7 rfl hg))) ?_
          exact retP [0] ⟨y9, _, hv.symm, hN, rfl, by omega, rfl⟩ rfl rfl ⟨.inl ⟨_, rfl, rfl⟩, trivial⟩ rfl ⟨rfl, trivial⟩ (fun _ => rfl)
  refine CaseB.mk (fun g1 => ?_) (fun g1 => ?_)
  · refine draw_shift (Shift.splitO 0 (L := progL y) (G := progO y) (G' := y.threads.flatMap opSO) rfl (progO_perm y)) ?_
    refine draw_start tabOk (by kernel_rfl) (by kernel_rfl) (by kernel_rfl) 200 [] [] [] trivial trivial trivial rfl ?_
    refine BothW.mk ?_ ?_
    all_goals
      refine AllSl.mk fun l => ?_
      first
      | refine BothW.mk ?_ ?_
      | skip
      all_goals
        refine d_callP _ cl58 rfl rfl rfl rfl ⟨rfl, rfl⟩ rfl rfl rfl (fun A w ga hga hW hblk => (num_c ga bi rb _ _ [11, 0, 2] w hblk ⟨(by first | exact hW.rdP _ hga rfl 0 rfl | exact hW.rdOwnP _ hga rfl 0 rfl | exact hW.rdP _ hga rfl 1 rfl | exact hW.rdOwnP _ hga rfl 1 rfl | exact hW.rdP _ hga rfl 2 rfl | exact hW.rdOwnP _ hga rfl 2 rfl | exact hW.rdP _ hga rfl 3 rfl | exact hW.rdOwnP _ hga rfl 3 rfl | exact hW.rdP _ hga rfl 4 rfl | exact hW.rdOwnP _ hga rfl 4 rfl | exact hW.rdP _ hga rfl 5 rfl | exact hW.rdOwnP _ hga rfl 5 rfl | exact hW.rdP _ hga rfl 6 rfl | exact hW.rdOwnP _ hga rfl 6 rfl | exact hW.rdP _ hga rfl 7 rfl | exact hW.rdOwnP _ hga rfl 7 rfl | exact hW.rdP _ hga rfl 8 rfl | exact hW.rdOwnP _ hga rfl 8 rfl | exact hW.rdP _ hga rfl 9 rfl | exact hW.rdOwnP _ hga rfl 9 rfl | exact hW.rdP _ hga rfl 10 rfl | exact hW.rdOwnP _ hga rfl 10 rfl | exact hW.rdP _ hga rfl 11 rfl | exact hW.rdOwnP _ hga rfl 11 rfl | exact hW.rdP _ hga rfl 12 rfl | exact hW.rdOwnP _ hga rfl 12 rfl | exact hW.rdP _ hga rfl 13 rfl | exact hW.rdOwnP _ hga rfl 13 rfl | exact hW.rdP _ hga rfl 14 rfl | exact hW.rdOwnP _ hga rfl 14 rfl | exact hW.rdP _ hga rfl 15 rfl | exact hW.rdOwnP _ hga rfl 15 rfl | exact hW.rdP _ hga rfl 16 rfl | exact hW.rdOwnP _ hga rfl 16 rfl | exact hW.rdP _ hga rfl 17 rfl | exact hW.rdOwnP _ hga rfl 17 rfl | exact hW.rdP _ hga rfl 18 rfl | exact hW.rdOwnP _ hga rfl 18 rfl | exact hW.rdP _ hga rfl 19 rfl | exact hW.rdOwnP _ hga rfl 19 rfl | exact hW.rdP _ hga rfl 20 rfl | exact hW.rdOwnP _ hga rfl 20 rfl | exact hW.rdP _ hga rfl 21 rfl | exact hW.rdOwnP _ hga rfl 21 rfl | exact hW.rdP _ hga rfl 22 rfl | exact hW.rdOwnP _ hga rfl 22 rfl | exact hW.rdP _ hga rfl 23 rfl | exact hW.rdOwnP _ hga rfl 23 rfl), (by first | exact hW.rdP _ hga rfl 0 rfl | exact hW.rdOwnP _ hga rfl 0 rfl | exact hW.rdP _ hga rfl 1 rfl | exact hW.rdOwnP _ hga rfl 1 rfl | exact hW.rdP _ hga rfl 2 rfl | exact hW.rdOwnP _ hga rfl 2 rfl | exact hW.rdP _ hga rfl 3 rfl | exact hW.rdOwnP _ hga rfl 3 rfl | exact hW.rdP _ hga rfl 4 rfl | exact hW.rdOwnP _ hga rfl 4 rfl | exact hW.rdP _ hga rfl 5 rfl | exact hW.rdOwnP _ hga rfl 5 rfl | exact hW.rdP _ hga rfl 6 rfl | exact hW.rdOwnP _ hga rfl 6 rfl | exact hW.rdP _ hga rfl 7 rfl | exact hW.rdOwnP _ hga rfl 7 rfl | exact hW.rdP _ hga rfl 8 rfl | exact hW.rdOwnP _ hga rfl 8 rfl | exact hW.rdP _ hga rfl 9 rfl | exact hW.rdOwnP _ hga rfl 9 rfl | exact hW.rdP _ hga rfl 10 rfl | exact hW.rdOwnP _ hga rfl 10 rfl | exact hW.rdP _ hga rfl 11 rfl | exact hW.rdOwnP _ hga rfl 11 rfl | exact hW.rdP _ hga rfl 12 rfl | exact hW.rdOwnP _ hga rfl 12 rfl | exact hW.rdP _ hga rfl 13 rfl | exact hW.rdOwnP _ hga rfl 13 rfl | exact hW.rdP _ hga rfl 14 rfl | exact hW.rdOwnP _ hga rfl 14 rfl | exact hW.rdP _ hga rfl 15 rfl | exact hW.rdOwnP _ hga rfl 15 rfl | exact hW.rdP _ hga rfl 16 rfl | exact hW.rdOwnP _ hga rfl 16 rfl | exact hW.rdP _ hga rfl 17 rfl | exact hW.rdOwnP _ hga rfl 17 rfl | exact hW.rdP _ hga rfl 18 rfl | exact hW.rdOwnP _ hga rfl 18 rfl | exact hW.rdP _ hga rfl 19 rfl | exact hW.rdOwnP _ hga rfl 19 rfl | exact hW.rdP _ hga rfl 20 rfl | exact hW.rdOwnP _ hga rfl 20 rfl | exact hW.rdP _ hga rfl 21 rfl | exact hW.rdOwnP _ hga rfl 21 rfl | exact hW.rdP _ hga rfl 22 rfl | exact hW.rdOwnP _ hga rfl 22 rfl | exact hW.rdP _ hga rfl 23 rfl | exact hW.rdOwnP _ hga rfl 23 rfl), trivial⟩ hb (by omega) (by decide))) ?_
        rintro v cs L ⟨x1, rfl, _, rfl, rfl⟩
        first
        | refine BothW.mk ?_ ?_
        | skip
        all_goals
          refine d_callP _ cl57 rfl rfl rfl rfl ⟨rfl, rfl⟩ rfl rfl rfl (fun A w ga hga hW hblk => (pick_c ga bi rb _ _ w hblk ⟨(by first | exact hW.rdP _ hga rfl 0 rfl | exact hW.rdOwnP _ hga rfl 0 rfl | exact hW.rdP _ hga rfl 1 rfl | exact hW.rdOwnP _ hga rfl 1 rfl | exact hW.rdP _ hga rfl 2 rfl | exact hW.rdOwnP _ hga rfl 2 rfl | exact hW.rdP _ hga rfl 3 rfl | exact hW.rdOwnP _ hga rfl 3 rfl | exact hW.rdP _ hga rfl 4 rfl | exact hW.rdOwnP _ hga rfl 4 rfl | exact hW.rdP _ hga rfl 5 rfl | exact hW.rdOwnP _ hga rfl 5 rfl | exact hW.rdP _ hga rfl 6 rfl | exact hW.rdOwnP _ hga rfl 6 rfl | exact hW.rdP _ hga rfl 7 rfl | exact hW.rdOwnP _ hga rfl 7 rfl | exact hW.rdP _ hga rfl 8 rfl | exact hW.rdOwnP _ hga rfl 8 rfl | exact hW.rdP _ hga rfl 9 rfl | exact hW.rdOwnP _ hga rfl 9 rfl | exact hW.rdP _ hga rfl 10 rfl | exact hW.rdOwnP _ hga rfl 10 rfl | exact hW.rdP _ hga rfl 11 rfl | exact hW.rdOwnP _ hga rfl 11 rfl | exact hW.rdP _ hga rfl 12 rfl | exact hW.rdOwnP _ hga rfl 12 rfl | exact hW.rdP _ hga rfl 13 rfl | exact hW.rdOwnP _ hga rfl 13 rfl | exact hW.rdP _ hga rfl 14 rfl | exact hW.rdOwnP _ hga rfl 14 rfl | exact hW.rdP _ hga rfl 15 rfl | exact hW.rdOwnP _ hga rfl 15 rfl | exact hW.rdP _ hga rfl 16 rfl | exact hW.rdOwnP _ hga rfl 16 rfl | exact hW.rdP _ hga rfl 17 rfl | exact hW.rdOwnP _ hga rfl 17 rfl | exact hW.rdP _ hga rfl 18 rfl | exact hW.rdOwnP _ hga rfl 18 rfl | exact hW.rdP _ hga rfl 19 rfl | exact hW.rdOwnP _ hga rfl 19 rfl | exact hW.rdP _ hga rfl 20 rfl | exact hW.rdOwnP _ hga rfl 20 rfl | exact hW.rdP _ hga rfl 21 rfl | exact hW.rdOwnP _ hga rfl 21 rfl | exact hW.rdP _ hga rfl 22 rfl | exact hW.rdOwnP _ hga rfl 22 rfl | exact hW.rdP _ hga rfl 23 rfl | exact hW.rdOwnP _ hga rfl 23 rfl), trivial⟩ hb (by omega))) ?_
          rintro v cs L ⟨x2, rfl, _, _, rfl, rfl⟩
          first
          | refine BothW.mk ?_ ?_
          | skip
          all_goals
            refine d_callP _ cl57 rfl rfl rfl rfl ⟨rfl, rfl⟩ rfl rfl rfl (fun A w ga hga hW hblk => (pick_c ga bi rb _ _ w hblk ⟨(by first | exact hW.rdP _ hga rfl 0 rfl | exact hW.rdOwnP _ hga rfl 0 rfl | exact hW.rdP _ hga rfl 1 rfl | exact hW.rdOwnP _ hga rfl 1 rfl | exact hW.rdP _ hga rfl 2 rfl | exact hW.rdOwnP _ hga rfl 2 rfl | exact hW.rdP _ hga rfl 3 rfl | exact hW.rdOwnP _ hga rfl 3 rfl | exact hW.rdP _ hga rfl 4 rfl | exact hW.rdOwnP _ hga rfl 4 rfl | exact hW.rdP _ hga rfl 5 rfl | exact hW.rdOwnP _ hga rfl 5 rfl | exact hW.rdP _ hga rfl 6 rfl | exact hW.rdOwnP _ hga rfl 6 rfl | exact hW.rdP _ hga rfl 7 rfl | exact hW.rdOwnP _ hga rfl 7 rfl | exact hW.rdP _ hga rfl 8 rfl | exact hW.rdOwnP _ hga rfl 8 rfl | exact hW.rdP _ hga rfl 9 rfl | exact hW.rdOwnP _ hga rfl 9 rfl | exact hW.rdP _ hga rfl 10 rfl | exact hW.rdOwnP _ hga rfl 10 rfl | exact hW.rdP _ hga rfl 11 rfl | exact hW.rdOwnP _ hga rfl 11 rfl | exact hW.rdP _ hga rfl 12 rfl | exact hW.rdOwnP _ hga rfl 12 rfl | exact hW.rdP _ hga rfl 13 rfl | exact hW.rdOwnP _ hga rfl 13 rfl | exact hW.rdP _ hga rfl 14 rfl | exact hW.rdOwnP _ hga rfl 14 rfl | exact hW.rdP _ hga rfl 15 rfl | exact hW.rdOwnP _ hga rfl 15 rfl | exact hW.rdP _ hga rfl 16 rfl | exact hW.rdOwnP _ hga rfl 16 rfl | exact hW.rdP _ hga rfl 17 rfl | exact hW.rdOwnP _ hga rfl 17 rfl | exact hW.rdP _ hga rfl 18 rfl | exact hW.rdOwnP _ hga rfl 18 rfl | exact hW.rdP _ hga rfl 19 rfl | exact hW.rdOwnP _ hga rfl 19 rfl | exact hW.rdP _ hga rfl 20 rfl | exact hW.rdOwnP _ hga rfl 20 rfl | exact hW.rdP _ hga rfl 21 rfl | exact hW.rdOwnP _ hga rfl 21 rfl | exact hW.rdP _ hga rfl 22 rfl | exact hW.rdOwnP _ hga rfl 22 rfl | exact hW.rdP _ hga rfl 23 rfl | exact hW.rdOwnP _ hga rfl 23 rfl), trivial⟩ hb (by omega))) ?_
            rintro v cs L ⟨x3, rfl, _, _, rfl, rfl⟩
            first
            | refine BothW.mk ?_ ?_
            | skip
            all_goals
              refine AllSl.mk fun l2 => ?_
              first
              | refine BothW.mk ?_ ?_
              | skip
              all_goals
                refine AllSl.mk fun l3 => ?_
                refine d_app (ti := tiOf tab) encOpSH 7 tabOk (xs := y.threads) (ys := [⟨[⟨x1, x2, x3⟩], l2⟩]) rfl rfl rfl rfl rfl rfl rfl rfl rfl (by decide) ⟨rfl, rfl⟩ rfl (by first | exact rdAt 0 rfl | exact rdOwnAt 0 rfl | exact rdAt 1 rfl | exact rdOwnAt 1 rfl | exact rdAt 2 rfl | exact rdOwnAt 2 rfl | exact rdAt 3 rfl | exact rdOwnAt 3 rfl | exact rdAt 4 rfl | exact rdOwnAt 4 rfl | exact rdAt 5 rfl | exact rdOwnAt 5 rfl | exact rdAt 6 rfl | exact rdOwnAt 6 rfl | exact rdAt 7 rfl | exact rdOwnAt 7 rfl | exact rdAt 8 rfl | exact rdOwnAt 8 rfl | exact rdAt 9 rfl | exact rdOwnAt 9 rfl | exact rdAt 10 rfl | exact rdOwnAt 10 rfl | exact rdAt 11 rfl | exact rdOwnAt 11 rfl | exact rdAt 12 rfl | exact rdOwnAt 12 rfl | exact rdAt 13 rfl | exact rdOwnAt 13 rfl | exact rdAt 14 rfl | exact rdOwnAt 14 rfl | exact rdAt 15 rfl | exact rdOwnAt 15 rfl | exact rdAt 16 rfl | exact rdOwnAt 16 rfl | exact rdAt 17 rfl | exact rdOwnAt 17 rfl | exact rdAt 18 rfl | exact rdOwnAt 18 rfl | exact rdAt 19 rfl | exact rdOwnAt 19 rfl | exact rdAt 20 rfl | exact rdOwnAt 20 rfl | exact rdAt 21 rfl | exact rdOwnAt 21 rfl | exact rdAt 22 rfl | exact rdOwnAt 22 rfl | exact rdAt 23 rfl | exact rdOwnAt 23 rfl) (by first | omega | (simp; done) | (simp; omega) | (unfold maxLen; omega) | (unfold maxLen; simp; done) | (unfold maxLen; simp; omega)) (by first | omega | (simp; done) | (simp; omega) | (unfold maxLen; omega) | (unfold maxLen; simp; done) | (unfold maxLen; simp; omega)) (by simp [keepF]) (fun z => ?_)
                obtain ⟨y9, hy9⟩ : ∃ y9 : ProgH, y9 = ⟨y.sems, y.groups, y.barriers, y.rooms, (y.threads ++ [⟨[⟨x1, x2, x3⟩], l2⟩]), y.h0, y.h1, y.h2, y.h3, z⟩ := ⟨_, rfl⟩
                have hv : progV y9 = .agg #[y.h0.val y.sems.length, y.h1.val y.groups.length, y.h2.val y.barriers.length, y.h3.val y.rooms.length, z.val (y.threads ++ [(⟨[⟨x1, x2, x3⟩], l2⟩ : OpSH)]).length] := by
                  rw [hy9]; rfl
                have hN : y9.pure.small20 := by
                  rw [hy9]
                  exact ⟨e0, e1, e2, e3, by show ((y.threads ++ [(⟨[⟨x1, x2, x3⟩], l2⟩ : OpSH)]).map (·.m)).length ≤ 1048576; rw [List.length_map, List.length_append, List.length_singleton]; omega, fun t ht => by
                    have ht : t ∈ (y.threads ++ [(⟨[⟨x1, x2, x3⟩], l2⟩ : OpSH)]).map (·.m) := ht
                    rw [List.map_append] at ht
                    rcases List.mem_append.1 ht with ht | ht
                    · exact m5 t ht
                    · simp at ht; subst ht; show List.length _ ≤ 1048576; simp⟩
                refine ret_shift (Shift.pack (G := progO y9) (progN y9 4 5 6 7 0 (by rw [hy9]; rfl) (by rw [hy9]; rfl) (by rw [hy9]; rfl) (by rw [hy9]; rfl) (by rw [hy9]; rfl) (by rw [hy9]; exact fun g hg => by rw [List.flatMap_append] at hg; exact (List.mem_append.1 hg).elim (fun h => inON 8 rfl h) (fun h => by simp only [List.flatMap_cons, List.flatMap_nil, opSO, List.append_nil, List.mem_singleton] at h; subst h; exact inFN 2 rfl rfl)))) ?_
                exact retP [0] ⟨y9, _, hv.symm, hN, rfl, by omega, rfl⟩ rfl rfl ⟨.inl ⟨_, rfl, rfl⟩, trivial⟩ rfl ⟨rfl, trivial⟩ (fun _ => rfl)
  refine CaseB.mk (fun g2 => ?_) (fun g2 => ?_)
  · refine AllSl.mk fun z => ?_
    refine ret_shift (Shift.splitO 1 (L := progL y) (G := progO y) (G' := y.threads.flatMap opSO) rfl (progO_perm y)) ?_
    obtain ⟨y9, hy9⟩ : ∃ y9 : ProgH, y9 = ⟨y.sems, y.groups, y.barriers, y.rooms, [], y.h0, y.h1, y.h2, y.h3, z⟩ := ⟨_, rfl⟩
    have hv : progV y9 = .agg #[y.h0.val y.sems.length, y.h1.val y.groups.length, y.h2.val y.barriers.length, y.h3.val y.rooms.length, z.val 0] := by
      rw [hy9]; rfl
    have hN : y9.pure.small20 := by
      rw [hy9]
      exact ⟨e0, e1, e2, e3, by simp [ProgH.pure], fun t ht => by simp [ProgH.pure] at ht⟩
    refine ret_shift (Shift.pack (G := progO y9) (progN y9 0 1 2 3 6 (by rw [hy9]; rfl) (by rw [hy9]; rfl) (by rw [hy9]; rfl) (by rw [hy9]; rfl) (by rw [hy9]; rfl) (by rw [hy9]; exact fun g hg => by cases hg))) ?_
    exact retP [0] ⟨y9, _, hv.symm, hN, rfl, by omega, rfl⟩ rfl rfl ⟨.inl ⟨_, rfl, rfl⟩, trivial⟩ rfl ⟨rfl, trivial⟩ (fun _ => rfl)
  refine CaseB.mk (fun g3 => ?_) (fun g3 => ?_)
  · refine draw_shift (Shift.splitO 0 (L := progL y) (G := progO y) (G' := y.threads.flatMap opSO) rfl (progO_perm y)) ?_
    refine draw_start tabOk (by kernel_rfl) (by kernel_rfl) (by kernel_rfl) 200 [] [] [] trivial trivial trivial rfl ?_
    refine BothW.mk ?_ ?_
    all_goals
      refine AllSl.mk fun l => ?_
      first
      | refine BothW.mk ?_ ?_
      | skip
      all_goals
        refine d_callP _ cl58 rfl rfl rfl rfl ⟨rfl, rfl⟩ rfl rfl rfl (fun A w ga hga hW hblk => (num_c ga bi rb _ _ [5, -1] w hblk ⟨(by first | exact hW.rdP _ hga rfl 0 rfl | exact hW.rdOwnP _ hga rfl 0 rfl | exact hW.rdP _ hga rfl 1 rfl | exact hW.rdOwnP _ hga rfl 1 rfl | exact hW.rdP _ hga rfl 2 rfl | exact hW.rdOwnP _ hga rfl 2 rfl | exact hW.rdP _ hga rfl 3 rfl | exact hW.rdOwnP _ hga rfl 3 rfl | exact hW.rdP _ hga rfl 4 rfl | exact hW.rdOwnP _ hga rfl 4 rfl | exact hW.rdP _ hga rfl 5 rfl | exact hW.rdOwnP _ hga rfl 5 rfl | exact hW.rdP _ hga rfl 6 rfl | exact hW.rdOwnP _ hga rfl 6 rfl | exact hW.rdP _ hga rfl 7 rfl | exact hW.rdOwnP _ hga rfl 7 rfl | exact hW.rdP _ hga rfl 8 rfl | exact hW.rdOwnP _ hga rfl 8 rfl | exact hW.rdP _ hga rfl 9 rfl | exact hW.rdOwnP _ hga rfl 9 rfl | exact hW.rdP _ hga rfl 10 rfl | exact hW.rdOwnP _ hga rfl 10 rfl | exact hW.rdP _ hga rfl 11 rfl | exact hW.rdOwnP _ hga rfl 11 rfl | exact hW.rdP _ hga rfl 12 rfl | exact hW.rdOwnP _ hga rfl 12 rfl | exact hW.rdP _ hga rfl 13 rfl | exact hW.rdOwnP _ hga rfl 13 rfl | exact hW.rdP _ hga rfl 14 rfl | exact hW.rdOwnP _ hga rfl 14 rfl | exact hW.rdP _ hga rfl 15 rfl | exact hW.rdOwnP _ hga rfl 15 rfl | exact hW.rdP _ hga rfl 16 rfl | exact hW.rdOwnP _ hga rfl 16 rfl | exact hW.rdP _ hga rfl 17 rfl | exact hW.rdOwnP _ hga rfl 17 rfl | exact hW.rdP _ hga rfl 18 rfl | exact hW.rdOwnP _ hga rfl 18 rfl | exact hW.rdP _ hga rfl 19 rfl | exact hW.rdOwnP _ hga rfl 19 rfl | exact hW.rdP _ hga rfl 20 rfl | exact hW.rdOwnP _ hga rfl 20 rfl | exact hW.rdP _ hga rfl 21 rfl | exact hW.rdOwnP _ hga rfl 21 rfl | exact hW.rdP _ hga rfl 22 rfl | exact hW.rdOwnP _ hga rfl 22 rfl | exact hW.rdP _ hga rfl 23 rfl | exact hW.rdOwnP _ hga rfl 23 rfl), (by first | exact hW.rdP _ hga rfl 0 rfl | exact hW.rdOwnP _ hga rfl 0 rfl | exact hW.rdP _ hga rfl 1 rfl | exact hW.rdOwnP _ hga rfl 1 rfl | exact hW.rdP _ hga rfl 2 rfl | exact hW.rdOwnP _ hga rfl 2 rfl | exact hW.rdP _ hga rfl 3 rfl | exact hW.rdOwnP _ hga rfl 3 rfl | exact hW.rdP _ hga rfl 4 rfl | exact hW.rdOwnP _ hga rfl 4 rfl | exact hW.rdP _ hga rfl 5 rfl | exact hW.rdOwnP _ hga rfl 5 rfl | exact hW.rdP _ hga rfl 6 rfl | exact hW.rdOwnP _ hga rfl 6 rfl | exact hW.rdP _ hga rfl 7 rfl | exact hW.rdOwnP _ hga rfl 7 rfl | exact hW.rdP _ hga rfl 8 rfl | exact hW.rdOwnP _ hga rfl 8 rfl | exact hW.rdP _ hga rfl 9 rfl | exact hW.rdOwnP _ hga rfl 9 rfl | exact hW.rdP _ hga rfl 10 rfl | exact hW.rdOwnP _ hga rfl 10 rfl | exact hW.rdP _ hga rfl 11 rfl | exact hW.rdOwnP _ hga rfl 11 rfl | exact hW.rdP _ hga rfl 12 rfl | exact hW.rdOwnP _ hga rfl 12 rfl | exact hW.rdP _ hga rfl 13 rfl | exact hW.rdOwnP _ hga rfl 13 rfl | exact hW.rdP _ hga rfl 14 rfl | exact hW.rdOwnP _ hga rfl 14 rfl | exact hW.rdP _ hga rfl 15 rfl | exact hW.rdOwnP _ hga rfl 15 rfl | exact hW.rdP _ hga rfl 16 rfl | exact hW.rdOwnP _ hga rfl 16 rfl | exact hW.rdP _ hga rfl 17 rfl | exact hW.rdOwnP _ hga rfl 17 rfl | exact hW.rdP _ hga rfl 18 rfl | exact hW.rdOwnP _ hga rfl 18 rfl | exact hW.rdP _ hga rfl 19 rfl | exact hW.rdOwnP _ hga rfl 19 rfl | exact hW.rdP _ hga rfl 20 rfl | exact hW.rdOwnP _ hga rfl 20 rfl | exact hW.rdP _ hga rfl 21 rfl | exact hW.rdOwnP _ hga rfl 21 rfl | exact hW.rdP _ hga rfl 22 rfl | exact hW.rdOwnP _ hga rfl 22 rfl | exact hW.rdP _ hga rfl 23 rfl | exact hW.rdOwnP _ hga rfl 23 rfl), trivial⟩ hb (by omega) (by decide))) ?_
        rintro v cs L ⟨x, rfl, _, rfl, rfl⟩
        first
        | refine BothW.mk ?_ ?_
        | skip
        all_goals
          refine AllSl.mk fun l2 => ?_
          refine d_app (ti := tiOf tab) encInt 5 tabOk (xs := y.rooms) (ys := [x]) rfl rfl rfl rfl rfl rfl rfl rfl rfl (by decide) ⟨rfl, rfl⟩ rfl (by first | exact rdAt 0 rfl | exact rdOwnAt 0 rfl | exact rdAt 1 rfl | exact rdOwnAt 1 rfl | exact rdAt 2 rfl | exact rdOwnAt 2 rfl | exact rdAt 3 rfl | exact rdOwnAt 3 rfl | exact rdAt 4 rfl | exact rdOwnAt 4 rfl | exact rdAt 5 rfl | exact rdOwnAt 5 rfl | exact rdAt 6 rfl | exact rdOwnAt 6 rfl | exact rdAt 7 rfl | exact rdOwnAt 7 rfl | exact rdAt 8 rfl | exact rdOwnAt 8 rfl | exact rdAt 9 rfl | exact rdOwnAt 9 rfl | exact rdAt 10 rfl | exact rdOwnAt 10 rfl | exact rdAt 11 rfl | exact rdOwnAt 11 rfl | exact rdAt 12 rfl | exact rdOwnAt 12 rfl | exact rdAt 13 rfl | exact rdOwnAt 13 rfl | exact rdAt 14 rfl | exact rdOwnAt 14 rfl | exact rdAt 15 rfl | exact rdOwnAt 15 rfl | exact rdAt 16 rfl | exact rdOwnAt 16 rfl | exact rdAt 17 rfl | exact rdOwnAt 17 rfl | exact rdAt 18 rfl | exact rdOwnAt 18 rfl | exact rdAt 19 rfl | exact rdOwnAt 19 rfl | exact rdAt 20 rfl | exact rdOwnAt 20 rfl | exact rdAt 21 rfl | exact rdOwnAt 21 rfl | exact rdAt 22 rfl | exact rdOwnAt 22 rfl | exact rdAt 23 rfl | exact rdOwnAt 23 rfl) (by first | omega | (simp; done) | (simp; omega) | (unfold maxLen; omega) | (unfold maxLen; simp; done) | (unfold maxLen; simp; omega)) (by first | omega | (simp; done) | (simp; omega) | (unfold maxLen; omega) | (unfold maxLen; simp; done) | (unfold maxLen; simp; omega)) (by simp [keepF]) (fun z => ?_)
          obtain ⟨y9, hy9⟩ : ∃ y9 : ProgH, y9 = ⟨y.sems, y.groups, y.barriers, (y.rooms ++ [x]), y.threads, y.h0, y.h1, y.h2, z, y.h4⟩ := ⟨_, rfl⟩
          have hv : progV y9 = .agg #[y.h0.val y.sems.length, y.h1.val y.groups.length, y.h2.val y.barriers.length, z.val (y.rooms ++ [x]).length, y.h4.val y.threads.length] := by
            rw [hy9]; rfl
          have hN : y9.pure.small20 := by
            rw [hy9]
            exact ⟨e0, e1, e2, by show (y.rooms ++ [x]).length ≤ 1048576; rw [List.length_append, List.length_singleton]; omega, e4, m5⟩
          refine ret_shift (Shift.pack (G := progO y9) (progN y9 3 4 5 0 6 (by rw [hy9]; rfl) (by rw [hy9]; rfl) (by rw [hy9]; rfl) (by rw [hy9]; rfl) (by rw [hy9]; rfl) (by rw [hy9]; exact fun g hg => inON 7 rfl hg))) ?_
          exact retP [0] ⟨y9, _, hv.symm, hN, rfl, by omega, rfl⟩ rfl rfl ⟨.inl ⟨_, rfl, rfl⟩, trivial⟩ rfl ⟨rfl, trivial⟩ (fun _ => rfl)
  refine ret_shift (Shift.packK (G := progO y) 0 rfl) ?_
  exact retP [0] ⟨y, _, rfl, ⟨e0, e1, e2, e3, e4, m5⟩, rfl, by omega, rfl⟩ rfl rfl ⟨.inl ⟨_, rfl, rfl⟩, trivial⟩ rfl ⟨rfl, trivial⟩ (fun _ => rfl)

/-- A program, sometimes one that is not valid. -/
def CaseR6 (v : Value) (L : List Fct) : Prop := ∃ q : ProgH, v = progV q ∧ q.pure.small20 ∧ L = [fN (progO q)]

set_option maxHeartbeats 8000000 in
set_option maxRecDepth 100000 in
theorem case6_c (i : Sl) (xs : List UInt8) (w : World) (h : At w [slo i cByte 1 xs]) (hb : xs.length ≤ 4294967296) :
    Calls Try.prog 12 #[i.val xs.length] w (Ret w CaseR6) := by
  have ht : (xs.take 2000).length ≤ 2000 := by simp; omega
  refine calls1 Try.func12 rfl tabOk w _ rfl _ rfl _ h ⟨rfl, rfl, trivial⟩ _ (by decide) ?_
  refine stop_callN _ 108 2 cl40 rfl rfl rfl rfl ⟨rfl, rfl⟩ (fun A w hW => (open_c i xs w ⟨(by first | exact hW.rd 0 rfl | exact hW.rdOwn 0 rfl | exact hW.rd 1 rfl | exact hW.rdOwn 1 rfl | exact hW.rd 2 rfl | exact hW.rdOwn 2 rfl | exact hW.rd 3 rfl | exact hW.rdOwn 3 rfl | exact hW.rd 4 rfl | exact hW.rdOwn 4 rfl | exact hW.rd 5 rfl | exact hW.rdOwn 5 rfl | exact hW.rd 6 rfl | exact hW.rdOwn 6 rfl | exact hW.rd 7 rfl | exact hW.rdOwn 7 rfl | exact hW.rd 8 rfl | exact hW.rdOwn 8 rfl | exact hW.rd 9 rfl | exact hW.rdOwn 9 rfl | exact hW.rd 10 rfl | exact hW.rdOwn 10 rfl | exact hW.rd 11 rfl | exact hW.rdOwn 11 rfl | exact hW.rd 12 rfl | exact hW.rdOwn 12 rfl | exact hW.rd 13 rfl | exact hW.rdOwn 13 rfl | exact hW.rd 14 rfl | exact hW.rdOwn 14 rfl | exact hW.rd 15 rfl | exact hW.rdOwn 15 rfl | exact hW.rd 16 rfl | exact hW.rdOwn 16 rfl | exact hW.rd 17 rfl | exact hW.rdOwn 17 rfl | exact hW.rd 18 rfl | exact hW.rdOwn 18 rfl | exact hW.rd 19 rfl | exact hW.rdOwn 19 rfl | exact hW.rd 20 rfl | exact hW.rdOwn 20 rfl | exact hW.rd 21 rfl | exact hW.rdOwn 21 rfl | exact hW.rd 22 rfl | exact hW.rdOwn 22 rfl | exact hW.rd 23 rfl | exact hW.rdOwn 23 rfl), trivial⟩ hb)) ?_
  rintro cs L ⟨rfl, rfl⟩
  refine stop_callP _ cl42 rfl rfl rfl rfl ⟨rfl, rfl⟩ rfl rfl (fun A w ga hga hW hblk => (draw6_c ga (openI i xs) (xs.take 2000) _ w hblk ⟨(by first | exact openAt (hW.rdP _ hga rfl 0 rfl) | exact openAt (hW.rdP _ hga rfl 1 rfl) | exact openAt (hW.rdP _ hga rfl 2 rfl) | exact openAt (hW.rdP _ hga rfl 3 rfl) | exact openAt (hW.rdP _ hga rfl 4 rfl) | exact openAt (hW.rdP _ hga rfl 5 rfl) | exact openAt (hW.rdP _ hga rfl 6 rfl) | exact openAt (hW.rdP _ hga rfl 7 rfl) | exact openAt (hW.rdP _ hga rfl 8 rfl) | exact openAt (hW.rdP _ hga rfl 9 rfl) | exact openAt (hW.rdP _ hga rfl 10 rfl) | exact openAt (hW.rdP _ hga rfl 11 rfl) | exact openAt (hW.rdP _ hga rfl 12 rfl) | exact openAt (hW.rdP _ hga rfl 13 rfl) | exact openAt (hW.rdP _ hga rfl 14 rfl) | exact openAt (hW.rdP _ hga rfl 15 rfl) | exact openAt (hW.rdP _ hga rfl 16 rfl) | exact openAt (hW.rdP _ hga rfl 17 rfl) | exact openAt (hW.rdP _ hga rfl 18 rfl) | exact openAt (hW.rdP _ hga rfl 19 rfl) | exact openAt (hW.rdP _ hga rfl 20 rfl) | exact openAt (hW.rdP _ hga rfl 21 rfl) | exact openAt (hW.rdP _ hga rfl 22 rfl) | exact openAt (hW.rdP _ hga rfl 23 rfl)), trivial⟩ ht (by omega))) ?_
  rintro v cs L ⟨q, p1, rfl, ok, rfl, hp1, rfl⟩
  refine stop_callP _ cl41 rfl rfl rfl rfl ⟨rfl, rfl⟩ rfl rfl (fun A w ga hga hW hblk => (wrong6_c ga (openI i xs) (xs.take 2000) _ q w hblk ⟨(by first | exact openAt (hW.rdP _ hga rfl 0 rfl) | exact openAt (hW.rdP _ hga rfl 1 rfl) | exact openAt (hW.rdP _ hga rfl 2 rfl) | exact openAt (hW.rdP _ hga rfl 3 rfl) | exact openAt (hW.rdP _ hga rfl 4 rfl) | exact openAt (hW.rdP _ hga rfl 5 rfl) | exact openAt (hW.rdP _ hga rfl 6 rfl) | exact openAt (hW.rdP _ hga rfl 7 rfl) | exact openAt (hW.rdP _ hga rfl 8 rfl) | exact openAt (hW.rdP _ hga rfl 9 rfl) | exact openAt (hW.rdP _ hga rfl 10 rfl) | exact openAt (hW.rdP _ hga rfl 11 rfl) | exact openAt (hW.rdP _ hga rfl 12 rfl) | exact openAt (hW.rdP _ hga rfl 13 rfl) | exact openAt (hW.rdP _ hga rfl 14 rfl) | exact openAt (hW.rdP _ hga rfl 15 rfl) | exact openAt (hW.rdP _ hga rfl 16 rfl) | exact openAt (hW.rdP _ hga rfl 17 rfl) | exact openAt (hW.rdP _ hga rfl 18 rfl) | exact openAt (hW.rdP _ hga rfl 19 rfl) | exact openAt (hW.rdP _ hga rfl 20 rfl) | exact openAt (hW.rdP _ hga rfl 21 rfl) | exact openAt (hW.rdP _ hga rfl 22 rfl) | exact openAt (hW.rdP _ hga rfl 23 rfl)), hW.getP _ hga rfl 0 rfl (.O_R fun _ h => h), trivial⟩ ht (by omega) ok)) ?_
  rintro v cs L ⟨y, p2, rfl, hy, rfl, _, rfl⟩
  exact retw [0] ⟨y, rfl, hy, rfl⟩ ⟨.inl ⟨_, rfl, rfl⟩, trivial⟩ rfl ⟨rfl, trivial⟩ (fun _ => rfl)

end Go.Proofs.Ytjkkoonennpceaa

namespace Go.Proofs.Ytjkkoonennpceaa

open Go Go.Sx Go.RowKit

theorem evL_nil {α β : Type} {f : Nat → α → List β} : ∀ {xs : List α} {i : Nat}, (∀ j x, x ∈ xs → f j x = []) → evL f i xs = []
  | [], _, _ => rfl
  | x :: r, i, h => by rw [evL, h i x (by simp), evL_nil fun j y hy => h j y (List.mem_cons_of_mem _ hy)]; rfl

theorem start_events (p : Prog) : events (start p) = [] := by
  simp only [events, List.append_eq_nil_iff]
  refine ⟨⟨⟨⟨evL_nil fun j x hx => ?_, evL_nil fun j x hx => ?_⟩, evL_nil fun j x hx => ?_⟩, evL_nil fun j x hx => ?_⟩, evL_nil fun j x hx => ?_⟩
  · obtain ⟨n, _, rfl⟩ := List.mem_map.1 hx; rfl
  · simp [start] at hx; subst hx; rfl
  · obtain ⟨n, _, rfl⟩ := List.mem_map.1 hx; rfl
  · obtain ⟨n, _, rfl⟩ := List.mem_map.1 hx; rfl
  · obtain ⟨n, _, rfl⟩ := List.mem_map.1 hx; rfl

theorem start_owners (p : Prog) : owners (start p) = [] := evL_nil fun j x hx => by simp [start] at hx; subst hx; rfl

theorem start_fits {p : Prog} (ok : ProgOk p) : Fits p (start p) := by
  refine ⟨ok, by simp [start], by simp [start], by simp [start], by simp [start], by simp [start], by simp [start], rfl, by simp [start], by simp [start], by simp [start], fun i x hx => ?_, fun x hx => ?_, fun i x hx => ?_, fun i x hx => ?_, fun x hx => ?_, fun v hv => by simp [start] at hv, fun t ops a st h1 h2 h3 => ?_, fun e he => ?_, fun e he => ?_⟩
  · simp only [start, List.getElem?_map, Option.map_eq_some_iff] at hx
    obtain ⟨n, hn, rfl⟩ := hx
    have := ok.sems.2 n (List.mem_of_getElem? hn)
    exact ⟨⟨by simp only; omega, by simp only; omega, by simp only; omega, Int.le_refl _, by simp, by simp, show distinct [] = true by decide, by simp⟩, hn⟩
  · obtain ⟨n, hn, rfl⟩ := List.mem_map.1 hx
    have := ok.groups.2 n hn
    exact ⟨by simp [isValue]; omega, show distinct [] = true by decide, .inr rfl⟩
  · simp only [start, List.getElem?_map, Option.map_eq_some_iff] at hx
    obtain ⟨n, hn, rfl⟩ := hx
    have := ok.barriers.2 n (List.mem_of_getElem? hn)
    exact ⟨⟨by simp only; omega, by simp only; omega, Int.le_refl _, show (0 : Int) ≤ 9999 by decide, by simp only [List.length_nil]; omega, show distinct [] = true by decide⟩, hn⟩
  · simp only [start, List.getElem?_map, Option.map_eq_some_iff] at hx
    obtain ⟨n, hn, rfl⟩ := hx
    have := ok.rooms.2 n (List.mem_of_getElem? hn)
    refine ⟨?_, hn⟩
    have hv : (⟨n, [], [], [], false⟩ : Chan).Valid := by
      refine ⟨?_, ?_, ?_, ?_, ?_, ?_, ?_, ?_⟩ <;> first | (simp only; omega) | (simp; done) | (simp [Chan.threads, distinct]; done) | (simp; omega)
    rw [Chan.valid, decide_eq_true hv]
  · simp [start] at hx; subst hx; exact .inl ⟨rfl, rfl, rfl, rfl⟩
  · simp only [start, List.getElem?_map, h1, Option.map_some, Option.some.injEq] at h2 h3
    subst h2; subst h3
    rw [start_events, start_owners]
    refine ⟨Int.le_refl _, by omega, ?_⟩
    by_cases e : ops.length = 0
    · exact .inl ⟨by omega, by rw [rest, if_pos e], rfl, rfl⟩
    · refine .inr ⟨ops[0]'(by omega), by simp, .inl ⟨by rw [rest, if_neg e], rfl, rfl⟩⟩
  · rw [start_events] at he; cases he
  · rw [start_owners] at he; cases he

/-- How many threads have something to do. -/
def busy (ts : List (List Op)) : Nat := (ts.filter fun t => decide (0 < t.length)).length

theorem busy_ready : ∀ (ts : List (List Op)) (i : Nat), (evL evReady i (ts.map rest)).length = busy ts
  | [], i => rfl
  | t :: r, i => by
    have ih := busy_ready r (i + 1)
    rw [List.map_cons, evL, List.length_append, ih, busy, busy, List.filter_cons]
    by_cases e : t.length = 0
    · rw [rest, if_pos e, if_neg (by simp [e]), evReady, if_neg (by decide)]; simp
    · rw [rest, if_neg e, if_pos (decide_eq_true (by omega))]
      rw [List.length_cons, Nat.add_comm]; rfl

theorem start_ready (p : Prog) : (readyM (start p)).length = busy p.threads := by
  rw [readyM, if_pos (show (start p).fault = 0 from rfl)]
  exact busy_ready _ _

theorem start_over {p : Prog} (ok : ProgOk p) : Over p (start p) ↔ busy p.threads = 0 := by
  constructor
  · intro h
    rw [busy, List.length_eq_zero_iff, List.filter_eq_nil_iff]
    intro t ht
    have := h.2.2 (rest t) (List.mem_map_of_mem ht)
    rw [rest] at this
    split at this
    · rename_i h0; simp [h0]
    · omega
  · intro h
    refine ⟨start_fits ok, rfl, fun x hx => ?_⟩
    obtain ⟨t, ht, rfl⟩ := List.mem_map.1 hx
    rw [busy, List.length_eq_zero_iff, List.filter_eq_nil_iff] at h
    have := h t ht
    rw [rest, if_pos (by simpa using this)]

end Go.Proofs.Ytjkkoonennpceaa

namespace Go.Proofs.Ytjkkoonennpceaa

open Go Go.Sx Go.RowKit

set_option maxHeartbeats 4000000 in
set_option maxRecDepth 100000 in
theorem startD_c (i : Sl) (xs : List UInt8) (w : World) (h : At w [slo i cByte 1 xs]) (hb : xs.length ≤ 4294967296) :
    Calls Try.prog 4 #[i.val xs.length] w (Ret w CaseR6) := by
  refine calls1 Try.func4 rfl tabOk w _ rfl _ rfl _ h ⟨rfl, rfl, trivial⟩ _ (by decide) ?_
  refine stop_call _ cl12 rfl rfl rfl rfl ⟨rfl, rfl⟩ (fun A w hW => (case6_c i xs w ⟨(by first | exact hW.rd 0 rfl | exact hW.rdOwn 0 rfl | exact hW.rd 1 rfl | exact hW.rdOwn 1 rfl | exact hW.rd 2 rfl | exact hW.rdOwn 2 rfl | exact hW.rd 3 rfl | exact hW.rdOwn 3 rfl | exact hW.rd 4 rfl | exact hW.rdOwn 4 rfl | exact hW.rd 5 rfl | exact hW.rdOwn 5 rfl | exact hW.rd 6 rfl | exact hW.rdOwn 6 rfl | exact hW.rd 7 rfl | exact hW.rdOwn 7 rfl | exact hW.rd 8 rfl | exact hW.rdOwn 8 rfl | exact hW.rd 9 rfl | exact hW.rdOwn 9 rfl | exact hW.rd 10 rfl | exact hW.rdOwn 10 rfl | exact hW.rd 11 rfl | exact hW.rdOwn 11 rfl | exact hW.rd 12 rfl | exact hW.rdOwn 12 rfl | exact hW.rd 13 rfl | exact hW.rdOwn 13 rfl | exact hW.rd 14 rfl | exact hW.rdOwn 14 rfl | exact hW.rd 15 rfl | exact hW.rdOwn 15 rfl | exact hW.rd 16 rfl | exact hW.rdOwn 16 rfl | exact hW.rd 17 rfl | exact hW.rdOwn 17 rfl | exact hW.rd 18 rfl | exact hW.rdOwn 18 rfl | exact hW.rd 19 rfl | exact hW.rdOwn 19 rfl | exact hW.rd 20 rfl | exact hW.rdOwn 20 rfl | exact hW.rd 21 rfl | exact hW.rdOwn 21 rfl | exact hW.rd 22 rfl | exact hW.rdOwn 22 rfl | exact hW.rd 23 rfl | exact hW.rdOwn 23 rfl), trivial⟩ hb)) ?_
  rintro v L ⟨q, rfl, hq, rfl⟩
  exact retw [0] ⟨q, rfl, hq, rfl⟩ ⟨.inl ⟨_, rfl, rfl⟩, trivial⟩ rfl ⟨rfl, trivial⟩ (fun _ => rfl)

theorem start_two {p : Prog} {x y : State} {b c : Bool} (i1 : b = true ↔ ProgOk p) (i2 : b = true → x = start p) (i3 : b = false → x = State.zero) (j1 : c = true ↔ ProgOk p) (j2 : c = true → y = start p) (j3 : c = false → y = State.zero) : y = x ∧ c = b ∧ x.small20 := by
  have e : c = b := Bool.eq_iff_iff.2 (j1.trans i1.symm)
  subst e
  cases c with
  | true => exact ⟨(j2 rfl).trans (i2 rfl).symm, rfl, by rw [i2 rfl]; exact start_small (i1.1 rfl)⟩
  | false => exact ⟨(j3 rfl).trans (i3 rfl).symm, rfl, by rw [i3 rfl]; exact zero_small20⟩

theorem busy_le (ts : List (List Op)) (k : Nat) : busy (ts.take k) ≤ k := by
  have h := List.length_filter_le (fun t : List Op => decide (0 < t.length)) (ts.take k)
  have h2 := List.length_take_le k ts
  rw [busy]; omega

theorem busy_take_succ {ts : List (List Op)} {k : Nat} (h : k < ts.length) : busy (ts.take (k + 1)) = busy (ts.take k) + (if 0 < ts[k].length then 1 else 0) := by
  rw [List.take_succ_eq_append_getElem h, busy, busy, List.filter_append, List.length_append]
  by_cases e : 0 < ts[k].length
  · rw [if_pos e, List.filter_cons_of_pos (by simpa using e)]; simp
  · rw [if_neg e, List.filter_cons_of_neg (by simpa using e)]; simp

set_option maxHeartbeats 16000000 in
set_option maxRecDepth 100000 in
theorem lawStartProg_c (i : Sl) (xs : List UInt8) (w : World) (h : At w [slo i cByte 1 xs]) :
    Calls Try.prog 3 #[i.val xs.length] w (Ret w fun v L => v = .bool true ∧ L = []) := by
  refine calls1 Try.func3 rfl tabOk w _ rfl _ rfl _ h ⟨rfl, rfl, trivial⟩ _ (by decide) ?_
  refine CaseB.mk (fun h0 => ?_) (fun h0 => ?_)
  · exact retw [] ⟨rfl, rfl⟩ trivial rfl trivial (fun _ => rfl)
  have hb : xs.length ≤ 4294967296 := by simp at h0; omega
  refine stop_call _ cl4 rfl rfl rfl rfl ⟨rfl, rfl⟩ (fun A w hW => (startD_c i xs w ⟨(by first | exact hW.rd 0 rfl | exact hW.rdOwn 0 rfl | exact hW.rd 1 rfl | exact hW.rdOwn 1 rfl | exact hW.rd 2 rfl | exact hW.rdOwn 2 rfl | exact hW.rd 3 rfl | exact hW.rdOwn 3 rfl | exact hW.rd 4 rfl | exact hW.rdOwn 4 rfl | exact hW.rd 5 rfl | exact hW.rdOwn 5 rfl | exact hW.rd 6 rfl | exact hW.rdOwn 6 rfl | exact hW.rd 7 rfl | exact hW.rdOwn 7 rfl | exact hW.rd 8 rfl | exact hW.rdOwn 8 rfl | exact hW.rd 9 rfl | exact hW.rdOwn 9 rfl | exact hW.rd 10 rfl | exact hW.rdOwn 10 rfl | exact hW.rd 11 rfl | exact hW.rdOwn 11 rfl | exact hW.rd 12 rfl | exact hW.rdOwn 12 rfl | exact hW.rd 13 rfl | exact hW.rdOwn 13 rfl | exact hW.rd 14 rfl | exact hW.rdOwn 14 rfl | exact hW.rd 15 rfl | exact hW.rdOwn 15 rfl | exact hW.rd 16 rfl | exact hW.rdOwn 16 rfl | exact hW.rd 17 rfl | exact hW.rdOwn 17 rfl | exact hW.rd 18 rfl | exact hW.rdOwn 18 rfl | exact hW.rd 19 rfl | exact hW.rdOwn 19 rfl | exact hW.rd 20 rfl | exact hW.rdOwn 20 rfl | exact hW.rd 21 rfl | exact hW.rdOwn 21 rfl | exact hW.rd 22 rfl | exact hW.rdOwn 22 rfl | exact hW.rd 23 rfl | exact hW.rdOwn 23 rfl), trivial⟩ hb)) ?_
  rintro v L ⟨p, rfl, hp, rfl⟩
  refine stop_call _ cl5 rfl rfl rfl rfl ⟨rfl, rfl⟩ (fun A w hW => startProg_c p w ⟨hW.get 0 rfl (fN_fR _), trivial⟩ (prog_small hp)) ?_
  rintro v L ⟨s, b, rfl, i1, i2, i3, rfl⟩
  refine stop_call _ cl6 rfl rfl rfl rfl ⟨rfl, rfl⟩ (fun A w hW => startProgS_c p w ⟨hW.get 1 rfl (fN_fR _), trivial⟩ (prog_small hp)) ?_
  rintro v L ⟨y, c, rfl, j1, j2, j3, rfl⟩
  obtain ⟨hyx, rfl, hxs⟩ := start_two i1 i2 i3 j1 j2 j3
  have hys : y.pure.small20 := by rw [hyx]; exact hxs
  refine stop_call _ cl7 rfl rfl rfl rfl ⟨rfl, rfl⟩ (fun A w hW => stateSame_c s y w ⟨hW.get 1 rfl (.O_R fun _ h => h), hW.get 0 rfl (.O_R fun _ h => h), trivial⟩ hxs hys) ?_
  rintro v L ⟨rfl, rfl⟩
  refine CaseB.mk (fun g => by simp [hyx] at g) (fun _ => ?_)
  refine CaseB.mk (fun g => by simp at g) (fun _ => ?_)
  refine stop_call _ cl8 rfl rfl rfl rfl ⟨rfl, rfl⟩ (fun A w hW => progValid_c p w ⟨hW.get 2 rfl (fN_fR _), trivial⟩ (prog_small hp)) ?_
  rintro v L ⟨bv, rfl, hbv, rfl⟩
  obtain rfl : bv = c := Bool.eq_iff_iff.2 (hbv.trans i1.symm)
  refine CaseB.mk (fun g => by simp at g) (fun _ => ?_)
  refine CaseB.mk (fun g => ?_) (fun g => ?_)
  · refine stop_call _ cl7 rfl rfl rfl rfl ⟨rfl, rfl⟩ (fun A w hW => stateSame_c s y w ⟨hW.get 1 rfl (.O_R fun _ h => h), hW.get 0 rfl (.O_R fun _ h => h), trivial⟩ hxs hys) ?_
    rintro v L ⟨rfl, rfl⟩
    refine CaseB.mk (fun _ => ?_) (fun g => by simp [hyx] at g)
    refine CaseB.mk (fun _ => ?_) (fun g => by simp at g)
    refine stop_call _ cl8 rfl rfl rfl rfl ⟨rfl, rfl⟩ (fun A w hW => progValid_c p w ⟨hW.get 2 rfl (fN_fR _), trivial⟩ (prog_small hp)) ?_
    rintro v L ⟨bw, rfl, hbw, rfl⟩
    obtain rfl : bw = bv := Bool.eq_iff_iff.2 (hbw.trans i1.symm)
    refine retw [] ⟨?_, rfl⟩ trivial rfl trivial (fun _ => rfl)
    simp
  have ok := i1.1 (by simpa using g)
  have hst := i2 (by simpa using g)
  have h4 : p.threads.length ≤ 4 := by have := ok.n4; simpa [ProgH.pure] using this
  refine LoopW.mk ⟨{ k : Nat // k ≤ p.threads.length },
    fun k => .mk [(3, .p 0 0), (4, .p 1 0), (8, .v (.int .i64 ((busy ((p.threads.map (·.m)).take k.1) : Nat) : Int))), (9, .v (.int .i64 (k.1 : Int)))] 2 0 [(1, 34, 9), (0, 26, 5)] [((0, 0), .v (p.h0.val p.sems.length)), ((0, 1), .v (p.h1.val p.groups.length)), ((0, 2), .v (p.h2.val p.barriers.length)), ((0, 3), .v (p.h3.val p.rooms.length)), ((0, 4), .v (p.h4.val p.threads.length)), ((1, 0), .v (s.h0.val s.places.length)), ((1, 1), .v (s.h1.val s.status.length)), ((1, 2), .v (s.h2.val s.sems.length)), ((1, 3), .v (s.h3.val s.onces.length)), ((1, 4), .v (s.h4.val s.groups.length)), ((1, 5), .v (s.h5.val s.barriers.length)), ((1, 6), .v (s.h6.val s.chans.length)), ((1, 7), .v (s.h7.val s.said.length)), ((1, 8), .v (.int .i64 s.fault))] [fO (stateO s), fN (progO p)],
    fun k => p.threads.length - k.1, ⟨0, Nat.zero_le _⟩, ?_, ?_⟩
  · refine weak_mk [1, 2] ?_ ?_ ?_ ?_ ?_ rfl rfl
    · repeat (first | exact trivial | refine ⟨⟨_, rfl, (by first | exact .of rfl | exact .lit rfl | exact .of (by first | (rfl)) | exact .lit (by first | (rfl))), (by first | exact trivial | exact Nat.le_of_ble_eq_true rfl | exact small1 rfl)⟩, ?_⟩)
    · repeat (first | exact trivial | refine ⟨⟨(by first | exact .head _ | exact .tail _ (.head _) | exact .tail _ (.tail _ (.head _)) | exact .tail _ (.tail _ (.tail _ (.head _))) | exact .tail _ (.tail _ (.tail _ (.tail _ (.head _)))) | exact .tail _ (.tail _ (.tail _ (.tail _ (.tail _ (.head _))))) | exact .tail _ (.tail _ (.tail _ (.tail _ (.tail _ (.tail _ (.head _)))))) | exact .tail _ (.tail _ (.tail _ (.tail _ (.tail _ (.tail _ (.tail _ (.head _))))))) | exact .tail _ (.tail _ (.tail _ (.tail _ (.tail _ (.tail _ (.tail _ (.tail _ (.head _)))))))) | exact .tail _ (.tail _ (.tail _ (.tail _ (.tail _ (.tail _ (.tail _ (.tail _ (.tail _ (.head _)))))))))), Nat.le_of_ble_eq_true rfl⟩, ?_⟩)
    · repeat (first | exact trivial | refine ⟨⟨_, rfl, (by first | exact .of rfl | exact .lit rfl | exact .of (by first | (rfl)) | exact .lit (by first | (rfl))), (by first | exact trivial | exact Nat.le_of_ble_eq_true rfl | exact small1 rfl)⟩, ?_⟩)
    · repeat (first | exact trivial | refine ⟨⟨_, rfl⟩, ?_⟩)
    · repeat (first | exact trivial | refine ⟨.inl ⟨_, rfl, (by first | rfl | (rfl))⟩, ?_⟩ | refine ⟨.inr ⟨Nat.le_of_ble_eq_true rfl, rfl, rfl, rfl, rfl⟩, ?_⟩)
  rintro ⟨k, hk⟩
  simp only
  have hbk := busy_le (p.threads.map (·.m)) k
  refine CaseB.mk (fun g => ?_) (fun g => ?_)
  · have hlt : k < p.threads.length := by simpa using g
    have hw := e_succ k _ hlt (by omega)
    have hb2 := e_succ (busy ((p.threads.map (·.m)).take k)) (k + 1) (by omega) (by omega)
    have hsu := busy_take_succ (ts := p.threads.map (·.m)) (k := k) (by simpa using hlt)
    rw [List.getElem_map] at hsu
    refine stop_idx encOpSH tabOk rfl rfl rfl rfl rfl ⟨rfl, rfl⟩ (rdVia 1 rfl (.trans (fN_fR _) (.trans (.R_R (progO_threads p)) (.ofR nest_h)))) k rfl (by first | omega | (simp; done) | (simp; omega) | (unfold maxLen; omega) | (unfold maxLen; simp; done) | (unfold maxLen; simp; omega)) (fun ad => ?_)
    refine CaseB.mk (fun g2 => ?_) (fun g2 => ?_)
    · have g3 : 0 < (p.threads[k]).m.length := by have := of_decide_eq_true g2; omega
      rw [if_pos g3] at hsu
      refine ⟨⟨k + 1, hlt⟩, ?_, by simp only; omega⟩
      refine weak_mk [0, 1] ?_ ?_ ?_ ?_ ?_ rfl rfl
      · repeat (first | exact trivial | refine ⟨⟨_, rfl, (by first | exact .of rfl | exact .lit rfl | exact .of (by first | ((first | exact congrArg (fun z => SV.v (Value.int .i64 z)) hw | exact congrArg (fun z => SV.v (Value.int .i64 z)) (hb2.trans (by rw [hsu]))))) | exact .lit (by first | ((first | exact congrArg (fun z => SV.v (Value.int .i64 z)) hw | exact congrArg (fun z => SV.v (Value.int .i64 z)) (hb2.trans (by rw [hsu])))))), (by first | exact trivial | exact Nat.le_of_ble_eq_true rfl | exact small1 rfl)⟩, ?_⟩)
      · repeat (first | exact trivial | refine ⟨⟨(by first | exact .head _ | exact .tail _ (.head _) | exact .tail _ (.tail _ (.head _)) | exact .tail _ (.tail _ (.tail _ (.head _))) | exact .tail _ (.tail _ (.tail _ (.tail _ (.head _)))) | exact .tail _ (.tail _ (.tail _ (.tail _ (.tail _ (.head _))))) | exact .tail _ (.tail _ (.tail _ (.tail _ (.tail _ (.tail _ (.head _)))))) | exact .tail _ (.tail _ (.tail _ (.tail _ (.tail _ (.tail _ (.tail _ (.head _))))))) | exact .tail _ (.tail _ (.tail _ (.tail _ (.tail _ (.tail _ (.tail _ (.tail _ (.head _)))))))) | exact .tail _ (.tail _ (.tail _ (.tail _ (.tail _ (.tail _ (.tail _ (.tail _ (.tail _ (.head _)))))))))), Nat.le_of_ble_eq_true rfl⟩, ?_⟩)
      · repeat (first | exact trivial | refine ⟨⟨_, rfl, (by first | exact .of rfl | exact .lit rfl | exact .of (by first | ((first | exact congrArg (fun z => SV.v (Value.int .i64 z)) hw | exact congrArg (fun z => SV.v (Value.int .i64 z)) (hb2.trans (by rw [hsu]))))) | exact .lit (by first | ((first | exact congrArg (fun z => SV.v (Value.int .i64 z)) hw | exact congrArg (fun z => SV.v (Value.int .i64 z)) (hb2.trans (by rw [hsu])))))), (by first | exact trivial | exact Nat.le_of_ble_eq_true rfl | exact small1 rfl)⟩, ?_⟩)
      · repeat (first | exact trivial | refine ⟨⟨_, rfl⟩, ?_⟩)
      · repeat (first | exact trivial | refine ⟨.inl ⟨_, rfl, (by first | rfl | ((first | exact congrArg (fun z => SV.v (Value.int .i64 z)) hw | exact congrArg (fun z => SV.v (Value.int .i64 z)) (hb2.trans (by rw [hsu])))))⟩, ?_⟩ | refine ⟨.inr ⟨Nat.le_of_ble_eq_true rfl, rfl, rfl, rfl, rfl⟩, ?_⟩)
    have g3 : ¬ 0 < (p.threads[k]).m.length := by have := of_decide_eq_false g2; omega
    rw [if_neg g3] at hsu
    refine ⟨⟨k + 1, hlt⟩, ?_, by simp only; omega⟩
    refine weak_mk [0, 1] ?_ ?_ ?_ ?_ ?_ rfl rfl
    · repeat (first | exact trivial | refine ⟨⟨_, rfl, (by first | exact .of rfl | exact .lit rfl | exact .of (by first | ((first | exact congrArg (fun z => SV.v (Value.int .i64 z)) hw | exact congrArg (fun z : Nat => SV.v (Value.int .i64 (z : Int))) hsu.symm))) | exact .lit (by first | ((first | exact congrArg (fun z => SV.v (Value.int .i64 z)) hw | exact congrArg (fun z : Nat => SV.v (Value.int .i64 (z : Int))) hsu.symm)))), (by first | exact trivial | exact Nat.le_of_ble_eq_true rfl | exact small1 rfl)⟩, ?_⟩)
    · repeat (first | exact trivial | refine ⟨⟨(by first | exact .head _ | exact .tail _ (.head _) | exact .tail _ (.tail _ (.head _)) | exact .tail _ (.tail _ (.tail _ (.head _))) | exact .tail _ (.tail _ (.tail _ (.tail _ (.head _)))) | exact .tail _ (.tail _ (.tail _ (.tail _ (.tail _ (.head _))))) | exact .tail _ (.tail _ (.tail _ (.tail _ (.tail _ (.tail _ (.head _)))))) | exact .tail _ (.tail _ (.tail _ (.tail _ (.tail _ (.tail _ (.tail _ (.head _))))))) | exact .tail _ (.tail _ (.tail _ (.tail _ (.tail _ (.tail _ (.tail _ (.tail _ (.head _)))))))) | exact .tail _ (.tail _ (.tail _ (.tail _ (.tail _ (.tail _ (.tail _ (.tail _ (.tail _ (.head _)))))))))), Nat.le_of_ble_eq_true rfl⟩, ?_⟩)
    · repeat (first | exact trivial | refine ⟨⟨_, rfl, (by first | exact .of rfl | exact .lit rfl | exact .of (by first | ((first | exact congrArg (fun z => SV.v (Value.int .i64 z)) hw | exact congrArg (fun z : Nat => SV.v (Value.int .i64 (z : Int))) hsu.symm))) | exact .lit (by first | ((first | exact congrArg (fun z => SV.v (Value.int .i64 z)) hw | exact congrArg (fun z : Nat => SV.v (Value.int .i64 (z : Int))) hsu.symm)))), (by first | exact trivial | exact Nat.le_of_ble_eq_true rfl | exact small1 rfl)⟩, ?_⟩)
    · repeat (first | exact trivial | refine ⟨⟨_, rfl⟩, ?_⟩)
    · repeat (first | exact trivial | refine ⟨.inl ⟨_, rfl, (by first | rfl | ((first | exact congrArg (fun z => SV.v (Value.int .i64 z)) hw | exact congrArg (fun z : Nat => SV.v (Value.int .i64 (z : Int))) hsu.symm)))⟩, ?_⟩ | refine ⟨.inr ⟨Nat.le_of_ble_eq_true rfl, rfl, rfl, rfl, rfl⟩, ?_⟩)
  have hge : p.threads.length ≤ k := by simpa using g
  rw [List.take_of_length_le (by simpa using hge)] at hbk ⊢
  have ft : Fits p.pure s.pure := by rw [hst]; exact start_fits ok
  have hrl : (readyM s.pure).length = busy (p.threads.map (·.m)) := by rw [hst]; exact start_ready p.pure
  have hsd : s.said.length = 0 := by have : s.pure.said = [] := by rw [hst]; rfl
                                     exact congrArg List.length this
  have hov : Over p.pure s.pure ↔ busy (p.threads.map (·.m)) = 0 := by rw [hst]; exact start_over ok
  have hbz : busy (p.threads.map (·.m)) ≤ 4 := by have := List.length_filter_le (fun t : List Op => decide (0 < t.length)) (p.threads.map (·.m)); rw [busy]; simp at this ⊢; omega
  generalize busy (p.threads.map (·.m)) = N at hrl hov hbz hbk ⊢
  refine stop_call _ cl9 rfl rfl rfl rfl ⟨rfl, rfl⟩ (fun A w hW => stateFits_c p s w ⟨hW.get 1 rfl (fN_fR _), hW.get 0 rfl (.O_R fun _ h => h), trivial⟩ hp hxs) ?_
  rintro v L ⟨bf, rfl, hbf, rfl⟩
  refine CaseB.mk (fun g => ?_) (fun g => by rw [hbf.2 ft] at g; cases g)
  refine stop_call _ cl10 rfl rfl rfl rfl ⟨rfl, rfl⟩ (fun A w hW => readyThreads_c p s w ⟨hW.get 1 rfl (fN_fR _), hW.get 0 rfl (.O_R fun _ h => h), trivial⟩ hp hxs) ?_
  rintro v L ⟨yr, rs, rfl, r1, r2, rfl⟩
  obtain rfl := r1 ft
  refine CaseB.mk (fun g => ?_) (fun g => by simp [hrl] at g)
  refine CaseB.mk (fun g => ?_) (fun g => by simp [hsd] at g)
  refine stop_call _ cl11 rfl rfl rfl rfl ⟨rfl, rfl⟩ (fun A w hW => isOver_c p s w ⟨hW.get 2 rfl (fN_fR _), hW.get 1 rfl (.O_R fun _ h => h), trivial⟩ hp hxs) ?_
  rintro v L ⟨bo, rfl, hbo, rfl⟩
  have e : bo = decide ((N : Int) = 0) := by
    rw [Bool.eq_iff_iff, hbo, hov]; simp
  refine retw [] ⟨?_, rfl⟩ trivial rfl trivial (fun _ => rfl)
  simp [e]
  rw [Bool.eq_iff_iff]
  simp

end Go.Proofs.Ytjkkoonennpceaa

namespace Go.Sx

open Go Go.RowKit Go.ChangeShapes Go.WideShapes

theorem trodAll_below {H : Type} {enc : TypeId × Value → H} {P : Program} (hl : laidOutB P = true) {W W' : World} (hb : Below W.heap.size W W') (sp : Nat → Bool) : ∀ {ts : List TypeId} {vs : List Value} {ds : List (DataW H)} {ps : List MemPlace}, (∀ t ∈ ts, P.readableRec t = true ∧ t < P.types.size) →
    DataW.TrodAll enc P W 0 (fun _ => true) true ts vs ds ps → (∀ x ∈ ps, x.block < W.heap.size) → (∀ x ∈ ps, sp x.block = true) → DataW.TrodAll enc P W' 0 sp true ts vs ds ps
  | [], [], [], ps, _, h, _, _ => h
  | t :: ts, v :: vs, d :: ds, ps, hr, h, hlt, hsp => by
    obtain ⟨p, q, h1, h2, rfl⟩ := h
    have ht := hr t (by simp)
    exact ⟨p, q, WideElems.Trod_stays hl ht.1 ht.2 h1 (fun x hx => hb.same (hlt x (by simp [hx]))) (fun x hx => hsp x (by simp [hx])),
      trodAll_below hl hb sp (fun t ht => hr t (by simp [ht])) h2 (fun x hx => hlt x (by simp [hx])) (fun x hx => hsp x (by simp [hx])), rfl⟩
  | [], _ :: _, _, _, _, h, _, _ => h.elim
  | _ :: _, [], _, _, _, h, _, _ => h.elim
  | [], [], _ :: _, _, _, h, _, _ => h.elim
  | _ :: _, _ :: _, [], _, _, h, _, _ => h.elim

/-- A law that answers true and leaves old memory alone: what its row asks behind the call. -/
theorem law_post {H : Type} {enc : TypeId × Value → H} {P : Program} {f : Func} {s : ChangeSpec} {apart fresh handsOn again : Bool} {W W' : World} {args : Array Value} {ds gs : List (DataW H)} {before : List MemPlace} {tb : TypeId} {pl : List TypeId}
    (hl : laidOutB P = true) (hpl : f.params.toList = pl) (hp : pl.all (fun t => P.readableRec t && decide (t < P.types.size)) = true) (hvars : s.vars = []) (hres : f.resultTypes = #[tb]) (htb : P.underlying tb = some .bool)
    (hspec : s.fn H (ds ++ gs) = { results := [.lit (.bool true)], args := ds })
    (hW : DataW.Whole enc P f.params.toList s.vars apart W args.toList ds gs before) (hb : Below W.heap.size W W') :
    s.post enc P f apart fresh handsOn again W args (.bool true) W' := by
  have hold : ∀ p ∈ before, p.block < W.heap.size := fun p hp => by simpa using hW.lt p hp
  have hW0 := hW
  obtain ⟨pa, pv, hA, hV, hbef, hfz, hnd⟩ := hW
  have hbef' := hbef.symm; clear hbef
  rw [hvars] at hV
  obtain ⟨rfl, rfl⟩ := trodVars_none hV
  rw [List.append_nil] at hbef'
  subst hbef'
  rw [List.append_nil] at hspec
  have hp' : ∀ t ∈ f.params.toList, P.readableRec t = true ∧ t < P.types.size := fun t ht => by
    rw [hpl] at ht
    have := List.all_eq_true.1 hp t ht
    simpa using this
  have hB : ∀ (b : Nat) (sp : Nat → Bool) (hd : Bool), DataW.Trod enc P W' b sp hd tb (.bool true) (.lit (.bool true)) [] := fun b sp hd => ⟨1, by simp [DataW.trod, Value.cells, htb]⟩
  have hrl : (Value.bool true).resultList f.resultTypes.size = [.bool true] := by rw [hres]; rfl
  have hR : ∀ (b : Nat) (sp : Nat → Bool) (hd : Bool), DataW.TrodAll enc P W' b sp hd f.resultTypes.toList ((Value.bool true).resultList f.resultTypes.size) [.lit (.bool true)] [] := fun b sp hd => by
    rw [hrl, hres]; exact trodAll_mk1 (hB b sp hd)
  have hAr := fun sp h => trodAll_below hl hb sp hp' hA hold h
  have hvv : ∀ sp, DataW.TrodVars enc P W' sp s.vars ([] : List (DataW H)) [] := fun sp => by rw [hvars]; rfl
  refine ⟨ds, [], pa, [], pa, [], hW0, ?_, ?_, ?_, ?_, fun _ => ⟨?_, [.lit (.bool true)] ++ ds, [], [] ++ pa, ⟨[] ++ pa, [], trodAll_append (hAr _ (fun _ _ => rfl)) (hR _ _ _), hvv _, by simp, ?_, ?_⟩, fun p hp _ => by simpa using hp⟩⟩
  · simp only [List.append_nil, hspec]; exact hR _ _ _
  · simp only [List.append_nil, hspec]; exact hAr _ (fun p hp => by simpa using hold p hp)
  · simp only [List.append_nil, hspec]; exact hvv _
  · exact World.keptBut_mono (fun p hp => hp.elim) (hb.frame (fun _ => False))
  · intro j t r hj hv
    rw [hrl] at hv
    rw [hres] at hj
    cases j with
    | succ j => simp at hv
    | zero =>
      simp at hj hv
      subst hj; subst hv
      simp [Value.okWide, htb, Cell.okWide, Cell.ok]
  · intro b off hp
    rw [hb.frozen (hold _ (by simpa using hp))]
    exact hfz b off (by simpa using hp)
  · intro h
    simpa using hnd h

section

variable {H : Type} {enc : TypeId × Value → H} {P : Program} {W : World}

theorem cells_inv {α : Type} {el : α → List Value} {sz : Nat} (he : Enc el sz) (h0 : 0 < sz) {xs : List α} {j : Nat} {u : Value} (h : (cells el xs)[j]? = some u) : ∃ (k r : Nat) (hk : k < xs.length), j = k * sz + r ∧ (el xs[k])[r]? = some u := by
  have hlt : j < xs.length * sz := by rw [← cells_length he]; exact (List.getElem?_eq_some_iff.1 h).1
  have hk : j / sz < xs.length := Nat.div_lt_of_lt_mul (by rwa [Nat.mul_comm] at hlt)
  have hr : j % sz < sz := Nat.mod_lt _ h0
  have hj : j = j / sz * sz + j % sz := (Nat.div_add_mod' j sz).symm
  refine ⟨j / sz, j % sz, hk, hj, ?_⟩
  have hr' : j % sz < (el xs[j / sz]).length := by rw [he.len]; exact hr
  have := cells_at he hk (List.getElem?_eq_getElem hr')
  rw [← hj, h] at this
  rw [List.getElem?_eq_getElem hr', ← this]

/-- A slice opened: its elements read one by one. -/
theorem open_sl {α : Type} {el : α → List Value} {sz : Nat} (he : Enc el sz) (h0 : 0 < sz) {t e : TypeId} {fuel : Nat} {cs : List Value} {x : DataW H × List MemPlace} (ht : P.underlying t = some (.slice e)) (hc : P.cellsOf e = sz)
    (hel : ∀ n cs y, DataW.trod enc P W 0 (fun _ => true) true n e cs = some y → ∃ a : α, cs = el a)
    (h : DataW.trod enc P W 0 (fun _ => true) true fuel t cs = some x) :
    ∃ (i : Sl) (xs : List α), cs = [i.val xs.length] ∧ RdS W i sz (cells el xs) xs.length ∧ ∀ b, (fSl true i sz (cells el xs) xs.length).foot b → b < W.heap.size := by
  rcases Deep.open_slice ht h with ⟨rfl, rfl⟩ | ⟨a, len, cap, m, n, D, Pl, rfl, hb, hl, hm, hmm, rfl, hx⟩
  · exact ⟨⟨none, 0⟩, [], rfl, ⟨by simp [cells], by simp, by simp [maxLen], fun h => by simp at h⟩, fun b hb => by have := hb.1; simp at this⟩
  · rw [hc] at hx
    have hlm : len ≤ m := by rw [hmm]; simp; omega
    have hone : ∀ i, i < len → ∃ y : α, ∀ r u, (el y)[r]? = some u → W.cell? (a.add (i * sz + r)) = some u := fun i hi => by
      obtain ⟨cs', h1, h2⟩ := hx i (by omega)
      obtain ⟨y, rfl⟩ := hel _ _ _ h2
      obtain ⟨_, g1, g2⟩ := World.cells?_some h1
      refine ⟨y, fun r u hu => ?_⟩
      have hr : r < sz := by rw [← g1]; exact (List.getElem?_eq_some_iff.1 hu).1
      have := g2 r hr
      rw [addr_add_add, hu] at this
      exact this
    rcases Nat.eq_zero_or_pos len with hz | hz
    · subst hz
      exact ⟨⟨some a, cap⟩, [], rfl, ⟨by simp [cells], by simp, hm, fun h => by simp at h⟩, fun b hb => by have := hb.1; simp at this⟩
    · have : Inhabited α := ⟨(hone 0 hz).choose⟩
      obtain ⟨X, hX⟩ := Deep.choose_lt hone
      have hlen : ((List.range len).map X).length = len := by simp
      refine ⟨⟨some a, cap⟩, (List.range len).map X, by rw [hlen]; rfl, ⟨by rw [cells_length he], by rw [hlen]; exact hl, hm, fun _ => ⟨a, rfl, fun j u hu => ?_⟩⟩, ?_⟩
      · obtain ⟨k, r, hk, rfl, hu'⟩ := cells_inv he h0 hu
        have hk' : k < len := by simpa using hk
        exact hX k hk' r u (by simpa using hu')
      · rintro b ⟨_, ad, had, rfl⟩
        injection had with had
        subst had
        have hr : 0 < (el (X 0)).length := by rw [he.len]; exact h0
        have hc0 := hX 0 hz 0 _ (List.getElem?_eq_getElem hr)
        unfold World.cell? at hc0
        rw [block_add] at hc0
        cases hh : W.heap[a.block]? with
        | none => rw [hh] at hc0; simp at hc0
        | some o => exact (Array.getElem?_eq_some_iff.1 hh).1

theorem val_slice {base : Nat} {t e : TypeId} {r : Reach} {v : Value} {i : Sl} {n : Nat} (ht : P.underlying t = some (.slice e)) (hv : Value.okWide P W r base t v) (h : v.cells.toList = [i.val n]) : v = i.val n := by
  obtain ⟨a, len, cap, rfl⟩ := okWide_slice ht hv
  simpa [Value.cells] using h

end

end Go.Sx

namespace Go.Proofs.Ytjkkoonennpceaa

open Go Go.Sx Go.RowKit Go.ChangeShapes Go.WideShapes

theorem ownNone : ownKnob Try.prog.godebug = none := by kernel_rfl

theorem laidOut : laidOutB Try.prog = true := by kernel_rfl

theorem undB : Try.prog.underlying 22 = some (.slice 5) := by kernel_rfl

theorem und8 : Try.prog.underlying 5 = some (.int .u8) := by kernel_rfl

theorem undBool : Try.prog.underlying 4 = some .bool := by kernel_rfl

set_option maxRecDepth 100000 in
theorem open_bytes {H : Type} {enc : TypeId × Value → H} {W : World} {base : Nat} {v : Value} {d : DataW H} {p : List MemPlace} (hv : Value.okWide Try.prog W .any base 22 v)
    (h : DataW.Trod enc Try.prog W 0 (fun _ => true) true 22 v d p) : ∃ (i : Sl) (xs : List UInt8), v = i.val xs.length ∧ At W [slo i cByte 1 xs] := by
  obtain ⟨fuel, hf⟩ := h
  obtain ⟨i, xs, h1, h2, h3⟩ := open_sl (el := cByte) encByte Nat.zero_lt_one undB (by kernel_rfl) (fun n cs y hy => by
    obtain ⟨k, h1, _, h2⟩ := DataW.trod_int und8 hy
    subst h1
    simp only [Lit.wf, Bool.and_eq_true, decide_eq_true_eq] at h2
    obtain ⟨h2, h3⟩ := h2
    have e1 : IntKind.u8.min = 0 := rfl
    have e2 : IntKind.u8.max = 255 := rfl
    rw [e1] at h2
    rw [e2] at h3
    refine ⟨UInt8.ofNat k.toNat, ?_⟩
    have : (UInt8.ofNat k.toNat).toNat = k.toNat := by rw [UInt8.toNat_ofNat']; omega
    simp only [cByte, this, List.cons.injEq, Value.int.injEq, true_and, and_true]
    omega) hf
  exact ⟨i, xs, val_slice undB hv h1, ⟨h2, h3⟩, trivial⟩

set_option maxRecDepth 100000 in
theorem bytes_lifted {f : FuncId} {fn : Func} {s : ChangeSpec} {conds : List PathCond} (hf : Try.checked.prog.funcs[f]? = some fn) (hfn : Try.checked.prog.inits.idxOf? f = none) (hpl : fn.params = #[22]) (hres : fn.resultTypes = #[4]) (hvars : s.vars = [])
    (hspec : ∀ (H : Type) (d : DataW H), s.fn H [d] = { results := [.lit (.bool true)], args := [d] })
    (hc : ∀ (i : Sl) (xs : List UInt8) (w : World), At w [slo i cByte 1 xs] → Calls Try.prog f #[i.val xs.length] w (Ret w fun v L => v = .bool true ∧ L = []))
    (os : Os) (started : os.Started) (H : Type) (enc : TypeId × Value → H)
    (wit : ∃ (w : World) (tape : Tape) (i : Input), w.os = os ∧ (w.forCall tape i).Shaped Try.checked.prog ∧ i.vars = [] ∧ Input.okWide Try.checked.prog (w.forCall tape i) .any w.heap.size f i ∧
      s.pre6 enc Try.checked.prog fn conds false (w.forCall tape i).memory i.args ∧ ({} : Assume).holds Try.checked.prog (lone (Frame.enter Try.checked.prog f i.args .normal) [] (w.forCall tape i))) :
    ReturnsInHanded {} Try.checked os f .any (s.pre6 enc Try.checked.prog fn conds false) (s.post enc Try.checked.prog fn false true false false) := by
  refine returnsInHanded_of_change (C := Try.checked) ownNone started hfn hf wit ?_
  intro W base args ds gs before hval hW _ _
  have hW' := hW
  obtain ⟨p, q, hA0, hV, _, _, _⟩ := hW
  rw [hpl] at hA0
  have hA : DataW.TrodAll enc Try.prog W 0 (fun _ => true) true [22] args.toList ds p := hA0
  obtain ⟨v0, d0, rfl, rfl, h0⟩ := trodAll_one hA
  obtain ⟨i, xs, rfl, hat⟩ := open_bytes (hval 0 22 v0 (by rw [hpl]; rfl) rfl) h0
  refine (hc i xs W hat).mono fun e W' hR => ?_
  obtain ⟨v, L, rfl, he, _, rfl, _⟩ := hR
  rw [hvars] at hV
  obtain ⟨rfl, _⟩ := trodVars_none hV
  exact ⟨_, rfl, law_post (P := Try.prog) laidOut (pl := [22]) (by rw [hpl]) (by kernel_rfl) hvars hres undBool (hspec H d0) hW' he.below⟩

end Go.Proofs.Ytjkkoonennpceaa
