/- FnMoreChoices: texts that its proof stands on, part 16. -/
import Derived.Test.YtijmjecehppbfaaGreatQMoreChoiceso
namespace Go.Proofs.YtijmjecehppbfaaGreat
set_option maxRecDepth 100000
set_option maxHeartbeats 100000000
open Go Go.Sx Go.RowKit
def vT (y : ProgH) : List Fct := [own y.h0 3 aJ 1 y.sems, own y.h1 3 aJ 1 y.groups, own y.h2 3 aJ 1 y.barriers, own y.h3 3 aJ 1 y.rooms, own y.h4 68 kP 1 y.threads]
theorem lC (y : ProgH) : (aY y).Perm (vT y ++ y.threads.flatMap pX) := .of_eq (by simp [aY, oF, iK, vT])
theorem gO0 {Zs : List Fct} (y : ProgH) (k0 k1 k2 k3 k4 : Nat) (e0 : Zs[k0]? = some (own y.h0 3 aJ 1 y.sems)) (e1 : Zs[k1]? = some (own y.h1 3 aJ 1 y.groups)) (e2 : Zs[k2]? = some (own y.h2 3 aJ 1 y.barriers)) (e3 : Zs[k3]? = some (own y.h3 3 aJ 1 y.rooms)) (e4 : Zs[k4]? = some (own y.h4 68 kP 1 y.threads))
   (hin : ∀ g ∈ y.threads.flatMap pX, ∃ f ∈ Zs, f.old = false ∧ Rd f g.aged) : ∀ g ∈ aY y, ∃ f ∈ Zs, f.old = false ∧ Rd f g.aged := by
 intro g hg
 rcases List.mem_append.1 ((lC y).mem_iff.1 hg) with hg | hg
 · simp only [vT, List.mem_cons, List.not_mem_nil, or_false] at hg
   rcases hg with rfl | rfl | rfl | rfl | rfl
   · exact ⟨_, List.mem_of_getElem? e0, rfl, .aged _⟩
   · exact ⟨_, List.mem_of_getElem? e1, rfl, .aged _⟩
   · exact ⟨_, List.mem_of_getElem? e2, rfl, .aged _⟩
   · exact ⟨_, List.mem_of_getElem? e3, rfl, .aged _⟩
   · exact ⟨_, List.mem_of_getElem? e4, rfl, .aged _⟩
 · exact hin g hg
theorem nA0 {α : Type} {Zs Zs' : List α} (ix : List Nat) {n : Nat} (hn : Zs.length = n) (hp : ix.Perm (List.range n)) (h : ix.map (fun i => Zs[i]?) = Zs'.map some) : Zs'.Perm Zs := by
 subst hn
 have h1 : (ix.map fun i => Zs[i]?).Perm ((List.range Zs.length).map fun i => Zs[i]?) := hp.map _
 have h2 : ((List.range Zs.length).map fun i => Zs[i]?) = Zs.map some := by
   apply List.ext_getElem
   · simp
   · intro i h1 h2
     simp at h1
     simp [h1]
 rw [h, h2] at h1
 have h3 := h1.filterMap id
 simpa using h3
def uB : List (Nat × SV) → Nat → Bool
 | [], _ => true
 | (k, _) :: r, N => match Nat.blt k N with
   | true => uB r N
   | false => false
def lP0 (T T' : List (Nat × SV)) : Nat → Prop
 | 0 => True
 | n + 1 => Sx.look T' n = Sx.look T n ∧ lP0 T T' n
theorem sI : ∀ {T : List (Nat × SV)} {N k : Nat}, uB T N = true → N ≤ k → Sx.look T k = none
 | [], _, _, _, _ => rfl
 | (j, x) :: r, N, k, h, hk => by
   simp only [uB] at h
   cases hj : Nat.blt j N with
   | false => simp only [hj] at h; cases h
   | true =>
     simp only [hj] at h
     have hjN : j < N := Nat.le_of_ble_eq_true hj
     have hne : Nat.beq j k = false := by
       cases hb : Nat.beq j k with
       | false => rfl
       | true => have := Nat.eq_of_beq_eq_true hb; omega
     simp only [Sx.look, hne]
     exact sI h hk
theorem gP0 {T T' : List (Nat × SV)} (N : Nat) (h1 : uB T N = true) (h2 : uB T' N = true) (h : lP0 T T' N) : Sx.look T' = Sx.look T := by
 have key : ∀ n, lP0 T T' n → ∀ k, k < n → Sx.look T' k = Sx.look T k := by
   intro n
   induction n with
   | zero => intro _ k hk; omega
   | succ n ih =>
     intro h k hk
     rcases Nat.lt_or_ge k n with hk2 | hk2
     · exact ih h.2 k hk2
     · obtain rfl : k = n := by omega
       exact h.1
 funext k
 rcases Nat.lt_or_ge k N with hk | hk
 · exact key N h k hk
 · rw [sI h1 hk, sI h2 hk]
section
variable {E : Env} {ti : Nat → TI} {ops : List Oper} {n0 : Nat} {B0 : List (Nat × TypeId × Nat)} {Ms : List ((Nat × Nat) × SV)} {Fs : List Fct} {K : St → Prop} {f : Nat} {L : List Bool} {T T' : List (Nat × SV)} {n c : Nat} {B : List (Nat × TypeId × Nat)} {M : List ((Nat × Nat) × SV)} {Zs Zs' : List Fct}
theorem vf (k : vcD E ti ops n0 B0 Ms Fs K f L (.mk T n c B M Zs)) : vcD E ti ops n0 B0 Ms Fs K f L (.mk T n c B M Zs) := k
theorem vr (k : vcD E ti ops n0 B0 Ms Fs K f L (.mk T n c B M Zs)) (hK : uU K := by exact zW) (h1 : uB T 44 = true := by rfl) (h2 : uB T' 44 = true := by rfl) (h : lP0 T T' 44 := by repeat (first | exact trivial | refine ⟨rfl, ?_⟩)) : vcD E ti ops n0 B0 Ms Fs K f L (.mk T' n c B M Zs) := xZ hK _ _ _ _ _ _ _ _ _ _ (gP0 44 h1 h2 h) (.refl _) k
theorem vg (ix : List Nat) (k : vcD E ti ops n0 B0 Ms Fs K f L (.mk T n c B M Zs)) (hK : uU K := by exact zW) (h1 : uB T 44 = true := by rfl) (h2 : uB T' 44 = true := by rfl) (h : lP0 T T' 44 := by repeat (first | exact trivial | refine ⟨rfl, ?_⟩)) (hl : Zs.length = ix.length := by rfl) (hp : ix.Perm (List.range ix.length) := by decide) (hm : ix.map (fun i => Zs[i]?) = Zs'.map some := by rfl) : vcD E ti ops n0 B0 Ms Fs K f L (.mk T' n c B M Zs') := xZ hK _ _ _ _ _ _ _ _ _ _ (gP0 44 h1 h2 h) (nA0 ix hl hp hm) k
end
theorem lQ0 {E : Env} {ti : Nat → TI} {ops : List Oper} {n0 : Nat} {B0 : List (Nat × TypeId × Nat)} {Ms : List ((Nat × Nat) × SV)} {Fs : List Fct} {K : St → Prop} {f : Nat} {L : List Bool} {T : List (Nat × SV)} {n c : Nat} {B : List (Nat × TypeId × Nat)} {M : List ((Nat × Nat) × SV)} {F : List Fct} {i : Nat} {o : Oper} (hp : eB ti ops T c Ms (iA L 0 ops L) = .none) (hr : iA L 0 ops L = [i]) (ho : nth ops i = some o) (hg : eA ops T o.guard = .go) (k : yA E ti o Ms Fs (fun s' => vcD E ti ops n0 B0 Ms Fs K f (rV L i) s') T n c B M F o.op) : vcD E ti ops n0 B0 Ms Fs K (f + 1) L (.mk T n c B M F) := by
 rw [hr] at hp
 simp only [vcD, hr, hp, gV0, ho, hg]
 exact k
theorem cutS0 {Q : Prop} {G : Prop} (main : (Q) → G) (pf : Q) : G := main pf
theorem vU {Q : Sl → Prop} {G : Prop} (main : (∀ x0 : Sl, Q x0) → G) (pf : ∀ x0 : Sl, Q x0) : G := main pf
theorem nT {Q : Sl → Sl → Prop} {G : Prop} (main : (∀ x0 x1 : Sl, Q x0 x1) → G) (pf : ∀ x0 x1 : Sl, Q x0 x1) : G := main pf
theorem nU {Q : Sl → Sl → Sl → Prop} {G : Prop} (main : (∀ x0 x1 x2 : Sl, Q x0 x1 x2) → G) (pf : ∀ x0 x1 x2 : Sl, Q x0 x1 x2) : G := main pf
theorem rO {Q : Sl → Sl → Sl → Sl → Prop} {G : Prop} (main : (∀ x0 x1 x2 x3 : Sl, Q x0 x1 x2 x3) → G) (pf : ∀ x0 x1 x2 x3 : Sl, Q x0 x1 x2 x3) : G := main pf
theorem zX {Q : Sl → Sl → Sl → Sl → Sl → Prop} {G : Prop} (main : (∀ x0 x1 x2 x3 x4 : Sl, Q x0 x1 x2 x3 x4) → G) (pf : ∀ x0 x1 x2 x3 x4 : Sl, Q x0 x1 x2 x3 x4) : G := main pf
theorem gQ0 {Q : Sl → Sl → Sl → Sl → Sl → Sl → Prop} {G : Prop} (main : (∀ x0 x1 x2 x3 x4 x5 : Sl, Q x0 x1 x2 x3 x4 x5) → G) (pf : ∀ x0 x1 x2 x3 x4 x5 : Sl, Q x0 x1 x2 x3 x4 x5) : G := main pf
theorem oD0 {Q : Sl → Sl → Sl → Sl → Sl → Sl → Sl → Prop} {G : Prop} (main : (∀ x0 x1 x2 x3 x4 x5 x6 : Sl, Q x0 x1 x2 x3 x4 x5 x6) → G) (pf : ∀ x0 x1 x2 x3 x4 x5 x6 : Sl, Q x0 x1 x2 x3 x4 x5 x6) : G := main pf
theorem oE0 {Q : Sl → Sl → Sl → Sl → Sl → Sl → Sl → Sl → Prop} {G : Prop} (main : (∀ x0 x1 x2 x3 x4 x5 x6 x7 : Sl, Q x0 x1 x2 x3 x4 x5 x6 x7) → G) (pf : ∀ x0 x1 x2 x3 x4 x5 x6 x7 : Sl, Q x0 x1 x2 x3 x4 x5 x6 x7) : G := main pf
theorem lR0 (p : ProgH) (w : World) (h : At w [fR (aY p)]) (hb : p.pure.small20) :
   Calls Tryz.prog 96 #[dW p] w (Ret w fun v L => ∃ y : ProgH, v = dW y ∧ y.pure = p.pure ∧ L = [fO (aY y)]) := by
 obtain ⟨b0, b1, b2, b3, b4, b5⟩ := hb
 have l0 : p.sems.length ≤ 1048576 := b0
 have l1 : p.groups.length ≤ 1048576 := b1
 have l2 : p.barriers.length ≤ 1048576 := b2
 have l3 : p.rooms.length ≤ 1048576 := b3
 have l4 : p.threads.length ≤ 1048576 := by have := b4; simpa [ProgH.pure] using this
 refine bZ Tryz.func96 rfl aA w _ rfl _ rfl _ h ⟨rfl, rfl, trivial⟩ _ (by decide) ?_
 have key : ∀ (T : List (Nat × SV)) (c0 : Nat) (M : List ((Nat × Nat) × SV)) (a b c d : Sl), Sx.look T 1 = some (.p 0 0) → Sx.look T 2 = some (.p 1 0) → Sx.look T 3 = some (.p 2 0) → dS M 0 4 = some (.v (p.h4.val p.threads.length)) → dS M 2 0 = some (.v (a.val p.sems.length)) → dS M 2 1 = some (.v (b.val p.groups.length)) → dS M 2 2 = some (.v (c.val p.barriers.length)) → dS M 2 3 = some (.v (d.val p.rooms.length)) → dS M 2 4 = some (.v (.slice none 0 0)) →
     Weak (kG Tryz.prog w Tryz.f96.ntmps) (.mk T 3 c0 [(2, 26, 5), (1, 26, 5), (0, 26, 5)] M [own d 3 aJ 1 p.rooms, own c 3 aJ 1 p.barriers, own b 3 aJ 1 p.groups, own a 3 aJ 1 p.sems, fR (aY p)]) (.mk [(1, .p 0 0), (2, .p 1 0), (3, .p 2 0)] 3 0 [(0, 26, 5), (1, 26, 5), (2, 26, 5)] [((0, 4), .v (p.h4.val p.threads.length)), ((2, 0), .v (a.val p.sems.length)), ((2, 1), .v (b.val p.groups.length)), ((2, 2), .v (c.val p.barriers.length)), ((2, 3), .v (d.val p.rooms.length)), ((2, 4), .v (.slice none 0 0))] [own a 3 aJ 1 p.sems, own b 3 aJ 1 p.groups, own c 3 aJ 1 p.barriers, own d 3 aJ 1 p.rooms, fR (aY p)]) := by
   intro T c0 M a b c d t1 t2 t3 m0 m1 m2 m3 m4 m5
   refine aC [3, 2, 1, 0, 4] ?_ ?_ ?_ ?_ ?_ rfl rfl
   · exact zw30
   · repeat (first | exact trivial | refine ⟨⟨(by first | exact .head _ | exact .tail _ (.head _) | exact .tail _ (.tail _ (.head _))), Nat.le_of_ble_eq_true rfl⟩, ?_⟩)
   · exact zw30
   · exact zw5
   · repeat (first | exact trivial | refine ⟨.inl ⟨_, rfl, rfl⟩, ?_⟩)
 refine pW (Sl × Sl × Sl × Sl) (fun y => .mk [(1, .p 0 0), (2, .p 1 0), (3, .p 2 0)] 3 0 [(0, 26, 5), (1, 26, 5), (2, 26, 5)] [((0, 4), .v (p.h4.val p.threads.length)), ((2, 0), .v (y.1.val p.sems.length)), ((2, 1), .v (y.2.1.val p.groups.length)), ((2, 2), .v (y.2.2.1.val p.barriers.length)), ((2, 3), .v (y.2.2.2.val p.rooms.length)), ((2, 4), .v (.slice none 0 0))] [own y.1 3 aJ 1 p.sems, own y.2.1 3 aJ 1 p.groups, own y.2.2.1 3 aJ 1 p.barriers, own y.2.2.2 3 aJ 1 p.rooms, fR (aY p)]) ?_ ?_
 · refine aF aA z102 z102 z102 200 [((0, 0), .v (p.h0.val p.sems.length)), ((0, 1), .v (p.h1.val p.groups.length)), ((0, 2), .v (p.h2.val p.barriers.length)), ((0, 3), .v (p.h3.val p.rooms.length))] [] [] z122 z138 trivial rfl ?_
   have e0 := eM p
   have e1 := iW p
   have e2 := eH p
   have e3 := gN p
   apply oE0; intro v0
   apply oE0; intro v1
   apply oD0; intro v2
   apply oD0; intro v3
   apply gQ0; intro v4
   apply gQ0; intro v5
   apply gQ0; intro v6
   apply zX; intro v7
   apply gQ0; intro v8
   apply zX; intro v9
   apply zX; intro v10
   apply zX; intro v11
   apply zX; intro v12
   apply rO; intro v13
   apply rO; intro v14
   apply rO; intro v15
   apply zX; intro v16
   apply rO; intro v17
   apply rO; intro v18
   apply rO; intro v19
   apply nU; intro v20
   apply rO; intro v21
   apply nU; intro v22
   apply rO; intro v23
   apply rO; intro v24
   apply nU; intro v25
   apply nU; intro v26
   apply nU; intro v27
   apply nU; intro v28
   apply rO; intro v29
   apply nU; intro v30
   apply nU; intro v31
   apply nU; intro v32
   apply nU; intro v33
   apply nT; intro v34
   apply nT; intro v35
   apply nT; intro v36
   apply nU; intro v37
   apply nT; intro v38
   apply nT; intro v39
   apply nU; intro v40
   apply nT; intro v41
   apply nU; intro v42
   apply nU; intro v43
   apply nT; intro v44
   apply nT; intro v45
   apply vU; intro v46
   apply nT; intro v47
   apply vU; intro v48
   apply nT; intro v49
   apply nT; intro v50
   apply vU; intro v51
   apply nT; intro v52
   apply nT; intro v53
   apply nT; intro v54
   apply vU; intro v55
   apply vU; intro v56
   apply vU; intro v57
   apply vU; intro v58
   apply vU; intro v59
   apply cutS0; intro v60
   refine BothW.mk (AllSl.mk fun a0 => vf (v59 a0)) ?_
   refine BothW.mk (AllSl.mk fun a1 => vf (v58 a1)) ?_
   refine BothW.mk (AllSl.mk fun a2 => vf (v57 a2)) ?_
   refine BothW.mk (AllSl.mk fun a3 => vf (v56 a3)) ?_
   exact vf v60
   · refine BothW.mk (AllSl.mk fun a0 => vf (v55 a0)) ?_
     refine BothW.mk (AllSl.mk fun a1 => vf (v51 a1)) ?_
     refine BothW.mk (AllSl.mk fun a2 => vf (v48 a2)) ?_
     exact AllSl.mk fun a3 => vf (v46 a3)
   · intro a0
     refine BothW.mk (bR aE 0 aA (xs := []) (ys := p.sems) rfl rfl rfl rfl rfl rfl rfl rfl rfl (by decide) ⟨rfl, rfl⟩ rfl (aL 1 rfl (.ofR e0)) z43 z43 z100 fun b0 => vf (v45 a0 b0)) ?_
     refine BothW.mk (AllSl.mk fun a1 => vf (v54 a0 a1)) ?_
     refine BothW.mk (AllSl.mk fun a2 => vf (v53 a0 a2)) ?_
     refine BothW.mk (AllSl.mk fun a3 => vf (v52 a0 a3)) ?_
     exact vr (v55 a0)
   · intro a1
     refine BothW.mk (AllSl.mk fun a0 => vg [1, 0, 2] (v54 a0 a1)) ?_
     refine BothW.mk (AllSl.mk fun a2 => vf (v50 a1 a2)) ?_
     refine BothW.mk (AllSl.mk fun a3 => vf (v49 a1 a3)) ?_
     exact vr (v51 a1)
   · intro a2
     refine BothW.mk (AllSl.mk fun a0 => vg [1, 0, 2] (v53 a0 a2)) ?_
     refine BothW.mk (AllSl.mk fun a1 => vg [1, 0, 2] (v50 a1 a2)) ?_
     refine BothW.mk (AllSl.mk fun a3 => vf (v47 a2 a3)) ?_
     exact vr (v48 a2)
   · intro a3
     refine BothW.mk (AllSl.mk fun a0 => vg [1, 0, 2] (v52 a0 a3)) ?_
     refine BothW.mk (AllSl.mk fun a1 => vg [1, 0, 2] (v49 a1 a3)) ?_
     refine BothW.mk (AllSl.mk fun a2 => vg [1, 0, 2] (v47 a2 a3)) ?_
     exact vr (v46 a3)
   · intro a0
     refine BothW.mk (bR aE 0 aA (xs := []) (ys := p.sems) rfl rfl rfl rfl rfl rfl rfl rfl rfl (by decide) ⟨rfl, rfl⟩ rfl (aL 1 rfl (.ofR e0)) z43 z43 z100 fun b0 => vf (v34 a0 b0)) ?_
     refine BothW.mk (AllSl.mk fun a1 => vf (v44 a0 a1)) ?_
     refine BothW.mk (AllSl.mk fun a2 => vf (v41 a0 a2)) ?_
     exact AllSl.mk fun a3 => vf (v39 a0 a3)
   · intro a0 a1
     refine BothW.mk (bR aE 1 aA (xs := []) (ys := p.sems) rfl rfl rfl rfl rfl rfl rfl rfl rfl (by decide) ⟨rfl, rfl⟩ rfl (aL 2 rfl (.ofR e0)) z43 z43 z100 fun b0 => vf (v33 a0 a1 b0)) ?_
     refine BothW.mk (AllSl.mk fun a2 => vf (v43 a0 a1 a2)) ?_
     refine BothW.mk (AllSl.mk fun a3 => vf (v42 a0 a1 a3)) ?_
     exact vr (v44 a0 a1)
   · intro a0 a2
     refine BothW.mk (bR aE 1 aA (xs := []) (ys := p.sems) rfl rfl rfl rfl rfl rfl rfl rfl rfl (by decide) ⟨rfl, rfl⟩ rfl (aL 2 rfl (.ofR e0)) z43 z43 z100 fun b0 => vf (v32 a0 a2 b0)) ?_
     refine BothW.mk (AllSl.mk fun a1 => vg [1, 0, 2, 3] (v43 a0 a1 a2)) ?_
     refine BothW.mk (AllSl.mk fun a3 => vf (v40 a0 a2 a3)) ?_
     exact vr (v41 a0 a2)
   · intro a0 a3
     refine BothW.mk (bR aE 1 aA (xs := []) (ys := p.sems) rfl rfl rfl rfl rfl rfl rfl rfl rfl (by decide) ⟨rfl, rfl⟩ rfl (aL 2 rfl (.ofR e0)) z43 z43 z100 fun b0 => vf (v31 a0 a3 b0)) ?_
     refine BothW.mk (AllSl.mk fun a1 => vg [1, 0, 2, 3] (v42 a0 a1 a3)) ?_
     refine BothW.mk (AllSl.mk fun a2 => vg [1, 0, 2, 3] (v40 a0 a2 a3)) ?_
     exact vr (v39 a0 a3)
   · intro a1
     refine BothW.mk (AllSl.mk fun a0 => vg [1, 0, 2] (v44 a0 a1)) ?_
     refine BothW.mk (AllSl.mk fun a2 => vf (v38 a1 a2)) ?_
     exact AllSl.mk fun a3 => vf (v36 a1 a3)
   · intro a1 a2
     refine BothW.mk (AllSl.mk fun a0 => vg [2, 0, 1, 3] (v43 a0 a1 a2)) ?_
     refine BothW.mk (AllSl.mk fun a3 => vf (v37 a1 a2 a3)) ?_
     exact vr (v38 a1 a2)
   · intro a1 a3
     refine BothW.mk (AllSl.mk fun a0 => vg [2, 0, 1, 3] (v42 a0 a1 a3)) ?_
     refine BothW.mk (AllSl.mk fun a2 => vg [1, 0, 2, 3] (v37 a1 a2 a3)) ?_
     exact vr (v36 a1 a3)
   · intro a2
     refine BothW.mk (AllSl.mk fun a0 => vg [1, 0, 2] (v41 a0 a2)) ?_
     refine BothW.mk (AllSl.mk fun a1 => vg [1, 0, 2] (v38 a1 a2)) ?_
     exact AllSl.mk fun a3 => vf (v35 a2 a3)
   · intro a2 a3
     refine BothW.mk (AllSl.mk fun a0 => vg [2, 0, 1, 3] (v40 a0 a2 a3)) ?_
     refine BothW.mk (AllSl.mk fun a1 => vg [2, 0, 1, 3] (v37 a1 a2 a3)) ?_
     exact vr (v35 a2 a3)
   · intro a3
     refine BothW.mk (AllSl.mk fun a0 => vg [1, 0, 2] (v39 a0 a3)) ?_
     refine BothW.mk (AllSl.mk fun a1 => vg [1, 0, 2] (v36 a1 a3)) ?_
     exact AllSl.mk fun a2 => vg [1, 0, 2] (v35 a2 a3)
   · intro a0 b0
     refine BothW.mk (AllSl.mk fun a1 => vg [1, 0, 2] (v33 a0 a1 b0)) ?_
     refine BothW.mk (AllSl.mk fun a2 => vg [1, 0, 2] (v32 a0 a2 b0)) ?_
     refine BothW.mk (AllSl.mk fun a3 => vg [1, 0, 2] (v31 a0 a3 b0)) ?_
     exact vr (v34 a0 b0)
   · intro a0 a1
     refine BothW.mk (bR aE 1 aA (xs := []) (ys := p.sems) rfl rfl rfl rfl rfl rfl rfl rfl rfl (by decide) ⟨rfl, rfl⟩ rfl (aL 2 rfl (.ofR e0)) z43 z43 z100 fun b0 => vf (v25 a0 a1 b0)) ?_
     refine BothW.mk (AllSl.mk fun a2 => vf (v30 a0 a1 a2)) ?_
     exact AllSl.mk fun a3 => vf (v28 a0 a1 a3)
   · intro a0 a1 a2
     refine BothW.mk (bR aE 2 aA (xs := []) (ys := p.sems) rfl rfl rfl rfl rfl rfl rfl rfl rfl (by decide) ⟨rfl, rfl⟩ rfl (aL 3 rfl (.ofR e0)) z43 z43 z100 fun b0 => vf (v24 a0 a1 a2 b0)) ?_
     refine BothW.mk (AllSl.mk fun a3 => vf (v29 a0 a1 a2 a3)) ?_
     exact vr (v30 a0 a1 a2)
   · intro a0 a1 a3
     refine BothW.mk (bR aE 2 aA (xs := []) (ys := p.sems) rfl rfl rfl rfl rfl rfl rfl rfl rfl (by decide) ⟨rfl, rfl⟩ rfl (aL 3 rfl (.ofR e0)) z43 z43 z100 fun b0 => vf (v23 a0 a1 a3 b0)) ?_
     refine BothW.mk (AllSl.mk fun a2 => vg [1, 0, 2, 3, 4] (v29 a0 a1 a2 a3)) ?_
     exact vr (v28 a0 a1 a3)
   · intro a0 a2
     refine BothW.mk (bR aE 1 aA (xs := []) (ys := p.sems) rfl rfl rfl rfl rfl rfl rfl rfl rfl (by decide) ⟨rfl, rfl⟩ rfl (aL 2 rfl (.ofR e0)) z43 z43 z100 fun b0 => vf (v22 a0 a2 b0)) ?_
     refine BothW.mk (AllSl.mk fun a1 => vg [1, 0, 2, 3] (v30 a0 a1 a2)) ?_
     exact AllSl.mk fun a3 => vf (v27 a0 a2 a3)
   · intro a0 a2 a3
     refine BothW.mk (bR aE 2 aA (xs := []) (ys := p.sems) rfl rfl rfl rfl rfl rfl rfl rfl rfl (by decide) ⟨rfl, rfl⟩ rfl (aL 3 rfl (.ofR e0)) z43 z43 z100 fun b0 => vf (v21 a0 a2 a3 b0)) ?_
     refine BothW.mk (AllSl.mk fun a1 => vg [2, 0, 1, 3, 4] (v29 a0 a1 a2 a3)) ?_
     exact vr (v27 a0 a2 a3)
   · intro a0 a3
     refine BothW.mk (bR aE 1 aA (xs := []) (ys := p.sems) rfl rfl rfl rfl rfl rfl rfl rfl rfl (by decide) ⟨rfl, rfl⟩ rfl (aL 2 rfl (.ofR e0)) z43 z43 z100 fun b0 => vf (v20 a0 a3 b0)) ?_
     refine BothW.mk (AllSl.mk fun a1 => vg [1, 0, 2, 3] (v28 a0 a1 a3)) ?_
     exact AllSl.mk fun a2 => vg [1, 0, 2, 3] (v27 a0 a2 a3)
   · intro a1 a2
     refine BothW.mk (AllSl.mk fun a0 => vg [2, 0, 1, 3] (v30 a0 a1 a2)) ?_
     exact AllSl.mk fun a3 => vf (v26 a1 a2 a3)
   · intro a1 a2 a3
     refine BothW.mk (AllSl.mk fun a0 => vg [3, 0, 1, 2, 4] (v29 a0 a1 a2 a3)) ?_
     exact vr (v26 a1 a2 a3)
   · intro a1 a3
     refine BothW.mk (AllSl.mk fun a0 => vg [2, 0, 1, 3] (v28 a0 a1 a3)) ?_
     exact AllSl.mk fun a2 => vg [1, 0, 2, 3] (v26 a1 a2 a3)
   · intro a2 a3
     refine BothW.mk (AllSl.mk fun a0 => vg [2, 0, 1, 3] (v27 a0 a2 a3)) ?_
     exact AllSl.mk fun a1 => vg [2, 0, 1, 3] (v26 a1 a2 a3)
   · intro a0 b0
     refine BothW.mk (AllSl.mk fun a1 => vg [1, 0, 2] (v25 a0 a1 b0)) ?_
     refine BothW.mk (AllSl.mk fun a2 => vg [1, 0, 2] (v22 a0 a2 b0)) ?_
     exact AllSl.mk fun a3 => vg [1, 0, 2] (v20 a0 a3 b0)
   · intro a0 a1 b0
     refine BothW.mk (bR aE 1 aA (xs := []) (ys := p.groups) rfl rfl rfl rfl rfl rfl rfl rfl rfl (by decide) ⟨rfl, rfl⟩ rfl (aL 2 rfl (.ofR e1)) z43 z43 z100 fun b1 => vf (v19 a0 a1 b0 b1)) ?_
     refine BothW.mk (AllSl.mk fun a2 => vg [1, 0, 2, 3] (v24 a0 a1 a2 b0)) ?_
     refine BothW.mk (AllSl.mk fun a3 => vg [1, 0, 2, 3] (v23 a0 a1 a3 b0)) ?_
     exact vr (v25 a0 a1 b0)
   · intro a0 a2 b0
     refine BothW.mk (AllSl.mk fun a1 => vg [2, 0, 1, 3] (v24 a0 a1 a2 b0)) ?_
     refine BothW.mk (AllSl.mk fun a3 => vg [1, 0, 2, 3] (v21 a0 a2 a3 b0)) ?_
     exact vr (v22 a0 a2 b0)
   · intro a0 a3 b0
     refine BothW.mk (AllSl.mk fun a1 => vg [2, 0, 1, 3] (v23 a0 a1 a3 b0)) ?_
     refine BothW.mk (AllSl.mk fun a2 => vg [2, 0, 1, 3] (v21 a0 a2 a3 b0)) ?_
     exact vr (v20 a0 a3 b0)
   · intro a0 a1 a2
     refine BothW.mk (bR aE 2 aA (xs := []) (ys := p.sems) rfl rfl rfl rfl rfl rfl rfl rfl rfl (by decide) ⟨rfl, rfl⟩ rfl (aL 3 rfl (.ofR e0)) z43 z43 z100 fun b0 => vf (v17 a0 a1 a2 b0)) ?_
     exact AllSl.mk fun a3 => vf (v18 a0 a1 a2 a3)
   · intro a0 a1 a2 a3
     refine BothW.mk (bR aE 3 aA (xs := []) (ys := p.sems) rfl rfl rfl rfl rfl rfl rfl rfl rfl (by decide) ⟨rfl, rfl⟩ rfl (aL 4 rfl (.ofR e0)) z43 z43 z100 fun b0 => vf (v16 a0 a1 a2 a3 b0)) ?_
     exact vr (v18 a0 a1 a2 a3)
   · intro a0 a1 a3
     refine BothW.mk (bR aE 2 aA (xs := []) (ys := p.sems) rfl rfl rfl rfl rfl rfl rfl rfl rfl (by decide) ⟨rfl, rfl⟩ rfl (aL 3 rfl (.ofR e0)) z43 z43 z100 fun b0 => vf (v15 a0 a1 a3 b0)) ?_
     exact AllSl.mk fun a2 => vg [1, 0, 2, 3, 4] (v18 a0 a1 a2 a3)
   · intro a0 a2 a3
     refine BothW.mk (bR aE 2 aA (xs := []) (ys := p.sems) rfl rfl rfl rfl rfl rfl rfl rfl rfl (by decide) ⟨rfl, rfl⟩ rfl (aL 3 rfl (.ofR e0)) z43 z43 z100 fun b0 => vf (v14 a0 a2 a3 b0)) ?_
     exact AllSl.mk fun a1 => vg [2, 0, 1, 3, 4] (v18 a0 a1 a2 a3)
   · intro a1 a2 a3
     exact AllSl.mk fun a0 => vg [3, 0, 1, 2, 4] (v18 a0 a1 a2 a3)
   · intro a0 a1 b0
     refine BothW.mk (bR aE 1 aA (xs := []) (ys := p.groups) rfl rfl rfl rfl rfl rfl rfl rfl rfl (by decide) ⟨rfl, rfl⟩ rfl (aL 2 rfl (.ofR e1)) z43 z43 z100 fun b1 => vf (v13 a0 a1 b0 b1)) ?_
     refine BothW.mk (AllSl.mk fun a2 => vg [1, 0, 2, 3] (v17 a0 a1 a2 b0)) ?_
     exact AllSl.mk fun a3 => vg [1, 0, 2, 3] (v15 a0 a1 a3 b0)
   · intro a0 a1 a2 b0
     refine BothW.mk (bR aE 2 aA (xs := []) (ys := p.groups) rfl rfl rfl rfl rfl rfl rfl rfl rfl (by decide) ⟨rfl, rfl⟩ rfl (aL 3 rfl (.ofR e1)) z43 z43 z100 fun b1 => vf (v12 a0 a1 a2 b0 b1)) ?_
     refine BothW.mk (AllSl.mk fun a3 => vg [1, 0, 2, 3, 4] (v16 a0 a1 a2 a3 b0)) ?_
     exact vr (v17 a0 a1 a2 b0)
   · intro a0 a1 a3 b0
     refine BothW.mk (bR aE 2 aA (xs := []) (ys := p.groups) rfl rfl rfl rfl rfl rfl rfl rfl rfl (by decide) ⟨rfl, rfl⟩ rfl (aL 3 rfl (.ofR e1)) z43 z43 z100 fun b1 => vf (v11 a0 a1 a3 b0 b1)) ?_
     refine BothW.mk (AllSl.mk fun a2 => vg [2, 0, 1, 3, 4] (v16 a0 a1 a2 a3 b0)) ?_
     exact vr (v15 a0 a1 a3 b0)
   · intro a0 a2 b0
     refine BothW.mk (AllSl.mk fun a1 => vg [2, 0, 1, 3] (v17 a0 a1 a2 b0)) ?_
     exact AllSl.mk fun a3 => vg [1, 0, 2, 3] (v14 a0 a2 a3 b0)
   · intro a0 a2 a3 b0
     refine BothW.mk (AllSl.mk fun a1 => vg [3, 0, 1, 2, 4] (v16 a0 a1 a2 a3 b0)) ?_
     exact vr (v14 a0 a2 a3 b0)
   · intro a0 a3 b0
     refine BothW.mk (AllSl.mk fun a1 => vg [2, 0, 1, 3] (v15 a0 a1 a3 b0)) ?_
     exact AllSl.mk fun a2 => vg [2, 0, 1, 3] (v14 a0 a2 a3 b0)
   · intro a0 a1 b0 b1
     refine BothW.mk (AllSl.mk fun a2 => vg [2, 0, 1, 3] (v12 a0 a1 a2 b0 b1)) ?_
     refine BothW.mk (AllSl.mk fun a3 => vg [2, 0, 1, 3] (v11 a0 a1 a3 b0 b1)) ?_
     exact vr (v13 a0 a1 b0 b1)
   · intro a0 a1 a2 a3
     exact bR aE 3 aA (xs := []) (ys := p.sems) rfl rfl rfl rfl rfl rfl rfl rfl rfl (by decide) ⟨rfl, rfl⟩ rfl (aL 4 rfl (.ofR e0)) z43 z43 z100 fun b0 => vf (v10 a0 a1 a2 a3 b0)
   · intro a0 a1 a2 b0
     refine BothW.mk (bR aE 2 aA (xs := []) (ys := p.groups) rfl rfl rfl rfl rfl rfl rfl rfl rfl (by decide) ⟨rfl, rfl⟩ rfl (aL 3 rfl (.ofR e1)) z43 z43 z100 fun b1 => vf (v9 a0 a1 a2 b0 b1)) ?_
     exact AllSl.mk fun a3 => vg [1, 0, 2, 3, 4] (v10 a0 a1 a2 a3 b0)
   · intro a0 a1 a2 a3 b0
     refine BothW.mk (bR aE 3 aA (xs := []) (ys := p.groups) rfl rfl rfl rfl rfl rfl rfl rfl rfl (by decide) ⟨rfl, rfl⟩ rfl (aL 4 rfl (.ofR e1)) z43 z43 z100 fun b1 => vf (v8 a0 a1 a2 a3 b0 b1)) ?_
     exact vr (v10 a0 a1 a2 a3 b0)
   · intro a0 a1 a3 b0
     refine BothW.mk (bR aE 2 aA (xs := []) (ys := p.groups) rfl rfl rfl rfl rfl rfl rfl rfl rfl (by decide) ⟨rfl, rfl⟩ rfl (aL 3 rfl (.ofR e1)) z43 z43 z100 fun b1 => vf (v7 a0 a1 a3 b0 b1)) ?_
     exact AllSl.mk fun a2 => vg [2, 0, 1, 3, 4] (v10 a0 a1 a2 a3 b0)
   · intro a0 a2 a3 b0
     exact AllSl.mk fun a1 => vg [3, 0, 1, 2, 4] (v10 a0 a1 a2 a3 b0)
   · intro a0 a1 b0 b1
     refine BothW.mk (AllSl.mk fun a2 => vg [2, 0, 1, 3] (v9 a0 a1 a2 b0 b1)) ?_
     exact AllSl.mk fun a3 => vg [2, 0, 1, 3] (v7 a0 a1 a3 b0 b1)
   · intro a0 a1 a2 b0 b1
     refine BothW.mk (bR aE 2 aA (xs := []) (ys := p.barriers) rfl rfl rfl rfl rfl rfl rfl rfl rfl (by decide) ⟨rfl, rfl⟩ rfl (aL 3 rfl (.ofR e2)) z43 z43 z100 fun b2 => vf (v6 a0 a1 a2 b0 b1 b2)) ?_
     refine BothW.mk (AllSl.mk fun a3 => vg [2, 0, 1, 3, 4] (v8 a0 a1 a2 a3 b0 b1)) ?_
     exact vr (v9 a0 a1 a2 b0 b1)
   · intro a0 a1 a3 b0 b1
     refine BothW.mk (AllSl.mk fun a2 => vg [3, 0, 1, 2, 4] (v8 a0 a1 a2 a3 b0 b1)) ?_
     exact vr (v7 a0 a1 a3 b0 b1)
   · intro a0 a1 a2 a3 b0
     exact bR aE 3 aA (xs := []) (ys := p.groups) rfl rfl rfl rfl rfl rfl rfl rfl rfl (by decide) ⟨rfl, rfl⟩ rfl (aL 4 rfl (.ofR e1)) z43 z43 z100 fun b1 => vf (v5 a0 a1 a2 a3 b0 b1)
   · intro a0 a1 a2 b0 b1
     refine BothW.mk (bR aE 2 aA (xs := []) (ys := p.barriers) rfl rfl rfl rfl rfl rfl rfl rfl rfl (by decide) ⟨rfl, rfl⟩ rfl (aL 3 rfl (.ofR e2)) z43 z43 z100 fun b2 => vf (v4 a0 a1 a2 b0 b1 b2)) ?_
     exact AllSl.mk fun a3 => vg [2, 0, 1, 3, 4] (v5 a0 a1 a2 a3 b0 b1)
   · intro a0 a1 a2 a3 b0 b1
     refine BothW.mk (bR aE 3 aA (xs := []) (ys := p.barriers) rfl rfl rfl rfl rfl rfl rfl rfl rfl (by decide) ⟨rfl, rfl⟩ rfl (aL 4 rfl (.ofR e2)) z43 z43 z100 fun b2 => vf (v3 a0 a1 a2 a3 b0 b1 b2)) ?_
     exact vr (v5 a0 a1 a2 a3 b0 b1)
   · intro a0 a1 a3 b0 b1
     exact AllSl.mk fun a2 => vg [3, 0, 1, 2, 4] (v5 a0 a1 a2 a3 b0 b1)
   · intro a0 a1 a2 b0 b1 b2
     refine BothW.mk (AllSl.mk fun a3 => vg [3, 0, 1, 2, 4] (v3 a0 a1 a2 a3 b0 b1 b2)) ?_
     exact vr (v4 a0 a1 a2 b0 b1 b2)
   · intro a0 a1 a2 a3 b0 b1
     exact bR aE 3 aA (xs := []) (ys := p.barriers) rfl rfl rfl rfl rfl rfl rfl rfl rfl (by decide) ⟨rfl, rfl⟩ rfl (aL 4 rfl (.ofR e2)) z43 z43 z100 fun b2 => vf (v2 a0 a1 a2 a3 b0 b1 b2)
   · intro a0 a1 a2 b0 b1 b2
     exact AllSl.mk fun a3 => vg [3, 0, 1, 2, 4] (v2 a0 a1 a2 a3 b0 b1 b2)
   · intro a0 a1 a2 a3 b0 b1 b2
     refine BothW.mk (bR aE 3 aA (xs := []) (ys := p.rooms) rfl rfl rfl rfl rfl rfl rfl rfl rfl (by decide) ⟨rfl, rfl⟩ rfl (aL 4 rfl (.ofR e3)) z43 z43 z100 fun b3 => ?_) ?_
     · show vcD _ _ _ _ _ _ _ _ _ _ (.mk ((21, _) :: _) _ _ _ _ _)
       exact v1 a0 a1 a2 a3 b0 b1 b2 b3
     exact vr (v2 a0 a1 a2 a3 b0 b1 b2)
   · intro a0 a1 a2 a3 b0 b1 b2
     refine bR aE 3 aA (xs := []) (ys := p.rooms) rfl rfl rfl rfl rfl rfl rfl rfl rfl (by decide) ⟨rfl, rfl⟩ rfl (aL 4 rfl (.ofR e3)) z43 z43 z100 fun b3 => ?_
     show vcD _ _ _ _ _ _ _ _ _ _ (.mk ((21, _) :: _) _ _ _ _ _)
     exact v0 a0 a1 a2 a3 b0 b1 b2 b3
   · intro a0 a1 a2 a3 b0 b1 b2 b3
     show vcD _ _ _ _ _ _ _ _ _ _ (.mk ((21, _) :: _) _ _ _ _ _)
     apply lQ0
     case hp => rfl
     case hr => rfl
     case ho => rfl
     case hg => rfl
     exact vr (v0 a0 a1 a2 a3 b0 b1 b2 b3)
   · intro a0 a1 a2 a3 b0 b1 b2 b3
     exact ⟨(b0, b1, b2, b3), key _ _ _ _ _ _ _ rfl rfl rfl rfl rfl rfl rfl rfl rfl⟩
 rintro ⟨a, b, c, d⟩
 simp only
 refine LoopW.mk ⟨{ q : Nat × Sl × List OpSH // q.1 ≤ p.threads.length ∧ q.2.2.map (·.m) = (p.threads.map (·.m)).take q.1 },
   fun q => .mk [(1, .p 0 0), (2, .p 1 0), (3, .p 2 0), (4, .v (.int .i64 (q.1.1 : Int)))] 3 0 [(0, 26, 5), (1, 26, 5), (2, 26, 5)] [((0, 4), .v (p.h4.val p.threads.length)), ((2, 0), .v (a.val p.sems.length)), ((2, 1), .v (b.val p.groups.length)), ((2, 2), .v (c.val p.barriers.length)), ((2, 3), .v (d.val p.rooms.length)), ((2, 4), .v (q.1.2.1.val q.1.2.2.length))] [own q.1.2.1 68 kP 1 q.1.2.2, fO (q.1.2.2.flatMap pX), own a 3 aJ 1 p.sems, own b 3 aJ 1 p.groups, own c 3 aJ 1 p.barriers, own d 3 aJ 1 p.rooms, fR (aY p)],
   fun q => p.threads.length - q.1.1, ⟨(0, ⟨none, 0⟩, []), Nat.zero_le _, by simp⟩, ?_, ?_⟩
 · refine aP (.joinO [] (Gs := []) trivial rfl (.refl _)) ?_
   exact aC [99, 0, 1, 2, 3, 4, 5] zw2 zw0 zw2 zw5 zw4 rfl rfl
 rintro ⟨⟨k, c0, L0⟩, hk, hL0⟩
 simp only at hk hL0
 have ln0 : L0.length = k := by have := congrArg List.length hL0; simp at this; omega
 apply CaseB.mk <;> intro g
 · have hlt : k < p.threads.length := by simpa using g
   have hw := bD k _ hlt (by omega)
   have hsm : (p.threads[k]).m.length ≤ 1048576 := b5 _ (List.mem_map_of_mem (List.getElem_mem hlt))
   refine aF aA z102 z102 z102 200 [((0, 4), .v (p.h4.val p.threads.length))] [6] [_] z146 z149 ⟨rfl, trivial⟩ rfl ?_
   refine bO (ti := aU tab) dT aA rfl rfl rfl rfl rfl ⟨rfl, rfl⟩ (aL 0 rfl (.trans (.R_R (bB p)) (.ofR aX))) k rfl z43 (fun ad => ?_)
   refine BothW.mk ?_ ?_
   all_goals
     refine AllSl.mk fun u1 => ?_
     first
     | refine BothW.mk ?_ ?_
     | skip
     all_goals
       refine bR (ti := aU tab) oE 0 aA (xs := []) (ys := (p.threads[k]).m) rfl rfl rfl rfl rfl rfl rfl rfl rfl (by decide) ⟨rfl, rfl⟩ rfl (aL 7 rfl (.trans (.R_R (bB p)) (.ofR (fZ _ _ k hlt)))) z43 z43 z100 (fun y0 => ?_)
       first
       | refine BothW.mk ?_ ?_
       | skip
       all_goals
         refine AllSl.mk fun u2 => ?_
         first
         | refine BothW.mk ?_ ?_
         | skip
         all_goals
           refine bR (ti := aU tab) dT 2 aA (ys := [⟨(p.threads[k]).m, y0⟩]) rfl rfl rfl rfl rfl rfl rfl rfl rfl (by decide) ⟨rfl, rfl⟩ rfl z35 z43 z43 z100 (fun c2 => ?_)
           refine ⟨⟨(k + 1, c2, L0 ++ [⟨(p.threads[k]).m, y0⟩]), hlt, by rw [List.map_append]; exact aR hlt hL0 rfl⟩, ?_, by simp only; omega⟩
           refine aP (.joinO [2, 3] (Gs := [[_], _]) z136 rfl (G := (L0 ++ [(⟨(p.threads[k]).m, y0⟩ : OpSH)]).flatMap pX) (by rw [List.flatMap_append]; exact (List.Perm.of_eq (by simp [pX])).trans List.perm_append_comm)) ?_
           exact aC [1, 0, 3, 4, 5, 6, 7] zw1 zw0 zw1 zw5 zw3 rfl rfl
 have hge : p.threads.length ≤ k := by simpa using g
 rw [List.take_of_length_le z91] at hL0
 refine aO (.joinO [2, 3, 4, 5, 0, 1] (Gs := [[_], [_], [_], [_], [_], _]) z113 rfl (G := aY ⟨p.sems, p.groups, p.barriers, p.rooms, L0, a, b, c, d, c0⟩) ((List.Perm.of_eq (by simp [vT])).trans (lC ⟨p.sems, p.groups, p.barriers, p.rooms, L0, a, b, c, d, c0⟩).symm)) ?_
 exact bG [0] ⟨⟨p.sems, p.groups, p.barriers, p.rooms, L0, a, b, c, d, c0⟩, rfl, by simp only [ProgH.pure, hL0], rfl⟩ z144 rfl ⟨rfl, trivial⟩ (fun _ => rfl)
end Go.Proofs.YtijmjecehppbfaaGreat
