/- THE FRAMEWORK 'Sx', PART 18: a call that writes the variable behind its pointer and rows that are handed over. No project text. -/
import Derived.Test.YtpopeaoklccgcaaSxq
namespace Go.Sx
open Go Go.RowKit
section
variable {E : Env} {ti : Nat → TI} {A : Nat → Nat} {T : List (Nat × SV)} {n c : Nat} {B : List (Nat × TypeId × Nat)} {M Ms : List ((Nat × Nat) × SV)} {F Fs : List Fct} {o : Oper} {next : St → Prop} {a : Act} {w w' : World}

theorem WD.callPG (h : WD E A n B M F w) {k ty sz : Nat} (hk : (k, ty, sz) ∈ B) {cs : List Value} {ix : List Nat} {G : List Fct} (hG : FK F ix G) (hok : grantOk G) (hex : ExtX (fun b => b = A k ∨ gfoot G b) w w') (hnew : Blk w' (A k) ty cs) (hl : cs.length = sz) {L : List Fct} (hL : NewG w w' G L) :
    WD E A n B (storeL k 0 (cs.map .v) M) (L ++ dropAt ix 0 F) w' := by
  obtain ⟨hk1, hk2, hk3, cs0, hk4, hk5⟩ := h.key k ty sz hk
  have hgf : ∀ b, gfoot G b → b < w.heap.size ∧ (∀ k ty sz, (k, ty, sz) ∈ B → A k ≠ b) ∧ (E.w0.heap.size ≤ b ∨ E.X b) ∧ ∀ f ∈ dropAt ix 0 F, ¬ f.foot b := by
    rintro b ⟨g, hg, hb⟩
    obtain ⟨i, hi1, hi2⟩ := FK_at hG g hg
    obtain ⟨h1, h2, h3⟩ := h.fct _ (List.mem_of_getElem? hi2)
    obtain ⟨o1, o2⟩ := grantOk_all hok g hg
    refine ⟨(h2 b hb).1, (h2 b hb).2, h3 o2 b hb, fun f hf hfb => ?_⟩
    obtain ⟨j, hj1, hj2⟩ := dropAt_at ix F 0 f hf
    rw [Nat.zero_add] at hj2
    exact pairwise_pick h.dj (fun e => hj2 (by rw [← e]; exact hi1)) hi2 hj1 (.inl o1) b hb hfb
  have hsub := h.sub (dropAt_sub ix F 0)
  refine ⟨?_, h.inj, ?_, h.a0, h.n0, h.ext.trans' hex (fun i hi e => ?_), ?_, ?_⟩
  · intro k' ty' sz' hk'
    obtain ⟨g1, g2, g3, cs2, g4, g5⟩ := h.key k' ty' sz' hk'
    refine ⟨g1, Nat.lt_of_lt_of_le g2 hex.size, g3, ?_⟩
    by_cases e : A k' = A k
    · rw [e, hk4] at g4
      simp only [Option.some.injEq, Obj.cells.injEq] at g4
      obtain ⟨rfl, rfl, _⟩ := g4
      exact ⟨cs.toArray, by rw [e]; exact hnew, by simp; omega⟩
    · exact ⟨cs2, by rw [hex.block _ g2 (fun h' => h'.elim e (fun h' => (hgf _ h').2.1 k' ty' sz' hk' rfl))]; exact g4, g5⟩
  · intro k' o' v hv
    rw [lookM_storeL] at hv
    split at hv
    · rename_i hc
      obtain ⟨rfl, _, hc3⟩ := hc
      rw [Nat.sub_zero, List.getElem?_map] at hv
      cases hx : cs[o']? with
      | none => rw [hx] at hv; simp at hv
      | some u =>
        rw [hx] at hv; simp at hv; subst hv
        refine ⟨⟨ty, sz, hk⟩, ?_, trivial⟩
        rw [cell_of_row _ _ _ _ _ _ hnew]
        show cs.toArray[o']? = some u
        simpa using hx
    · rename_i hc
      obtain ⟨⟨ty', sz', hk'⟩, g2, g3⟩ := h.mem k' o' v hv
      refine ⟨⟨ty', sz', hk'⟩, ?_, g3⟩
      by_cases e : A k' = A k
      · have ek : k' = k := h.inj _ _ _ _ _ _ hk' hk e
        subst ek
        rw [cell_of_row _ _ _ _ _ _ hk4] at g2
        have : o' < cs0.size := (Array.getElem?_eq_some_iff.1 g2).1
        exact absurd ⟨rfl, Nat.zero_le _, by simp; omega⟩ hc
      · rw [← g2]
        exact World.cell?_of_block (hex.block _ (h.key _ _ _ hk').2.1 (fun h' => h'.elim e (fun h' => (hgf _ h').2.1 _ _ _ hk' rfl)))
  · rcases e with e | e
    · subst e
      rcases hk3 with hk3 | hk3
      · omega
      · exact hk3
    · exact (hgf i e).2.2.1.resolve_left (by omega)
  · intro f hf
    rcases List.mem_append.1 hf with hf | hf
    · obtain ⟨h1, h2, h3⟩ := hL.all f hf
      refine ⟨h1, fun b hb => ⟨(h3 b hb).2, fun k ty sz hk e => ?_⟩, fun _ b hb => ?_⟩
      · rcases (h3 b hb).1 with h4 | h4
        · have := (h.key k ty sz hk).2.1
          omega
        · exact (hgf b h4).2.1 k ty sz hk e
      · rcases (h3 b hb).1 with h4 | h4
        · exact .inl (Nat.le_trans h.ext.size h4)
        · exact (hgf b h4).2.2.1
    · obtain ⟨g1, g2, g3⟩ := hsub.fct f hf
      exact ⟨Fct.keep g1 (fun b hb => (g2 b hb).1) hex (fun b hb e => e.elim (fun e => (g2 b hb).2 k ty sz hk e.symm) (fun e => (hgf b e).2.2.2 f hf hb)), fun b hb => ⟨Nat.lt_of_lt_of_le (g2 b hb).1 hex.size, (g2 b hb).2⟩, g3⟩
  · rw [List.pairwise_append]
    refine ⟨hL.dj, hsub.dj, fun f hf g hg _ b hb hb' => ?_⟩
    rcases ((hL.all f hf).2.2 b hb).1 with h4 | h4
    · have := ((hsub.fct g hg).2.1 b hb').1
      omega
    · exact (hgf b h4).2.2.2 g hg hb'
/-- A call that may write the variable behind its pointer and the rows of the facts ix. -/
theorem stop_callPG (R : Value → List Value → List Fct → Prop) (ix : List Nat) {G : List Fct} {k : Call} {fo : Operand} {g : FuncId} {cap : List (Nat × Nat)} {l : List SV} {d kb ty sz : Nat} {cs : List Value} (hc : callable E.P g = true)
    (hop : o.op = .call k) (hk : k.callee = .value fo) (hf : evalO T fo = some (.f g cap)) (ha : evalOs T k.args.toList = some (.p kb 0 :: l)) (hd : Dst E o d) (hB : lookBT B kb = some (ty, sz)) (hM : loadN M kb 0 sz = some cs) (hG : FK F ix G) (hok : grantOk G)
    (hcall : ∀ A w ga, ga = A kb → WD E A n B M F w → Blk w ga ty cs → Calls E.P g (.pointer (some ⟨ga, 0, none⟩) :: ((l.map (SV.den A)) ++ cap.map (fun x => ptr A x.1 x.2))).toArray w (RetPG w ga ty sz G R))
    (hnext : ∀ v cs L, R v cs L → storeK kb 0 (cs.map .v) M fun M' => next (.mk ((d, .v v) :: T) n (c + 1) B M' (L ++ dropAt ix 0 F))) :
    OpW (opStop E o next T n c B M F) := by
  refine ⟨fun A a w hW hT => ?_⟩
  unfold Oper.wp
  rw [call_enter hT hc hop hk hf ha, Oper.upon_enter]
  refine (hcall A w (A kb) rfl hW (hW.blk (lookBT_mem hB) hM).1).mono ?_
  rintro e w' ⟨v, cs', L, rfl, he, hb, hl, hL, hoff, hR⟩
  have hn := hnext v cs' L hR
  rw [storeK_eq] at hn
  refine ⟨_, ⟨_, hW.callPG (lookBT_mem hB) hG hok he hb hl hL, ?_⟩, hn⟩
  rw [hd.1]
  exact (hT.step w').put (v := .v v) hd.lt trivial
end
end Go.Sx
