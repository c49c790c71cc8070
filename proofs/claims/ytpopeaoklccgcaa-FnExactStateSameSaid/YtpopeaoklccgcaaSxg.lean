/- THE FRAMEWORK 'Sx', PART 7: the verification condition is enough. No project text. -/
import Derived.Test.YtpopeaoklccgcaaSxf
namespace Go.Sx
open Go Go.RowKit

section
variable {E : Env} {ti : Nat → TI} {A : Nat → Nat} {T : List (Nat × SV)} {n c : Nat} {B : List (Nat × TypeId × Nat)} {M : List ((Nat × Nat) × SV)} {F : List Fct} {a : Act} {w w' : World}

theorem TD.lit (h : TD E A T n c a w) {t : Nat} {b : Bool} (ht : look T t = some (.v (.bool b))) : TD E A ((t, .lit b) :: T) n c a w := by
  refine ⟨h.size, h.defers, fun t' x hx => ?_⟩
  rw [look_cons] at hx
  by_cases e : t = t'
  · subst e
    simp at hx; subst hx
    exact ⟨(h.tm t _ ht).1, trivial⟩
  · simp [e] at hx
    exact h.tm t' x hx

theorem run_alloc {P : Program} {t : TypeId} {i : TypeInfo} {z : Value} (hi : P.info? t = some i) (hz : i.zero = some z) (w : World) (hn : Value) :
    (Instr.alloc t true hn).run P w = .ok (.pointer (some ⟨w.heap.size, 0, none⟩)) (w.alloc (.cells z.cells t)) := by
  simp [Instr.alloc, zeroValue, typeInfo, hi, hz, newVar, newRow]

theorem vcEff_sound (hti : ∀ t, TIok E.P t (ti t)) {o : Oper} {next : St → Prop} (hv : vcEff E ti o next T n c B M F o.op) (hW : WD E A n B M F w) (hT : TD E A T n c a w) {K : Act → World → Prop} {Q : Exit → Act → World → Prop} (hK : ∀ s a w, Den E s a w → next s → K a w) :
    o.wp E.P a w K Q := by
  cases hop : o.op <;> rw [hop] at hv <;> simp only [vcEff] at hv
  case alloc t =>
    split at hv
    · rename_i agg sz zero fs el ik kd bytes hte
      split at hv
      · rename_i d hd
        split at hv
        · rename_i hdn
          split at hv
          · rename_i hlen
            have htt := hti t
            rw [hte] at htt
            obtain ⟨ii, dd, z, e1, e2, e3, e4, e5, e6, e7, e8, e9, e10, e11⟩ := tiSum_parts htt
            rw [storeK_eq] at hv
            have hsz := Nat.eq_of_beq_eq_true hlen
            rw [listLen_eq] at hsz
            have hal := hW.alloc (l := zero.map .v) (fun x hx => by obtain ⟨y, _, rfl⟩ := List.mem_map.1 hx; trivial) t
            have hcells : ((zero.map SV.v).map (SV.den A)).toArray = z.cells := by
              rw [List.map_map, show (SV.den A ∘ SV.v) = id from rfl, List.map_id, ← e6]
            rw [hcells, List.length_map, hsz] at hal
            have hr : (execOp a.eval o).run E.P w = .ok (.value (.pointer (some ⟨w.heap.size, 0, none⟩))) (w.alloc (.cells z.cells t)) := by
              simp [execOp, hop, run_alloc e1 e5]
            refine upon_of_value hr ?_
            rw [hd]
            refine hK _ _ _ ⟨_, hal, ?_⟩ hv
            have := (hT.alloc w.heap.size (w.alloc (.cells z.cells t))).put (d := d) (v := .p n 0) (by simpa using hdn) (Nat.lt_succ_self n)
            simpa [SV.den, ptr] using this
          · exact hv.elim
        · exact hv.elim
      · exact hv.elim
    · exact hv.elim
  case box t x =>
    split at hv
    · rename_i d hd
      split at hv
      · rename_i hdn
        split at hv
        · rename_i s hs
          split at hv
          · rename_i l hl
            rw [storeK_eq] at hv
            obtain ⟨h1, h2⟩ := evalO_sound hT hs
            obtain ⟨c1, c2, c3⟩ := cellsSV_spec (A := A) hl h2
            have hal := hW.alloc c2 t
            rw [← listLen_eq] at hal
            have hcells : (l.map (SV.den A)).toArray = (s.den A).cells := by rw [← c1]
            rw [hcells] at hal
            have hr : (execOp a.eval o).run E.P w = .ok (.value (.pointer (some ⟨w.heap.size, 0, none⟩))) (w.alloc (.cells (s.den A).cells t)) := by
              simp [execOp, hop, Instr.box, newVar, newRow, h1]
            refine upon_of_value hr ?_
            rw [hd]
            refine hK _ _ _ ⟨_, hal, ?_⟩ hv
            have := (hT.alloc w.heap.size (w.alloc (.cells (s.den A).cells t))).put (d := d) (v := .p n 0) (by simpa using hdn) (Nat.lt_succ_self n)
            simpa [SV.den, ptr] using this
          · exact hv.elim
        · exact hv.elim
      · exact hv.elim
    · exact hv.elim
  case store t x y =>
    split at hv
    · exact hv.elim
    · rename_i hd
      split at hv
      · rename_i k off hx
        split at hv
        · rename_i agg sz zero fs el ik kd bytes hte
          split at hv
          · rename_i s hs
            split at hv
            · rename_i l hl
              split at hv
              · rename_i hlen
                split at hv
                · rename_i bsz hb
                  split at hv
                  · rename_i hle
                    rw [storeK_eq] at hv
                    have htt := hti t
                    rw [hte] at htt
                    obtain ⟨ii, dd, z, e1, e2, e3, e4, e5, e6, e7, e8, e9, e10, e11⟩ := tiSum_parts htt
                    obtain ⟨h1, h2⟩ := evalO_sound hT hs
                    obtain ⟨h3, h4⟩ := evalO_sound hT hx
                    obtain ⟨c1, c2, c3⟩ := cellsSV_spec (A := A) hl h2
                    obtain ⟨ty, hmem⟩ := lookB_mem hb
                    have hsz := Nat.eq_of_beq_eq_true hlen
                    rw [listLen_eq] at hsz
                    obtain ⟨w', hrun, hW'⟩ := hW.store hmem c2 c3 (by rw [hsz]; exact Nat.le_of_ble_eq_true hle) E.P
                    have hcs : (s.den A).cells.size = ii.size := by
                      have : (s.den A).cells.toList.length = l.length := by rw [c1]; simp
                      simp at this
                      rw [this, hsz, e4]
                    have hr : (execOp a.eval o).run E.P w = .ok .skip w' := by
                      have h3' : a.eval x = .pointer (some ⟨A k, off, none⟩) := h3
                      simp only [execOp, hop, Instr.storeAt, h1, h3', Instr.sureAddr, Sem.run_bind, Sem.run_pure, Result.andThen_ok, storeVar, run_sizeOf e1]
                      rw [if_neg (by simp [hcs]), c1]
                      simp only [Result.andThen_ok, hrun]
                    refine upon_of_skip hr ?_
                    rw [hd]
                    exact hK _ _ _ ⟨A, hW', hT.step w'⟩ hv
                  · exact hv.elim
                · exact hv.elim
              · exact hv.elim
            · exact hv.elim
          · exact hv.elim
        · exact hv.elim
      · obtain ⟨hv⟩ := hv
        exact Oper.wp_weak (fun a w ⟨s, h1, h2⟩ => hK s a w h1 h2) (hv A a w hW hT)
  case pick x y z =>
    split at hv
    · rename_i t
      split at hv
      · rename_i b hb
        split at hv
        · rename_i d hd
          split at hv
          · rename_i hdn
            have hlt : d < E.N := by simpa using hdn
            have hT' := hT.lit hb
            have heval : a.eval (.tmp t) = .bool b := (hT.tm t _ hb).1
            cases b with
            | true =>
              have hv := hv.t rfl
              split at hv
              · rename_i s hs
                obtain ⟨h1, h2⟩ := evalO_sound hT' hs
                have hr : (execOp a.eval o).run E.P w = .ok (.value (s.den A)) w := by
                  simp [execOp, hop, heval, asBool, h1]
                refine upon_of_value hr ?_
                rw [hd]
                exact hK _ _ _ ⟨A, hW, hT'.put hlt h2⟩ hv
              · exact hv.elim
            | false =>
              have hv := hv.f rfl
              split at hv
              · rename_i s hs
                obtain ⟨h1, h2⟩ := evalO_sound hT' hs
                have hr : (execOp a.eval o).run E.P w = .ok (.value (s.den A)) w := by
                  simp [execOp, hop, heval, asBool, h1]
                refine upon_of_value hr ?_
                rw [hd]
                exact hK _ _ _ ⟨A, hW, hT'.put hlt h2⟩ hv
              · exact hv.elim
          · exact hv.elim
        · exact hv.elim
      · exact hv.elim
    · exact hv.elim
  case buildSlice t len ps =>
    split at hv
    · rename_i e ik kd bytes hte
      split at hv
      · rename_i agg2 esz zero2 fs2 el2 ik2 kd2 bytes2 hte2
        split at hv
        · rename_i d hd
          split at hv
          · rename_i hdn
            split at hv
            · rename_i hplen
              split at hv
              · rename_i h24
                split at hv
                · rename_i cs hcs
                  obtain ⟨hv⟩ := hv
                  have htt := hti t
                  rw [hte] at htt
                  obtain ⟨ii, dd, z, e1, e2, e3, e4, e5, e6, e7, e8, e9, e10, e11⟩ := tiSum_parts htt
                  have htt2 := hti e
                  rw [hte2] at htt2
                  obtain ⟨ii2, dd2, z2, k1, k2, k3, k4, k5, k6, k7, k8, k9, k10, k11⟩ := tiSum_parts htt2
                  have hdd := el_slice e8
                  have hlen := Nat.eq_of_beq_eq_true hplen
                  rw [listLen_eq] at hlen
                  have h24' := Nat.le_of_ble_eq_true h24
                  obtain ⟨r, g1, g2, g3⟩ : ∃ r, cs.length = len * esz ∧ Instr.fill (fun i => some (i * esz, esz)) ((Array.range (len * esz)).map (((if len * esz = 0 then #[] else z2.cells) : Array Value)[· % ((if len * esz = 0 then #[] else z2.cells) : Array Value).size]!)) (ps.toList.map fun x => (x.1, a.eval x.2)) = some r ∧ r.toList = cs := by
                    obtain ⟨q1, r, q2, q3⟩ := fill_parts hT (acc := (Array.range (len * esz)).map (((if len * esz = 0 then #[] else z2.cells) : Array Value)[· % ((if len * esz = 0 then #[] else z2.cells) : Array Value).size]!)) hcs (by simp [hlen])
                    exact ⟨r, by rw [q1, hlen], q2, by simpa using q3⟩
                  have hrcs : r = cs.toArray := by apply Array.ext'; simpa using g3
                  have hr : (execOp a.eval o).run E.P w = .ok (.value (.slice (some ⟨w.heap.size, 0, none⟩) len len)) (w.alloc (.cells cs.toArray e)) := by
                    have hps : (ps.map fun (x : Nat × Operand) => (x.1, a.eval x.2)).toList = ps.toList.map fun x => (x.1, a.eval x.2) := by simp
                    have hdd2 : E.P.underlying t = some (.slice e) := by rw [e2, hdd]
                    simp only [execOp, hop, Instr.buildSlice, Sem.run_bind, underlying, run_program, Result.andThen_ok, hdd2, Sem.run_pure, run_sizeOf k1, k4, hps]
                    rw [if_neg (show ¬ (len * esz > 2 ^ 24) by omega)]
                    by_cases h0 : len * esz = 0
                    · simp only [h0, if_true] at g2 ⊢
                      simp only [Sem.run_bind, Sem.run_pure, Result.andThen_ok]
                      rw [g2]
                      simp [newRow, hrcs]
                    · simp only [h0, if_false] at g2 ⊢
                      simp only [Sem.run_bind, Sem.run_pure, Result.andThen_ok, zeroValue, typeInfo, run_program, k1, k5]
                      rw [g2]
                      simp [newRow, hrcs]
                  refine upon_of_value hr ?_
                  rw [hd]
                  have hex := Ext.alloc w (.cells cs.toArray e)
                  have hown : (w.alloc (.cells cs.toArray e)).ownsRow 0 e esz (Sl.val ⟨some ⟨w.heap.size, 0, none⟩, len⟩ len) len cs := by
                    refine ⟨g1, .inr ⟨w.heap.size, len, cs.toArray, rfl, Nat.zero_le _, heap_alloc_new w _, Nat.le_refl _, ?_, by simp [g1], ?_⟩⟩
                    · simp only [maxLen]; omega
                    · simp [← g1]
                  have hnew : New w (w.alloc (.cells cs.toArray e)) [fOwn false ⟨some ⟨w.heap.size, 0, none⟩, len⟩ e esz cs len] := by
                    refine ⟨fun f hf => ?_, List.pairwise_singleton _ _⟩
                    simp only [List.mem_singleton] at hf
                    subst hf
                    refine ⟨hown, rfl, fun b hb => ?_⟩
                    obtain ⟨ad, h1, h2⟩ := hb
                    simp only [Option.some.injEq] at h1
                    subst h1
                    simp at h2
                    subst h2
                    simp
                  have hL := hW.learn hex hnew
                  exact hK _ _ _ ⟨A, hL, (hT.step _).put (d := d) (v := .v (Sl.val ⟨some ⟨w.heap.size, 0, none⟩, len⟩ len)) (by simpa using hdn) trivial⟩ (hv ⟨some ⟨w.heap.size, 0, none⟩, len⟩)
                · exact hv.elim
              · exact hv.elim
            · exact hv.elim
          · exact hv.elim
        · exact hv.elim
      · exact hv.elim
    · exact hv.elim
  all_goals
    obtain ⟨hv⟩ := hv
    exact Oper.wp_weak (fun a w ⟨s, h1, h2⟩ => hK s a w h1 h2) (hv A a w hW hT)
end
end Go.Sx
