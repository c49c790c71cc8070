/- FnFormatState: texts that its proof stands on, part 3. -/
import Derived.Laws.StructEq
import Derived.Laws.Strings
import Derived.Test.YtchkcjeeknfchaaGreatDoorQFormatStateb
namespace Go.Sx
set_option maxRecDepth 100000
set_option maxHeartbeats 100000000
open Go Go.RowKit
theorem mC0 (g : Nat) (ty : TypeId) (cs : List Value) (w w' : World) (hb : ∀ b, b = g → w'.heap[b]? = w.heap[b]?) : Blk w g ty cs → Blk w' g ty cs := fun h => by
 unfold Blk at *
 rw [hb g rfl]; exact h
abbrev eK0 (g : Nat) (ty : TypeId) (cs : List Value) : Fct := .other true false (fun b => b = g) (fun w => Blk w g ty cs) (mC0 g ty cs)
section
variable {E : Env} {ti : Nat → TI} {A : Nat → Nat} {T : List (Nat × SV)} {n c : Nat} {B : List (Nat × TypeId × Nat)} {M Ms : List ((Nat × Nat) × SV)} {F Fs : List Fct} {o : Oper} {next : St → Prop} {a : Act} {w w' : World}
theorem WD.var (h : WD E A n B M F w) {k ty sz : Nat} {cs : List Value} (hB : gV B k = some (ty, sz)) (hM : mQ M k 0 sz = some cs) : (eK0 (A k) ty cs).P w ∧ ∀ b, (eK0 (A k) ty cs).foot b → b < w.heap.size :=
 ⟨(h.blk (cC hB) hM).1, fun b hb => by
   obtain rfl : b = A k := hb
   exact (h.key k ty sz (cC hB)).2.1⟩
theorem bV0 (R : Value → List Fct → Prop) {k : Call} {fo : Operand} {g : FuncId} {cap : Array Value} {l : List SV} {d : Nat} (hc : aD E.P g = true)
   (hop : o.op = .call k) (hk : k.callee = .value fo) (hf : aY T fo = some (.v (.func (.func g) #[] cap))) (ha : iK T k.args.toList = some l) (hd : Dst E o d)
   (hcall : ∀ A w, WD E A n B M F w → Calls E.P g ((l.map (SV.den A)) ++ cap.toList).toArray w (Ret w R))
   (hnext : ∀ v L, R v L → next (.mk ((d, .v v) :: T) n (c + 1) B M (L ++ F))) :
   OpW (cQ E o next T n c B M F) := by
 refine ⟨fun A a w hW hT => ?_⟩
 have hargs : (k.args.map a.eval).toList = l.map (SV.den A) := by rw [Array.toList_map]; exact iL hT ha
 have hfv := (aE hT hf).1
 have hr : (execOp a.eval o).run E.P w = .ok (.enter g ((l.map (SV.den A)) ++ cap.toList).toArray) w := by
   have hcat : (k.args.map a.eval) ++ cap = ((l.map (SV.den A)) ++ cap.toList).toArray := by
     apply Array.ext'; rw [Array.toList_append, hargs]
   simp only [execOp, hop, resolve, hk, Sem.run_bind, hfv, SV.den, Deferred.ofValue, Sem.run_pure, Result.andThen_ok, Array.empty_append, invoke, hcat, kG hc]
 unfold Oper.wp
 rw [hr, Oper.upon_enter]
 refine (hcall A w hW).mono ?_
 rintro e w' ⟨v, L, rfl, he, hL, hR⟩
 refine ⟨_, ⟨_, hW.learn he hL, ?_⟩, hnext v L hR⟩
 rw [hd.1]
 exact (hT.step w').put (v := .v v) hd.lt trivial
theorem vM (k1 : Nat) {t ty : TypeId} {x : Operand} {g d : Nat} {cs : List Value} {v : Value} {size : Nat} {zero : List Value} {fs : List (Nat × Nat × Bool)} {el : Option TypeId} {ik : Option IntKind} {kk bytes : Nat}
   (hti : ∀ t, aT E.P t (ti t)) (hop : o.op = .load t x) (hx : aY T x = some (.v (.pointer (some ⟨g, 0, none⟩)))) (ht : ti t = .mk false size zero fs el ik kk bytes) (hF : F[k1]? = some (eK0 g ty cs)) (hv : cs[0]? = some v) (hd : Dst E o d)
   (hnext : next (.mk ((d, .v v) :: T) n c B M F)) : OpW (cQ E o next T n c B M F) := by
 refine ⟨fun A a w hW hT => ?_⟩
 have htt := hti t
 rw [ht] at htt
 obtain ⟨ii, dd, z, e1, e2, e3, e4, e5, e6, e7, e8, e9, e10, e11⟩ := aP htt
 have hx' : a.eval x = .pointer (some ⟨g, 0, none⟩) := (aE hT hx).1
 have hb : Blk w g ty cs := (hW.nth k1 hF).1
 have hc : w.cell? ⟨g, 0, none⟩ = some v := by
   rw [cell_of_row _ _ _ _ _ _ hb]
   show cs.toArray[0]? = some v
   simpa using hv
 have hr : (execOp a.eval o).run E.P w = .ok (.value v) w := by
   simp [execOp, hop, hx', Instr.loadAt, Instr.sureAddr, fU (w := w) e2 e3 _ _ hc]
 refine aQ hr ?_
 rw [hd.1]
 exact ⟨_, ⟨_, hW, hT.put (v := .v v) hd.lt trivial⟩, hnext⟩
theorem nA {id : Nat} {ops : Array Oper} {K : St → Prop} (k1 : Nat) {i : Sl} {e sz q : Nat} {cs : List Value} (hF : F[k1]? = some (gX false i e sz cs q)) (h0 : 0 < q)
   (h : ∀ g, i.a = some ⟨g, 0, none⟩ → q ≤ i.c → i.c ≤ maxLen → DrawW (∀ a w, Den E (.mk T n c B M F) a w → (Code.region id ops true).wp E.P (lN E K) a w)) :
   DrawW (∀ a w, Den E (.mk T n c B M F) a w → (Code.region id ops true).wp E.P (lN E K) a w) := by
 refine ⟨fun a w hd => ?_⟩
 obtain ⟨A, hW, hT⟩ := hd
 rcases mS (hW.nth k1 hF).1 with ⟨_, h2, _⟩ | ⟨g, cur, h2, _, h3, h4, _⟩
 · omega
 · exact (h g h2 h3 h4).out a w ⟨A, hW, hT⟩
theorem aE0 (k1 : Nat) {i : Sl} {e sz q : Nat} {cs : List Value} (hF : F[k1]? = some (gX false i e sz cs q)) (h0 : 0 < q)
   (h : ∀ g, i.a = some ⟨g, 0, none⟩ → q ≤ i.c → i.c ≤ maxLen → OpW (cQ E o next T n c B M F)) : OpW (cQ E o next T n c B M F) := by
 refine ⟨fun A a w hW hT => ?_⟩
 rcases mS (hW.nth k1 hF).1 with ⟨_, h2, _⟩ | ⟨g, cur, h2, _, h3, h4, _⟩
 · omega
 · exact (h g h2 h3 h4).out A a w hW hT
theorem mI {t e : TypeId} {x ix : Operand} {i : Sl} {m0 sz : Nat} {kd : IntKind} {m : Int} {d g : Nat} {agg : Bool} {size : Nat} {zero : List Value} {fs : List (Nat × Nat × Bool)} {ik : Option IntKind} {kk bytes : Nat} {agg2 : Bool} {zero2 : List Value} {fs2 : List (Nat × Nat × Bool)} {el2 : Option TypeId} {ik2 : Option IntKind} {kk2 bytes2 : Nat}
   (hti : ∀ t, aT E.P t (ti t)) (hop : o.op = .indexAddr t x ix) (hx : aY T x = some (.v (i.val m0))) (hix : aY T ix = some (.v (.int kd m)))
   (ht : ti t = .mk agg size zero fs (some e) ik kk bytes) (hte : ti e = .mk agg2 sz zero2 fs2 el2 ik2 kk2 bytes2) (hd : Dst E o d) (hi : i.a = some ⟨g, 0, none⟩) (j : Nat) (hj : m = (j : Int)) (hlt : j < m0) {n0 : Nat} {B0 : List (Nat × TypeId × Nat)}
   (hnext : next (.mk ((d, .v (.pointer (some ⟨g, j * sz, none⟩))) :: T) n c B M F)) :
   OpW (∀ A, ∃ s : SV, (∀ a w, WD E A n0 B0 Ms Fs w → TD E A T n c a w → (execOp a.eval o).run E.P w = .ok (.value (s.den A)) w ∧ s.okT n c w) ∧ (∃ d, Dst E o d ∧ next (.mk ((d, s) :: T) n c B M F))) := by
 refine ⟨fun A => ⟨.v (.pointer (some ⟨g, j * sz, none⟩)), fun a w hW hT => ⟨?_, trivial⟩, d, hd, hnext⟩⟩
 have htt := hti t
 rw [ht] at htt
 obtain ⟨ii, dd, z, e1, e2, e3, e4, e5, e6, e7, e8, e9, e10, e11⟩ := aP htt
 have htt2 := hti e
 rw [hte] at htt2
 obtain ⟨ii2, dd2, z2, k1, k2, k3, k4, k5, k6, k7, k8, k9, k10, k11⟩ := aP htt2
 have hdd := fT e8
 subst hj
 have hx' : a.eval x = .slice (some ⟨g, 0, none⟩) m0 i.c := by rw [(aE hT hx).1]; simp [SV.den, Sl.val, hi]
 have hix' : a.eval ix = .int kd j := (aE hT hix).1
 simp [execOp, hop, Instr.indexAt, hx', hix', asIntOf, underlying, e2, hdd, cM k1, k4, hlt, SV.den]
 unfold Addr.add
 split <;> simp_all
theorem rJ {α : Type} {enc : α → List Value} {sz : Nat} (he : Enc enc sz) (k1 : Nat) {xs : List α} {i : Sl} {t e : TypeId} {x : Operand} {g ad d : Nat} {v : Value} {size : Nat} {zero : List Value} {fs : List (Nat × Nat × Bool)} {el : Option TypeId} {ik : Option IntKind} {kk bytes : Nat}
   (hti : ∀ t, aT E.P t (ti t)) (hop : o.op = .load t x) (hx : aY T x = some (.v (.pointer (some ⟨g, ad, none⟩)))) (ht : ti t = .mk false size zero fs el ik kk bytes) (hd : Dst E o d)
   (hF : F[k1]? = some (own i e enc sz xs)) (hi : i.a = some ⟨g, 0, none⟩) (j off : Nat) (had : ad = j * sz + off) (hj : j < xs.length) (hv : (enc xs[j])[off]? = some v)
   (hnext : next (.mk ((d, .v v) :: T) n (c + 1) B M F)) : OpW (opD E o Ms Fs next T n c B M F) := by
 refine ⟨opD0.up fun hkf A a w hW hT => ?_⟩
 have htt := hti t
 rw [ht] at htt
 obtain ⟨ii, dd, z, e1, e2, e3, e4, e5, e6, e7, e8, e9, e10, e11⟩ := aP htt
 have hx' : a.eval x = .pointer (some ⟨g, ad, none⟩) := (aE hT hx).1
 have hrd := nJ (hW.nth k1 hF).1
 obtain ⟨ad0, h1, h2⟩ := hrd.2.2.2 (by omega)
 rw [hi] at h1
 injection h1 with h1
 subst h1
 subst had
 have hc : w.cell? ⟨g, j * sz + off, none⟩ = some v := by
   have := h2 _ _ (oQ he hj hv)
   have ha : (⟨g, 0, none⟩ : Addr).add (j * sz + off) = ⟨g, j * sz + off, none⟩ := by unfold Addr.add; split <;> simp_all
   rwa [ha] at this
 have hr : (execOp a.eval o).run E.P w = .ok (.value v) w := by
   simp [execOp, hop, hx', Instr.loadAt, Instr.sureAddr, fU (w := w) e2 e3 _ _ hc]
 refine aQ hr ?_
 rw [hd.1]
 exact ⟨_, _, F, hW, fun w2 => (hT.step w2).put (v := .v v) hd.lt trivial, hkf, hnext⟩
theorem nB {α : Type} {enc : α → List Value} {sz : Nat} (he : Enc enc sz) (k1 : Nat) {xs : List α} {i : Sl} {t e : TypeId} {x y : Operand} {g ad : Nat} {s : SV} {l : List SV} {sz2 : Nat} {agg : Bool} {zero : List Value} {fs : List (Nat × Nat × Bool)} {el : Option TypeId} {ik : Option IntKind} {kk bytes : Nat}
   (hti : ∀ t, aT E.P t (ti t)) (hop : o.op = .store t x y) (hd : o.dst = none) (hx : aY T x = some (.v (.pointer (some ⟨g, ad, none⟩)))) (hy : aY T y = some s) (hl : iM s = some l) (ht : ti t = .mk agg sz2 zero fs el ik kk bytes) (hlen : dO l = sz2)
   (hF : F[k1]? = some (own i e enc sz xs)) (hi : i.a = some ⟨g, 0, none⟩) (j off : Nat) (y0 : α) (had : ad = j * sz + off) (hj : j < xs.length) (hle : Nat.ble (off + sz2) sz = true) (vs : List Value) (hvs : ∀ A, l.map (SV.den A) = vs)
   (hy0 : enc y0 = (enc xs[j]).take off ++ vs ++ (enc xs[j]).drop (off + vs.length)) (hkeep : iP Fs F → iP Fs (F.eraseIdx k1))
   (hnext : next (.mk T n (c + 1) B M (own i e enc sz (xs.set j y0) :: F.eraseIdx k1))) : OpW (opD E o Ms Fs next T n c B M F) := by
 refine ⟨opD0.up fun hkf A a w hW hT => ?_⟩
 have hown := (hW.nth k1 hF).1
 have htt := hti t
 rw [ht] at htt
 obtain ⟨ii, dd, z, e1, e2, e3, e4, e5, e6, e7, e8, e9, e10, e11⟩ := aP htt
 obtain ⟨h1, h2⟩ := aE hT hy
 have h3 : a.eval x = .pointer (some ⟨g, ad, none⟩) := (aE hT hx).1
 obtain ⟨c1, c2, c3⟩ := iN (A := A) hl h2
 rw [hvs A] at c1
 have hvl : vs.length = sz2 := by rw [← hvs A, List.length_map, ← dN]; exact hlen
 have hle' := Nat.le_of_ble_eq_true hle
 have hjs : (j + 1) * sz ≤ xs.length * sz := Nat.mul_le_mul_right _ hj
 rw [Nat.succ_mul] at hjs
 subst had
 obtain ⟨w', hrun, hX, hnew⟩ := xB (P := E.P) (w := w) (off := j * sz + off) (vs := vs) hown hi (by omega) (fun v hv => by
   rw [← hvs A] at hv
   obtain ⟨q, hq, rfl⟩ := List.mem_map.1 hv
   exact c3 q hq)
 rw [← xC he hj (by omega) hy0] at hnew
 have hr : (execOp a.eval o).run E.P w = .ok .skip w' := by
   have hcs : (s.den A).cells.size = ii.size := by
     have : (s.den A).cells.toList.length = vs.length := by rw [c1]
     simp at this
     rw [this, hvl, e4]
   simp only [execOp, hop, Instr.storeAt, h1, h3, Instr.sureAddr, Sem.run_bind, Sem.run_pure, Result.andThen_ok, storeVar, cM e1]
   rw [if_neg (by simp [hcs]), c1]
   simp only [Result.andThen_ok, hrun]
 refine gM hr ?_
 rw [hd]
 refine ⟨_, _, _, ?_, fun w2 => hT.step w2, fun f hf => List.mem_cons_of_mem _ (hkeep hkf f hf), hnext⟩
 show WD E A n B M (gX false i e sz (cells enc (xs.set j y0)) (xs.set j y0).length :: F.eraseIdx k1) w'
 have hlen' : (xs.set j y0).length = xs.length := by simp
 rw [hlen']
 exact hW.turnX hF hi hX hnew
end
section
variable {E : Env} {ti : Nat → TI} {A : Nat → Nat} {T : List (Nat × SV)} {n c : Nat} {B : List (Nat × TypeId × Nat)} {M Ms : List ((Nat × Nat) × SV)} {F Fs : List Fct} {o : Oper} {next : St → Prop} {a : Act} {w w' : World}
theorem WD.callPG (h : WD E A n B M F w) {k ty sz : Nat} (hk : (k, ty, sz) ∈ B) {cs : List Value} {ix : List Nat} {G : List Fct} (hG : FK F ix G) (hok : kJ G) (hex : ExtX (fun b => b = A k ∨ rG G b) w w') (hnew : Blk w' (A k) ty cs) (hl : cs.length = sz) {L : List Fct} (hL : NewG w w' G L) :
   WD E A n B (eY k 0 (cs.map .v) M) (L ++ hU ix 0 F) w' := by
 obtain ⟨hk1, hk2, hk3, cs0, hk4, hk5⟩ := h.key k ty sz hk
 have hgf : ∀ b, rG G b → b < w.heap.size ∧ (∀ k ty sz, (k, ty, sz) ∈ B → A k ≠ b) ∧ (E.w0.heap.size ≤ b ∨ E.X b) ∧ ∀ f ∈ hU ix 0 F, ¬ f.foot b := by
   rintro b ⟨g, hg, hb⟩
   obtain ⟨i, hi1, hi2⟩ := wZ hG g hg
   obtain ⟨h1, h2, h3⟩ := h.fct _ (List.mem_of_getElem? hi2)
   obtain ⟨o1, o2⟩ := lU hok g hg
   refine ⟨(h2 b hb).1, (h2 b hb).2, h3 o2 b hb, fun f hf hfb => ?_⟩
   obtain ⟨j, hj1, hj2⟩ := mZ ix F 0 f hf
   rw [Nat.zero_add] at hj2
   exact fW h.dj (fun e => hj2 (by rw [← e]; exact hi1)) hi2 hj1 (.inl o1) b hb hfb
 have hsub := h.sub (lB ix F 0)
 refine ⟨?_, h.inj, ?_, h.a0, h.n0, h.ext.trans' hex (fun i hi e => ?_), ?_, ?_⟩
 · intro k' ty' sz' hk'
   obtain ⟨g1, g2, g3, cs2, g4, g5⟩ := h.key k' ty' sz' hk'
   refine ⟨g1, Nat.lt_of_lt_of_le g2 hex.size, g3, ?_⟩
   by_cases e : A k' = A k
   · rw [e, hk4] at g4
     simp only [Option.some.injEq, Obj.cells.injEq] at g4
     obtain ⟨rfl, rfl, _⟩ := g4
     exact ⟨cs.toArray, by rw [e]; exact hnew, by simp; omega⟩
   · exact ⟨cs2, by rw [hex.block _ g2 (fun h' => h'.elim e (fun h' => (hgf _ h').2.1 k' ty' sz' hk' rfl))]; exact g4, g5⟩
 · intro k' o' v hv
   rw [cZ] at hv
   split at hv
   · rename_i hc
     obtain ⟨rfl, _, hc3⟩ := hc
     rw [Nat.sub_zero, List.getElem?_map] at hv
     cases hx : cs[o']? with
     | none => rw [hx] at hv; simp at hv
     | some u =>
       rw [hx] at hv; simp at hv; subst hv
       refine ⟨⟨ty, sz, hk⟩, ?_, trivial⟩
       rw [cell_of_row _ _ _ _ _ _ hnew]
       show cs.toArray[o']? = some u
       simpa using hx
   · rename_i hc
     obtain ⟨⟨ty', sz', hk'⟩, g2, g3⟩ := h.mem k' o' v hv
     refine ⟨⟨ty', sz', hk'⟩, ?_, g3⟩
     by_cases e : A k' = A k
     · have ek : k' = k := h.inj _ _ _ _ _ _ hk' hk e
       subst ek
       rw [cell_of_row _ _ _ _ _ _ hk4] at g2
       have : o' < cs0.size := (Array.getElem?_eq_some_iff.1 g2).1
       exact absurd ⟨rfl, Nat.zero_le _, by simp; omega⟩ hc
     · rw [← g2]
       exact World.cell?_of_block (hex.block _ (h.key _ _ _ hk').2.1 (fun h' => h'.elim e (fun h' => (hgf _ h').2.1 _ _ _ hk' rfl)))
 · rcases e with e | e
   · subst e
     rcases hk3 with hk3 | hk3
     · omega
     · exact hk3
   · exact (hgf i e).2.2.1.resolve_left (by omega)
 · intro f hf
   rcases List.mem_append.1 hf with hf | hf
   · obtain ⟨h1, h2, h3⟩ := hL.all f hf
     refine ⟨h1, fun b hb => ⟨(h3 b hb).2, fun k ty sz hk e => ?_⟩, fun _ b hb => ?_⟩
     · rcases (h3 b hb).1 with h4 | h4
       · have := (h.key k ty sz hk).2.1
         omega
       · exact (hgf b h4).2.1 k ty sz hk e
     · rcases (h3 b hb).1 with h4 | h4
       · exact .inl (Nat.le_trans h.ext.size h4)
       · exact (hgf b h4).2.2.1
   · obtain ⟨g1, g2, g3⟩ := hsub.fct f hf
     exact ⟨Fct.keep g1 (fun b hb => (g2 b hb).1) hex (fun b hb e => e.elim (fun e => (g2 b hb).2 k ty sz hk e.symm) (fun e => (hgf b e).2.2.2 f hf hb)), fun b hb => ⟨Nat.lt_of_lt_of_le (g2 b hb).1 hex.size, (g2 b hb).2⟩, g3⟩
 · rw [List.pairwise_append]
   refine ⟨hL.dj, hsub.dj, fun f hf g hg _ b hb hb' => ?_⟩
   rcases ((hL.all f hf).2.2 b hb).1 with h4 | h4
   · have := ((hsub.fct g hg).2.1 b hb').1
     omega
   · exact (hgf b h4).2.2.2 g hg hb'
end
theorem eL0 (G : List Fct) (w w' : World) (hb : ∀ b, (∃ f ∈ G, f.foot b) → w'.heap[b]? = w.heap[b]?) (h : ∀ f ∈ G, f.P w) : ∀ f ∈ G, f.P w' :=
 fun f hf => f.st w w' (fun b hfb => hb b ⟨f, hf, hfb⟩) (h f hf)
abbrev fB (old : Bool) (G : List Fct) : Fct := .other old false (fun b => ∃ f ∈ G, f.foot b) (fun w => ∀ f ∈ G, f.P w) (eL0 G)
section
variable {E : Env} {A : Nat → Nat} {T : List (Nat × SV)} {n c : Nat} {B : List (Nat × TypeId × Nat)} {M Ms : List ((Nat × Nat) × SV)} {F Fs : List Fct} {o : Oper} {next : St → Prop} {w : World}
inductive DerB : Fct → List Fct → Prop
 | own {i : Sl} {e sz n : Nat} {cs : List Value} : DerB (gX false i e sz cs n) [fSl false i sz cs n]
 | sl {i : Sl} {sz n : Nat} {cs : List Value} : DerB (fSl false i sz cs n) [fSl false i sz cs n]
 | b {G : List Fct} : DerB (fB false G) G
theorem DerB.out {f : Fct} {G : List Fct} (h : DerB f G) : f.old = false ∧ (∀ w, f.P w → ∀ g ∈ G, g.P w) ∧ ∀ g ∈ G, ∀ b, g.foot b → f.foot b := by
 cases h with
 | own => exact ⟨rfl, fun w h g hg => by obtain rfl := List.mem_singleton.1 hg; exact nJ h, fun g hg b hb => by obtain rfl := List.mem_singleton.1 hg; exact hb.2⟩
 | sl => exact ⟨rfl, fun w h g hg => by obtain rfl := List.mem_singleton.1 hg; exact h, fun g hg b hb => by obtain rfl := List.mem_singleton.1 hg; exact hb⟩
 | b => exact ⟨rfl, fun w h g hg => h g hg, fun g hg b hb => ⟨g, hg, hb⟩⟩
def Fct.aged : Fct → Fct
 | .sl _ i sz cs n => .sl true i sz cs n
 | .own _ i _ sz cs n => .sl true i sz cs n
 | .other _ _ foot P st => .other true false foot P st
theorem Fct.aged_out : ∀ (f : Fct), (∀ w, f.P w → f.aged.P w) ∧ ∀ b, f.aged.foot b → f.foot b
 | .sl .. => z119
 | .own .. => ⟨fun _ h => nJ h, fun _ h => h.2⟩
 | .other .. => z119
end
structure Rd (f g : Fct) : Prop where
 p : ∀ w, f.P w → g.P w
 foot : ∀ b, g.foot b → f.foot b
theorem Rd.refl (f : Fct) : Rd f f := z119
theorem Rd.trans {f g e : Fct} (h : Rd f g) (k : Rd g e) : Rd f e := ⟨fun w x => k.p w (h.p w x), fun b x => h.foot b (k.foot b x)⟩
theorem Rd.aged (f : Fct) : Rd f f.aged := ⟨f.aged_out.1, f.aged_out.2⟩
theorem Rd.sl {o o' : Bool} {i : Sl} {sz n : Nat} {cs : List Value} : Rd (fSl o i sz cs n) (fSl o' i sz cs n) := z119
theorem Rd.own {o o' : Bool} {i : Sl} {e sz n : Nat} {cs : List Value} : Rd (gX o i e sz cs n) (fSl o' i sz cs n) := ⟨fun _ h => nJ h, fun _ h => h.2⟩
theorem ob_st (G : List Fct) (w w' : World) (hb : ∀ b, (∃ f ∈ G, f.foot b) → w'.heap[b]? = w.heap[b]?) (h : (∀ f ∈ G, f.P w ∧ f.isOwn = true ∧ f.old = false) ∧ G.Pairwise Dj) : (∀ f ∈ G, f.P w' ∧ f.isOwn = true ∧ f.old = false) ∧ G.Pairwise Dj :=
 ⟨fun f hf => ⟨f.st w w' (fun b hfb => hb b ⟨f, hf, hfb⟩) (h.1 f hf).1, (h.1 f hf).2⟩, h.2⟩
abbrev fO (G : List Fct) : Fct := .other false true (fun b => ∃ f ∈ G, f.foot b) (fun w => (∀ f ∈ G, f.P w ∧ f.isOwn = true ∧ f.old = false) ∧ G.Pairwise Dj) (ob_st G)
abbrev fR (G : List Fct) : Fct := fB true (G.map Fct.aged)
def RdIn (G : List Fct) (g : Fct) : Prop := ∃ f ∈ G, Rd f.aged g
theorem RdIn.own {G : List Fct} {o o' : Bool} {i : Sl} {e sz n : Nat} {cs : List Value} (h : gX o i e sz cs n ∈ G) : RdIn G (fSl o' i sz cs n) := ⟨_, h, Rd.sl⟩
theorem Rd.ofO {G : List Fct} {g : Fct} (h : RdIn G g) : Rd (fO G) g := by
 obtain ⟨f, hf, h⟩ := h
 exact ⟨fun w hw => h.p w (f.aged_out.1 w (hw.1 f hf).1), fun b hb => ⟨f, hf, f.aged_out.2 b (h.foot b hb)⟩⟩
theorem Rd.ofR {G : List Fct} {g : Fct} (h : RdIn G g) : Rd (fR G) g := by
 obtain ⟨f, hf, h⟩ := h
 exact ⟨fun w hw => h.p w (hw _ (List.mem_map_of_mem hf)), fun b hb => ⟨_, List.mem_map_of_mem hf, h.foot b hb⟩⟩
theorem Rd.O_R {G G' : List Fct} (h : ∀ g ∈ G', g ∈ G) : Rd (fO G) (fR G') := by
 refine ⟨fun w hw g hg => ?_, ?_⟩
 · obtain ⟨f, hf, rfl⟩ := List.mem_map.1 hg
   exact f.aged_out.1 w (hw.1 f (h f hf)).1
 · rintro b ⟨g, hg, hb⟩
   obtain ⟨f, hf, rfl⟩ := List.mem_map.1 hg
   exact ⟨f, h f hf, f.aged_out.2 b hb⟩
theorem Rd.R_R {G G' : List Fct} (h : ∀ g ∈ G', g ∈ G) : Rd (fR G) (fR G') := by
 refine ⟨fun w hw g hg => ?_, ?_⟩
 · obtain ⟨f, hf, rfl⟩ := List.mem_map.1 hg
   exact hw _ (List.mem_map_of_mem (h f hf))
 · rintro b ⟨g, hg, hb⟩
   obtain ⟨f, hf, rfl⟩ := List.mem_map.1 hg
   exact ⟨_, List.mem_map_of_mem (h f hf), hb⟩
def Shift (F F' : List Fct) : Prop := ∀ (E : Env) (A : Nat → Nat) (n : Nat) (B : List (Nat × TypeId × Nat)) (M : List ((Nat × Nat) × SV)) (w : World), WD E A n B M F w → WD E A n B M F' w
theorem Shift.trans {F F' F'' : List Fct} (h : Shift F F') (k : Shift F' F'') : Shift F F'' := fun E A n B M w x => k E A n B M w (h E A n B M w x)
inductive DerO : Fct → List Fct → Prop
 | own {i : Sl} {e sz n : Nat} {cs : List Value} : DerO (gX false i e sz cs n) [gX false i e sz cs n]
 | o {G : List Fct} : DerO (fO G) G
theorem DerO.out {f : Fct} {G : List Fct} (h : DerO f G) : (∀ w, f.P w → (∀ g ∈ G, g.P w ∧ g.isOwn = true ∧ g.old = false) ∧ G.Pairwise Dj) ∧ (∀ g ∈ G, ∀ b, g.foot b → f.foot b) ∧ f.isOwn = true ∧ f.old = false := by
 cases h with
 | own => exact ⟨fun w h => ⟨fun g hg => by obtain rfl := List.mem_singleton.1 hg; exact ⟨h, rfl, rfl⟩, List.pairwise_singleton _ _⟩, fun g hg b hb => by obtain rfl := List.mem_singleton.1 hg; exact hb, rfl, rfl⟩
 | o => exact ⟨fun w h => h, fun g hg b hb => ⟨g, hg, hb⟩, rfl, rfl⟩
def FJ (F : List Fct) : List Nat → List (List Fct) → Prop
 | [], [] => True
 | j :: jx, G :: r => ((∃ f, F[j]? = some f ∧ DerO f G) ∨ (F.length ≤ j ∧ ∀ g ∈ G, eF g)) ∧ FJ F jx r
 | _, _ => False
theorem lC {g : Fct} (h : eF g) : ∀ b, ¬ g.foot b := by
 cases g with
 | own old i e sz cs n => obtain ⟨_, rfl, _⟩ := h; rintro b ⟨ad, h, _⟩; cases h
 | _ => exact h.elim
theorem jT0 {g : Fct} (h : eF g) : g.isOwn = true := by
 cases g with
 | own => rfl
 | _ => exact h.elim
theorem yO {G : List Fct} (h : ∀ g ∈ G, eF g) : G.Pairwise Dj := by
 rw [List.pairwise_iff_getElem]
 intro i j hi hj _ _ b hb
 exact (lC (h _ (List.getElem_mem hi)) b hb).elim
theorem gR0 {F : List Fct} : ∀ {ix : List Nat} {Gs : List (List Fct)}, FJ F ix Gs → ix.length = Gs.length
 | [], [], _ => rfl
 | [], _ :: _, h => h.elim
 | _ :: _, [], h => h.elim
 | _ :: _, _ :: _, h => by simp [gR0 h.2]
theorem vN {F : List Fct} : ∀ {ix : List Nat} {Gs : List (List Fct)}, FJ F ix Gs → ∀ (p j : Nat) (G : List Fct), ix[p]? = some j → Gs[p]? = some G → (∃ f, F[j]? = some f ∧ DerO f G) ∨ ∀ g ∈ G, eF g
 | [], _, _, p, j, G, h, _ => by simp at h
 | _ :: _, [], h, _, _, _, _, _ => h.elim
 | i :: ix, G :: r, h, p, j, G', h1, h2 => by
   cases p with
   | zero =>
     simp at h1 h2
     subst h1; subst h2
     exact h.1.imp id (·.2)
   | succ p => exact vN h.2 p j G' (by simpa using h1) (by simpa using h2)
section
variable {E : Env} {A : Nat → Nat} {T : List (Nat × SV)} {n c : Nat} {B : List (Nat × TypeId × Nat)} {M Ms : List ((Nat × Nat) × SV)} {F F' Fs : List Fct} {o : Oper} {next : St → Prop} {w : World}
theorem Shift.splitO (k : Nat) {L G G' : List Fct} (hk : F[k]? = some (fO G)) (hp : G.Perm (L ++ G')) : Shift F (L ++ fO G' :: F.eraseIdx k) := by
 intro E A n B M w h
 obtain ⟨⟨h1, hpw⟩, h2, h3⟩ := h.fct _ (List.mem_of_getElem? hk)
 have hsub := h.sub (iO F k)
 have hdj := eB h.dj hk
 have hpw' := (hp.pairwise_iff (fun h => Dj.symm h)).1 hpw
 rw [List.pairwise_append] at hpw'
 obtain ⟨q1, q2, q3⟩ := hpw'
 have hL : ∀ f ∈ L, f ∈ G := fun f hf => hp.mem_iff.2 (List.mem_append_left _ hf)
 have hG' : ∀ f ∈ G', f ∈ G := fun f hf => hp.mem_iff.2 (List.mem_append_right _ hf)
 refine ⟨h.key, h.inj, h.mem, h.a0, h.n0, h.ext, fun f hf => ?_, ?_⟩
 · rcases List.mem_append.1 hf with hf | hf
   · exact ⟨(h1 f (hL f hf)).1, fun b hb => h2 b ⟨f, hL f hf, hb⟩, fun _ b hb => h3 rfl b ⟨f, hL f hf, hb⟩⟩
   · rcases List.mem_cons.1 hf with rfl | hf
     · refine ⟨⟨fun g hg => h1 g (hG' g hg), q2⟩, ?_, ?_⟩
       · rintro b ⟨g, hg, hb⟩; exact h2 b ⟨g, hG' g hg, hb⟩
       · rintro _ b ⟨g, hg, hb⟩; exact h3 rfl b ⟨g, hG' g hg, hb⟩
     · exact hsub.fct f hf
 · rw [List.pairwise_append]
   refine ⟨q1, ?_, fun f hf g hg ho b hb hb' => ?_⟩
   · rw [List.pairwise_cons]
     refine ⟨fun f hf ho b hb hb' => ?_, hsub.dj⟩
     obtain ⟨g, hg, hgb⟩ := hb
     exact hdj f hf (.inl rfl) b ⟨g, hG' g hg, hgb⟩ hb'
   · rcases List.mem_cons.1 hg with rfl | hg
     · obtain ⟨g, hg, hgb⟩ := hb'
       exact q3 f hf g hg (.inl (h1 f (hL f hf)).2.1) b hb hgb
     · exact hdj g hg (.inl rfl) b ⟨f, hL f hf, hb⟩ hb'
theorem Shift.joinO (ix : List Nat) {Gs : List (List Fct)} (hG : FJ F ix Gs) (hix : hJ ix = true) {G : List Fct} (hp : Gs.flatten.Perm G) : Shift F (fO G :: hU ix 0 F) := by
 intro E A n B M w h
 have hsub := h.sub (lB ix F 0)
 have hnd := sO hix
 have hlen := gR0 hG
 have hmem : ∀ g ∈ Gs.flatten, g.isOwn = true ∧ g.old = false ∧ ((∃ i ∈ ix, ∃ f, F[i]? = some f ∧ f.isOwn = true ∧ f.old = false ∧ g.P w ∧ ∀ b, g.foot b → f.foot b) ∨ eF g) := by
   intro g hg
   obtain ⟨G0, h0, hg0⟩ := List.mem_flatten.1 hg
   obtain ⟨p, hpp⟩ := List.getElem?_of_mem h0
   have hplt : p < ix.length := by rw [hlen]; exact (List.getElem?_eq_some_iff.1 hpp).1
   rcases vN hG p ix[p] G0 (List.getElem?_eq_getElem hplt) hpp with ⟨f, hf, hd⟩ | hn
   · obtain ⟨d1, d2, d3, d4⟩ := hd.out
     have hfw := (h.nth _ hf).1
     exact ⟨((d1 w hfw).1 g hg0).2.1, ((d1 w hfw).1 g hg0).2.2, .inl ⟨_, List.getElem_mem hplt, f, hf, d3, d4, ((d1 w hfw).1 g hg0).1, d2 g hg0⟩⟩
   · exact ⟨jT0 (hn g hg0), (hH (hn g hg0) w).2.2, .inr (hn g hg0)⟩
 have hpw : Gs.flatten.Pairwise Dj := by
   rw [List.pairwise_flatten]
   refine ⟨fun l hl => ?_, ?_⟩
   · obtain ⟨p, hpp⟩ := List.getElem?_of_mem hl
     have hplt : p < ix.length := by rw [hlen]; exact (List.getElem?_eq_some_iff.1 hpp).1
     rcases vN hG p ix[p] l (List.getElem?_eq_getElem hplt) hpp with ⟨f, hf, hd⟩ | hn
     · exact (hd.out.1 w (h.nth _ hf).1).2
     · exact yO hn
   · rw [List.pairwise_iff_getElem]
     intro p q hp' hq' hpq x hx y hy _ b hb hb'
     have hpi : p < ix.length := by rw [hlen]; exact hp'
     have hqi : q < ix.length := by rw [hlen]; exact hq'
     rcases vN hG p ix[p] _ (List.getElem?_eq_getElem hpi) (List.getElem?_eq_getElem hp') with ⟨f, hf, hd⟩ | hn
     · rcases vN hG q ix[q] _ (List.getElem?_eq_getElem hqi) (List.getElem?_eq_getElem hq') with ⟨f', hf', hd'⟩ | hn
       · have hne : ix[p] ≠ ix[q] := List.pairwise_iff_getElem.1 hnd p q hpi hqi hpq
         exact fW h.dj hne hf hf' (.inl hd.out.2.2.1) b (hd.out.2.1 x hx b hb) (hd'.out.2.1 y hy b hb')
       · exact lC (hn y hy) b hb'
     · exact lC (hn x hx) b hb
 have hm' : ∀ g ∈ G, g ∈ Gs.flatten := fun g hg => hp.mem_iff.2 hg
 refine ⟨hsub.key, hsub.inj, hsub.mem, hsub.a0, hsub.n0, hsub.ext, fun f hf => ?_, ?_⟩
 · rcases List.mem_cons.1 hf with rfl | hf
   · refine ⟨⟨fun g hg => ?_, (hp.pairwise_iff (fun h => Dj.symm h)).1 hpw⟩, ?_, ?_⟩
     · obtain ⟨m1, m2, m3⟩ := hmem g (hm' g hg)
       refine ⟨?_, m1, m2⟩
       rcases m3 with ⟨i, _, f, _, _, _, hgP, _⟩ | hn
       · exact hgP
       · exact (hH hn w).1
     · rintro b ⟨g, hg, hb⟩
       rcases (hmem g (hm' g hg)).2.2 with ⟨i, _, f, hf, _, _, _, hfoot⟩ | hn
       · exact (h.fct _ (List.mem_of_getElem? hf)).2.1 b (hfoot b hb)
       · exact (lC hn b hb).elim
     · rintro _ b ⟨g, hg, hb⟩
       rcases (hmem g (hm' g hg)).2.2 with ⟨i, _, f, hf, _, hold, _, hfoot⟩ | hn
       · exact (h.fct _ (List.mem_of_getElem? hf)).2.2 hold b (hfoot b hb)
       · exact (lC hn b hb).elim
   · exact hsub.fct f hf
 · rw [List.pairwise_cons]
   refine ⟨fun r hr ho b hb hb' => ?_, hsub.dj⟩
   obtain ⟨g, hg, hgb⟩ := hb
   rcases (hmem g (hm' g hg)).2.2 with ⟨i, hi, f, hf, hown, _, _, hfoot⟩ | hn
   · obtain ⟨j, hj1, hj2⟩ := mZ ix F 0 r hr
     rw [Nat.zero_add] at hj2
     exact fW h.dj (fun e => hj2 (by rw [← e]; exact hi)) hf hj1 (.inl hown) b (hfoot b hgb) hb'
   · exact lC hn b hgb
theorem Shift.pick (ix : List Nat) (hF : FW F ix F') (hix : hJ ix = true) : Shift F F' := fun _ _ _ _ _ _ h => h.pick ix hF hix
theorem vO (h : Shift F F') (k : OpW (cQ E o next T n c B M F')) : OpW (cQ E o next T n c B M F) := ⟨fun A a w hW hT => k.out A a w (h E A n B M w hW) hT⟩
theorem aX {s : St} (h : Shift F F') (k : Weak E (.mk T n c B M F') s) : Weak E (.mk T n c B M F) s := fun a w ⟨A, hW, hT⟩ => k a w ⟨A, h E A n B M w hW, hT⟩
theorem aU {X : (Nat → Nat) → World → Prop} (h : Shift F F') (k : RetW (∀ A w, WD E A n B M F' w → X A w)) : RetW (∀ A w, WD E A n B M F w → X A w) := ⟨fun A w hW => k.out A w (h E A n B M w hW)⟩
theorem jF {X : Act → World → Prop} (h : Shift F F') (k : DrawW (∀ a w, Den E (.mk T n c B M F') a w → X a w)) : DrawW (∀ a w, Den E (.mk T n c B M F) a w → X a w) := ⟨fun a w ⟨A, hW, hT⟩ => k.out a w ⟨A, h E A n B M w hW, hT⟩⟩
theorem jU0 (h : Shift F F') (hkeep : iP Fs F → iP Fs F') (k : OpW (opD E o Ms Fs next T n c B M F')) : OpW (opD E o Ms Fs next T n c B M F) :=
 ⟨fun hm hf A a w hW hT => k.out hm (hkeep hf) A a w (h E A n B M w hW) hT⟩
theorem WD.get (h : WD E A n B M F w) (k : Nat) {f g : Fct} (hk : F[k]? = some f) (r : Rd f g) : g.P w ∧ ∀ b, g.foot b → b < w.heap.size :=
 ⟨r.p w (h.nth k hk).1, fun b hb => (h.nth k hk).2 b (r.foot b hb)⟩
theorem WD.getP (h : WD E A n B M F w) (ga : Nat) {k ty sz : Nat} (hg : ga = A k) (hB : gV B k = some (ty, sz)) (j : Nat) {f g : Fct} (hj : F[j]? = some f) (r : Rd f g) : g.P w ∧ ∀ b, g.foot b → b < w.heap.size ∧ b ≠ ga := by
 subst hg
 refine ⟨r.p w (h.nth j hj).1, fun b hb => ?_⟩
 exact ⟨((h.fct _ (List.mem_of_getElem? hj)).2.1 b (r.foot b hb)).1, fun e => ((h.fct _ (List.mem_of_getElem? hj)).2.1 b (r.foot b hb)).2 k ty sz (cC hB) e.symm⟩
theorem aN {F : List Fct} (k : Nat) {f : Fct} (hk : F[k]? = some f) {o : Bool} {i : Sl} {sz m : Nat} {cs : List Value} (r : Rd f (fSl o i sz cs m)) : ∀ w, (∀ f ∈ F, f.P w) → RdS w i sz cs m :=
 fun w h => r.p w (h f (List.mem_of_getElem? hk))
end
end Go.Sx
namespace Go.Proofs.YtchkcjeeknfchaaGreatDoor
set_option maxRecDepth 100000
set_option maxHeartbeats 100000000
open Go Go.Sx Go.RowKit
structure Waiter where
 t : Int
 n : Int
 deriving DecidableEq
def dL (l : Waiter) : List Value := [.int .i64 l.t, .int .i64 l.n]
theorem cW : Enc dL 2 := ⟨fun _ => rfl, fun _ u hu => by simp [dL] at hu; rcases hu with rfl | rfl <;> rfl⟩
structure Sem where
 free : Int
 limit : Int
 queue : List Waiter
 deriving DecidableEq
structure Once where
 state : Int
 owner : Int
 value : Int
 waits : List Int
 deriving DecidableEq
structure Group where
 count : Int
 waits : List Int
 deriving DecidableEq
structure Barrier where
 parties : Int
 round : Int
 waits : List Int
 deriving DecidableEq
def rK (m : Sem) (q : Sl) : Value := .agg #[.int .i64 m.free, .int .i64 m.limit, q.val m.queue.length]
def lV (m : Once) (q : Sl) : Value := .agg #[.int .i64 m.state, .int .i64 m.owner, .int .i64 m.value, q.val m.waits.length]
def mJ (m : Group) (q : Sl) : Value := .agg #[.int .i64 m.count, q.val m.waits.length]
def lD (m : Barrier) (q : Sl) : Value := .agg #[.int .i64 m.parties, .int .i64 m.round, q.val m.waits.length]
def jN {α : Type} (h : Sl) (ty : TypeId) (enc : α → List Value) (sz : Nat) (inner : α → List Fct) (xs : List α) : List Fct := own h ty enc sz xs :: xs.flatMap inner
theorem lW {α : Type} {h : Sl} {ty : TypeId} {enc : α → List Value} {sz : Nat} {inner : α → List Fct} {xs : List α} {j : Nat} (hj : j < xs.length) {f : Fct} (hf : f ∈ inner xs[j]) : f ∈ jN h ty enc sz inner xs :=
 List.mem_cons_of_mem _ (List.mem_flatMap.2 ⟨_, List.getElem_mem hj, hf⟩)
theorem bK {α : Type} {h : Sl} {ty : TypeId} {enc : α → List Value} {sz : Nat} {inner : α → List Fct} {xs : List α} : RdIn (jN h ty enc sz inner xs) (slo h enc sz xs) := RdIn.own (List.mem_cons_self ..)
structure SemH where
 m : Sem
 q : Sl
structure OnceH where
 m : Once
 q : Sl
structure GroupH where
 m : Group
 q : Sl
structure BarrierH where
 m : Barrier
 q : Sl
structure ChanH where
 m : Chan
 q0 : Sl
 q1 : Sl
 q2 : Sl
def iU (x : SemH) : List Value := [.int .i64 x.m.free, .int .i64 x.m.limit, x.q.val x.m.queue.length]
def fP (x : OnceH) : List Value := [.int .i64 x.m.state, .int .i64 x.m.owner, .int .i64 x.m.value, x.q.val x.m.waits.length]
def eQ (x : GroupH) : List Value := [.int .i64 x.m.count, x.q.val x.m.waits.length]
def dD (x : BarrierH) : List Value := [.int .i64 x.m.parties, .int .i64 x.m.round, x.q.val x.m.waits.length]
def gW (x : ChanH) : List Value := [.int .i64 x.m.room, x.q0.val x.m.items.length, x.q1.val x.m.senders.length, x.q2.val x.m.getters.length, .bool x.m.closed]
theorem dV : Enc iU 3 := ⟨fun _ => rfl, fun _ u hu => by simp [iU] at hu; rcases hu with rfl | rfl | rfl <;> rfl⟩
theorem dM : Enc fP 4 := ⟨fun _ => rfl, fun _ u hu => by simp [fP] at hu; rcases hu with rfl | rfl | rfl | rfl <;> rfl⟩
theorem cP : Enc eQ 2 := ⟨fun _ => rfl, fun _ u hu => by simp [eQ] at hu; rcases hu with rfl | rfl <;> rfl⟩
theorem cH : Enc dD 3 := ⟨fun _ => rfl, fun _ u hu => by simp [dD] at hu; rcases hu with rfl | rfl | rfl <;> rfl⟩
theorem cX : Enc gW 5 := ⟨fun _ => rfl, fun _ u hu => by simp [gW] at hu; rcases hu with rfl | rfl | rfl | rfl | rfl <;> rfl⟩
def qM (x : SemH) : List Fct := [own x.q 161 dL 2 x.m.queue]
def qB (x : OnceH) : List Fct := [own x.q 3 aL 1 x.m.waits]
def lE (x : GroupH) : List Fct := [own x.q 3 aL 1 x.m.waits]
def fF (x : BarrierH) : List Fct := [own x.q 3 aL 1 x.m.waits]
def jO (x : ChanH) : List Fct := [own x.q0 3 aL 1 x.m.items, own x.q1 164 jY 2 x.m.senders, own x.q2 3 aL 1 x.m.getters]
def oW (h : Sl) (xs : List SemH) : List Fct := jN h 85 iU 3 qM xs
def mK (h : Sl) (xs : List OnceH) : List Fct := jN h 98 fP 4 qB xs
def kK (h : Sl) (xs : List GroupH) : List Fct := jN h 88 eQ 2 lE xs
def iD (h : Sl) (xs : List BarrierH) : List Fct := jN h 91 dD 3 fF xs
def nN (h : Sl) (xs : List ChanH) : List Fct := jN h 95 gW 5 jO xs
theorem nO (h : Sl) (xs : List SemH) (j : Nat) (hj : j < xs.length) : RdIn (oW h xs) (slo (xs[j]).q dL 2 (xs[j]).m.queue) := RdIn.own (lW hj (List.mem_cons_self ..))
theorem lF (h : Sl) (xs : List OnceH) (j : Nat) (hj : j < xs.length) : RdIn (mK h xs) (slo (xs[j]).q aL 1 (xs[j]).m.waits) := RdIn.own (lW hj (List.mem_cons_self ..))
theorem iE (h : Sl) (xs : List GroupH) (j : Nat) (hj : j < xs.length) : RdIn (kK h xs) (slo (xs[j]).q aL 1 (xs[j]).m.waits) := RdIn.own (lW hj (List.mem_cons_self ..))
theorem fJ (h : Sl) (xs : List BarrierH) (j : Nat) (hj : j < xs.length) : RdIn (iD h xs) (slo (xs[j]).q aL 1 (xs[j]).m.waits) := RdIn.own (lW hj (List.mem_cons_self ..))
theorem vP (h : Sl) (xs : List ChanH) (j : Nat) (hj : j < xs.length) : RdIn (nN h xs) (slo (xs[j]).q0 aL 1 (xs[j]).m.items) := RdIn.own (lW hj (List.mem_cons_self ..))
theorem lG (h : Sl) (xs : List ChanH) (j : Nat) (hj : j < xs.length) : RdIn (nN h xs) (slo (xs[j]).q1 jY 2 (xs[j]).m.senders) := RdIn.own (lW hj (List.mem_cons_of_mem _ (List.mem_cons_self ..)))
theorem nC (h : Sl) (xs : List ChanH) (j : Nat) (hj : j < xs.length) : RdIn (nN h xs) (slo (xs[j]).q2 aL 1 (xs[j]).m.getters) := RdIn.own (lW hj (List.mem_cons_of_mem _ (List.mem_cons_of_mem _ (List.mem_cons_self ..))))
theorem bL {α β : Type} {f : α → β} {xs : List α} {ys : List β} {k : Nat} (hk : k < xs.length) (h : ys = (xs.map f).take k) {y : β} (hy : y = f xs[k]) : ys ++ [y] = (xs.map f).take (k + 1) := by
 subst hy; subst h
 rw [List.take_succ_eq_append_getElem (by simpa using hk), List.getElem_map]
theorem bA (k n : Nat) (h : k < n) (hn : n ≤ 4611686018427387904) : IntKind.i64.wrap ((k : Int) + 1) = ((k + 1 : Nat) : Int) := by
 rw [IntKind.wrap_i64]; omega
structure Op where
 kind : Int
 on : Int
 arg : Int
 deriving DecidableEq
def cOp (l : Op) : List Value := [.int .i64 l.kind, .int .i64 l.on, .int .i64 l.arg]
theorem oX : Enc cOp 3 := ⟨fun _ => rfl, fun _ u hu => by simp [cOp] at hu; rcases hu with rfl | rfl | rfl <;> rfl⟩
def Op0 : Op := ⟨0, 0, 0⟩
structure OpSH where
 m : List Op
 q : Sl
def rL (x : OpSH) : List Value := [x.q.val x.m.length]
theorem eR : Enc rL 1 := ⟨fun _ => rfl, fun _ u hu => by simp [rL] at hu; subst hu; rfl⟩
def bW0 (x : OpSH) : List Fct := [own x.q 108 cOp 3 x.m]
def oY (h : Sl) (xs : List OpSH) : List Fct := jN h 105 rL 1 bW0 xs
theorem gD (h : Sl) (xs : List OpSH) (j : Nat) (hj : j < xs.length) : RdIn (oY h xs) (slo (xs[j]).q cOp 3 (xs[j]).m) := RdIn.own (lW hj (List.mem_cons_self ..))
structure Prog where
 sems : List Int
 groups : List Int
 barriers : List Int
 rooms : List Int
 threads : List (List Op)
 deriving DecidableEq
structure ProgH where
 sems : List Int
 groups : List Int
 barriers : List Int
 rooms : List Int
 threads : List OpSH
 h0 : Sl
 h1 : Sl
 h2 : Sl
 h3 : Sl
 h4 : Sl
def ProgH.pure (s : ProgH) : Prog := ⟨s.sems, s.groups, s.barriers, s.rooms, s.threads.map (·.m)⟩
def eJ (s : ProgH) : Value := .agg #[s.h0.val s.sems.length, s.h1.val s.groups.length, s.h2.val s.barriers.length, s.h3.val s.rooms.length, s.h4.val s.threads.length]
def bD (s : ProgH) : List Fct := own s.h0 3 aL 1 s.sems :: own s.h1 3 aL 1 s.groups :: own s.h2 3 aL 1 s.barriers :: own s.h3 3 aL 1 s.rooms :: oY s.h4 s.threads
theorem fA (s : ProgH) : RdIn (bD s) (slo s.h0 aL 1 s.sems) := RdIn.own (o := false) (e := 3) (by simp [bD])
theorem kL (s : ProgH) : RdIn (bD s) (slo s.h1 aL 1 s.groups) := RdIn.own (o := false) (e := 3) (by simp [bD])
theorem fG (s : ProgH) : RdIn (bD s) (slo s.h2 aL 1 s.barriers) := RdIn.own (o := false) (e := 3) (by simp [bD])
theorem iF (s : ProgH) : RdIn (bD s) (slo s.h3 aL 1 s.rooms) := RdIn.own (o := false) (e := 3) (by simp [bD])
theorem bE (s : ProgH) : ∀ g ∈ oY s.h4 s.threads, g ∈ bD s := fun g hg => by simp [bD, hg]
structure State where
 places : List Int
 status : List Int
 sems : List Sem
 onces : List Once
 groups : List Group
 barriers : List Barrier
 chans : List Chan
 said : List Int
 fault : Int
 deriving DecidableEq
structure StateH where
 places : List Int
 status : List Int
 sems : List SemH
 onces : List OnceH
 groups : List GroupH
 barriers : List BarrierH
 chans : List ChanH
 said : List Int
 fault : Int
 h0 : Sl
 h1 : Sl
 h2 : Sl
 h3 : Sl
 h4 : Sl
 h5 : Sl
 h6 : Sl
 h7 : Sl
def StateH.pure (s : StateH) : State := ⟨s.places, s.status, s.sems.map (·.m), s.onces.map (·.m), s.groups.map (·.m), s.barriers.map (·.m), s.chans.map (·.m), s.said, s.fault⟩
def aM (s : StateH) : Value := .agg #[s.h0.val s.places.length, s.h1.val s.status.length, s.h2.val s.sems.length, s.h3.val s.onces.length, s.h4.val s.groups.length, s.h5.val s.barriers.length, s.h6.val s.chans.length, s.h7.val s.said.length, .int .i64 s.fault]
def aJ (s : StateH) : List Fct := own s.h0 3 aL 1 s.places :: own s.h1 3 aL 1 s.status :: (oW s.h2 s.sems ++ (mK s.h3 s.onces ++ (kK s.h4 s.groups ++ (iD s.h5 s.barriers ++ (nN s.h6 s.chans ++ [own s.h7 3 aL 1 s.said])))))
theorem fY (s : StateH) : RdIn (aJ s) (slo s.h0 aL 1 s.places) := RdIn.own (o := false) (e := 3) (by simp [aJ])
theorem cR (s : StateH) : RdIn (aJ s) (slo s.h1 aL 1 s.status) := RdIn.own (o := false) (e := 3) (by simp [aJ])
theorem jP (s : StateH) : RdIn (aJ s) (slo s.h7 aL 1 s.said) := RdIn.own (o := false) (e := 3) (by simp [aJ])
theorem cI (s : StateH) : ∀ g ∈ oW s.h2 s.sems, g ∈ aJ s := fun g hg => by simp [aJ, hg]
theorem cF (s : StateH) : ∀ g ∈ mK s.h3 s.onces, g ∈ aJ s := fun g hg => by simp [aJ, hg]
theorem bZ (s : StateH) : ∀ g ∈ kK s.h4 s.groups, g ∈ aJ s := fun g hg => by simp [aJ, hg]
theorem bN (s : StateH) : ∀ g ∈ iD s.h5 s.barriers, g ∈ aJ s := fun g hg => by simp [aJ, hg]
theorem bC (s : StateH) : ∀ g ∈ nN s.h6 s.chans, g ∈ aJ s := fun g hg => by simp [aJ, hg]
theorem RdIn.sub {G G' : List Fct} {g : Fct} (h : RdIn G g) (hs : ∀ f ∈ G, f ∈ G') : RdIn G' g := by
 obtain ⟨f, hf, k⟩ := h
 exact ⟨f, hs f hf, k⟩
def bX0 {α : Type} (P : α → Prop) (xs : List α) : Prop := xs.length ≤ 1048576 ∧ ∀ x ∈ xs, P x
theorem cY {α β : Type} {P : β → Prop} {f : α → β} {xs : List α} (h : bX0 P (xs.map f)) : xs.length ≤ 1048576 ∧ ∀ x ∈ xs, P (f x) :=
 ⟨by simpa using h.1, fun x hx => h.2 _ (List.mem_map_of_mem hx)⟩
end Go.Proofs.YtchkcjeeknfchaaGreatDoor
namespace Go.Sx
set_option maxRecDepth 100000
set_option maxHeartbeats 100000000
open Go Go.RowKit
def eM0 (it : TypeId) : Nat → Nat → List (Bool × TypeId × Nat)
 | _, 0 => []
 | k, n + 1 => (false, it, k) :: eM0 it (k + 1) n
def uH (x : Int) : Value := .int .i64 x
theorem xE {P : Program} {t : TypeId} {d : TypeDesc} (hd : P.underlying t = some d) (ha : mD d = false) (cs : Array Value) (off : Nat) (v : Value) (h : cs[off]? = some v) (w : World) : (part t cs off).run P w = .ok v w := by
 unfold part
 rw [Sem.run_bind, mR hd, ha]
 simp [h]
theorem qC {P : Program} (w : World) {it : TypeId} (hI : P.underlying it = some (.int .i64)) (d : Nat) : ∀ (fs : List Field) (us bs : List Int) (p q : List Value), p.length = q.length → us.length = bs.length →
   fs.map (fun f => (f.name == "_", f.type, f.offset)) = eM0 it p.length us.length →
   (Op.eqFields (d + 1) (p ++ us.map uH).toArray (q ++ bs.map uH).toArray fs).run P w = .ok (decide (us = bs)) w
 | [], us, bs, p, q, hp, hl, hf => by
   cases us with
   | nil => cases bs with
     | nil => simp [Op.eqFields]
     | cons _ _ => simp at hl
   | cons _ _ => simp [eM0] at hf
 | f :: fs, us, bs, p, q, hp, hl, hf => by
   cases us with
   | nil => simp [eM0] at hf
   | cons a us =>
     cases bs with
     | nil => simp at hl
     | cons b bs =>
       simp only [List.map_cons, List.length_cons, eM0, List.cons.injEq, Prod.mk.injEq] at hf
       obtain ⟨⟨f1, f2, f3⟩, hf⟩ := hf
       have f1' : f.name ≠ "_" := by simpa using f1
       have ih := qC w hI d fs us bs (p ++ [uH a]) (q ++ [uH b]) (by simp [hp]) z80 (by simpa using hf)
       simp only [List.append_assoc, List.cons_append, List.nil_append] at ih
       have p1 := xE hI rfl (p ++ (a :: us).map uH).toArray p.length (uH a) (by simp) w
       have p2 := xE hI rfl (q ++ (b :: bs).map uH).toArray p.length (uH b) (by simp [hp]) w
       have q1 : (Op.equalIn (d + 1) it (uH a) (uH b)).run P w = .ok (a == b) w := run_equalIn_int w d it .i64 .i64 a b hI
       simp only [List.map_cons] at p1 p2
       simp only [Op.eqFields, f2, f3, f1', ne_eq, not_false_eq_true, if_true, Sem.run_bind, p1, p2, Result.andThen_ok, q1, List.map_cons]
       by_cases h1 : a = b
       · subst h1
         simp [ih]
       · simp [h1]
theorem gS0 {P : Program} {t it : TypeId} {xs ys : List Int} (hS : P.underlying t = some (.struct (P.fieldsOf t))) (hp : P.stoodInHeld t = false) (hI : P.underlying it = some (.int .i64))
   (hl : xs.length = ys.length) (hF : (P.fieldsOf t).toList.map (fun f => (f.name == "_", f.type, f.offset)) = eM0 it 0 xs.length) (w : World) :
   (binOp .neq t (.agg (xs.map uH).toArray) (.agg (ys.map uH).toArray)).run P w = .ok (.bool (decide (xs ≠ ys))) w := by
 have := qC w hI 9998 (P.fieldsOf t).toList xs ys [] [] rfl hl hF
 simp only [List.nil_append] at this
 rw [run_neq_struct, show (10000 : Nat) = 9999 + 1 from rfl, run_equalIn_agg w 9999 t _ _ hS hp, this]
 by_cases h : xs = ys <;> simp [h]
theorem fB_of {w : World} {G : List Fct} (h : ∀ g ∈ G, g.P w ∧ ∀ b, g.foot b → b < w.heap.size) : (fB true G).P w ∧ ∀ b, (fB true G).foot b → b < w.heap.size :=
 ⟨fun g hg => (h g hg).1, fun b ⟨g, hg, hb⟩ => (h g hg).2 b hb⟩
theorem mD0 {w : World} {f g : Fct} (h : f.P w ∧ ∀ b, f.foot b → b < w.heap.size) (k : g.P w ∧ ∀ b, g.foot b → b < w.heap.size) : (fB true [f, g]).P w ∧ ∀ b, (fB true [f, g]).foot b → b < w.heap.size :=
 fB_of fun e he => by
   simp only [List.mem_cons, List.not_mem_nil, or_false] at he
   rcases he with rfl | rfl
   · exact h
   · exact k
theorem gT0 {w : World} {G : List Fct} (h : (fB true G).P w ∧ ∀ b, (fB true G).foot b → b < w.heap.size) {g : Fct} (hg : g ∈ G) : g.P w ∧ ∀ b, g.foot b → b < w.heap.size :=
 ⟨h.1 g hg, fun b hb => h.2 b ⟨g, hg, hb⟩⟩
section
variable {E : Env} {ti : Nat → TI} {A : Nat → Nat} {T : List (Nat × SV)} {n c : Nat} {B : List (Nat × TypeId × Nat)} {M Ms : List ((Nat × Nat) × SV)} {F Fs : List Fct} {o : Oper} {next : St → Prop} {w : World}
theorem vQ (k1 : Nat) {t ty : TypeId} {x : Operand} {g off d : Nat} {cs : List Value} {v : Value} {size : Nat} {zero : List Value} {fs : List (Nat × Nat × Bool)} {el : Option TypeId} {ik : Option IntKind} {kk bytes : Nat}
   (hti : ∀ t, aT E.P t (ti t)) (hop : o.op = .load t x) (hx : aY T x = some (.v (.pointer (some ⟨g, off, none⟩)))) (ht : ti t = .mk false size zero fs el ik kk bytes) (hF : F[k1]? = some (eK0 g ty cs)) (hv : cs[off]? = some v) (hd : Dst E o d)
   (hnext : next (.mk ((d, .v v) :: T) n c B M F)) : OpW (cQ E o next T n c B M F) := by
 refine ⟨fun A a w hW hT => ?_⟩
 have htt := hti t
 rw [ht] at htt
 obtain ⟨ii, dd, z, e1, e2, e3, e4, e5, e6, e7, e8, e9, e10, e11⟩ := aP htt
 have hx' : a.eval x = .pointer (some ⟨g, off, none⟩) := (aE hT hx).1
 have hb : Blk w g ty cs := (hW.nth k1 hF).1
 have hc : w.cell? ⟨g, off, none⟩ = some v := by
   rw [cell_of_row _ _ _ _ _ _ hb]
   show cs.toArray[off]? = some v
   simpa using hv
 have hr : (execOp a.eval o).run E.P w = .ok (.value v) w := by
   simp [execOp, hop, hx', Instr.loadAt, Instr.sureAddr, fU (w := w) e2 e3 _ _ hc]
 refine aQ hr ?_
 rw [hd.1]
 exact ⟨_, ⟨_, hW, hT.put (v := .v v) hd.lt trivial⟩, hnext⟩
end
theorem aO {P : Program} {op : BinOp} {t : TypeId} {x y : Operand} {a b : ByteArray} (w : World) : (eqGuard op t x y (.string a) (.string b)).run P w = .ok () w := by
 cases op <;> rfl
theorem dR0 {P : Program} {t : TypeId} {a b : ByteArray} (w : World) : (binOp .eql t (.string a) (.string b)).run P w = .ok (.bool (a.toList == b.toList)) w := by
 rw [binOp_string_eql]; rfl
section
variable {P : Program} {f : FuncId} {fn : Func} {x : Code} {R : Ending → World → Prop} {ti : Nat → TI}
theorem aF0 (hf : P.funcs[f]? = some fn) (hb : fn.body = some x) (hti : ∀ t, aT P t (ti t)) (w : World) (N : Nat) (hN : fn.ntmps = N) (rs : List ResultVar) (hrs : fn.results.toList = rs) (g : Nat) (ty : TypeId) (cs : List Value) (sz : Nat) (hsz : dO cs = sz) (hg : Blk w g ty cs) (G Fo : List Fct) (hF : AtG w G Fo) (hoff : ∀ f ∈ G ++ Fo, ∀ b, f.foot b → b ≠ g) (ho : jX Fo)
   (l : List Value) (args : Array Value) (ha : args.toList = l ++ [.pointer (some ⟨g, 0, none⟩)]) (hl : Nat.ble (l.length + 1) N = true)
   (hv : dJ (rH P w N g G) ti x (mT (rH P w N g G) ti rs R) (.mk (rA 0 (l.map .v ++ [.p 0 0])) 1 0 [(0, ty, sz)] (eY 0 0 (cs.map .v) []) (G ++ Fo))) : Calls P f args w R := by
 subst hN; subst hrs
 rw [dN] at hsz
 subst hsz
 exact rB hf hb (rH P w fn.ntmps g G) rfl rfl hti (l.map .v ++ [.p 0 0]) 1 [(0, ty, cs.length)] (eY 0 0 (cs.map .v) []) (G ++ Fo) (A := fun _ => g) (by simp [ha, show (SV.den (fun _ => g) ∘ SV.v) = id from rfl, SV.den, ptr])
   (fun s hs => by
     rcases List.mem_append.1 hs with hs | hs
     · obtain ⟨u, _, rfl⟩ := List.mem_map.1 hs; trivial
     · obtain rfl := List.mem_singleton.1 hs; exact Nat.zero_lt_one) (by simpa using Nat.le_of_ble_eq_true hl) (WD.initPG P w _ _ _ _ hg hF hoff ho) hv
end
theorem sS {α β : Type} (f : α → β) : ∀ (l : List α) (j : Nat), (l.eraseIdx j).map f = (l.map f).eraseIdx j
 | [], _ => rfl
 | x :: r, 0 => rfl
 | x :: r, j + 1 => by simp [sS f r j]
theorem gA {n k o : Nat} (h : Nat.blt k n = true) : ∀ x ∈ [(k, o)], x.1 < n := fun x hx => by
 obtain rfl := List.mem_singleton.1 hx
 simpa using h
def eU {β : Type} : List (Int × β) → Int → List (Int × β)
 | [], _ => []
 | (k, u) :: r, x => if k = x then r else (k, u) :: eU r x
theorem xF {β : Type} : ∀ {ps : List (Int × β)} {x : Int} {j : Nat} {u : β}, jM ps x = some (j, u) → eU ps x = ps.eraseIdx j
 | [], x, j, u, h => by simp [jM] at h
 | (k, q) :: r, x, j, u, h => by
   simp only [jM] at h
   by_cases e : k = x
   · simp [e] at h
     obtain ⟨rfl, rfl⟩ := h
     simp [eU, e]
   · simp only [e, if_false, Option.map_eq_some_iff, Prod.mk.injEq] at h
     obtain ⟨p, h1, rfl, rfl⟩ := h
     simp [eU, e, xF (j := p.1) (u := p.2) h1]
theorem xG {β : Type} : ∀ {ps : List (Int × β)} {x : Int}, jM ps x = none → eU ps x = ps
 | [], x, _ => rfl
 | (k, q) :: r, x, h => by
   simp only [jM] at h
   by_cases e : k = x
   · simp [e] at h
   · simp only [e, if_false, Option.map_eq_none_iff] at h
     simp [eU, e, xG h]
section
variable {E : Env} {ti : Nat → TI} {A : Nat → Nat} {T : List (Nat × SV)} {n c : Nat} {B : List (Nat × TypeId × Nat)} {M Ms : List ((Nat × Nat) × SV)} {F Fs : List Fct} {o : Oper} {next : St → Prop} {a : Act} {w w' : World}
theorem gQ (R : Value → List Value → List Fct → Prop) (ix : List Nat) {G : List Fct} {k : Call} {fo : Operand} {g : FuncId} {l : List SV} {d kb ty sz : Nat} {cs : List Value} (hc : aD E.P g = true)
   (hop : o.op = .call k) (hk : k.callee = .value fo) (hf : aY T fo = some (.f g [(kb, 0)])) (ha : iK T k.args.toList = some l) (hd : Dst E o d) (hB : gV B kb = some (ty, sz)) (hM : mQ M kb 0 sz = some cs) (hG : FK F ix G) (hok : kJ G)
   (hcall : ∀ A w ga, ga = A kb → WD E A n B M F w → Blk w ga ty cs → Calls E.P g ((l.map (SV.den A)) ++ [Value.pointer (some ⟨ga, 0, none⟩)]).toArray w (gQ0 w ga ty sz G R))
   (hnext : ∀ v cs L, R v cs L → jW kb 0 (cs.map .v) M fun M' => next (.mk ((d, .v v) :: T) n (c + 1) B M' (L ++ hU ix 0 F))) :
   OpW (cQ E o next T n c B M F) := by
 refine ⟨fun A a w hW hT => ?_⟩
 unfold Oper.wp
 rw [jD hT hc hop hk hf ha, Oper.upon_enter]
 refine (hcall A w (A kb) rfl hW (hW.blk (cC hB) hM).1).mono ?_
 rintro e w' ⟨v, cs', L, rfl, he, hb, hl, hL, hoff, hR⟩
 have hn := hnext v cs' L hR
 rw [fV] at hn
 refine ⟨_, ⟨_, hW.callPG (cC hB) hG hok he hb hl hL, ?_⟩, hn⟩
 rw [hd.1]
 exact (hT.step w').put (v := .v v) hd.lt trivial
theorem bY0 {β : Type} {venc : β → Value} (hW : WD E A n B M F w) (hT : TD E A T n c a w) (k1 : Nat) {t kt et : TypeId} {x y : Operand} {r : Nat} {q : Int} {ps : List (Int × β)} {z : Value} {qk : IntKind}
   (hop : o.op = .lookup t x y false) (hx : aY T x = some (.v (.map (some r)))) (hy : aY T y = some (.v (.int .i64 q))) (hF : F[k1]? = some (iJ r venc ps))
   (ht : E.P.underlying t = some (.map kt et)) (hkt : E.P.underlying kt = some (.int qk)) (hz : (E.P.info? et).bind (·.zero) = some z) :
   (execOp a.eval o).run E.P w = .ok (.value (match bS ps q with | some v => venc v | none => z)) w := by
 obtain ⟨es, clock, h1, h2⟩ := (hW.nth k1 hF).1
 have hx' := (aE hT hx).1
 have hy' := (aE hT hy).1
 simp only [SV.den] at hx' hy'
 rw [vD]
 simp only [execOp, hop, hx', hy', Instr.lookup, Sem.run_bind, underlying, run_program, Result.andThen_ok, ht, Sem.run_pure, cT h1, cV hkt, dH hkt venc q es ps h2]
 cases jM ps q with
 | none =>
   cases hi : E.P.info? et with
   | none => rw [hi] at hz; simp at hz
   | some i =>
     rw [hi] at hz
     simp at hz
     simp [zeroValue, typeInfo, hi, hz]
 | some p => simp
theorem jQ {β : Type} {venc : β → Value} (k1 : Nat) {t kt et : TypeId} {x y : Operand} {r : Nat} {q : Int} {ps : List (Int × β)} {d : Nat} {z : Value} {qk : IntKind}
   (hop : o.op = .lookup t x y false) (hx : aY T x = some (.v (.map (some r)))) (hy : aY T y = some (.v (.int .i64 q))) (hF : F[k1]? = some (iJ r venc ps)) (hd : Dst E o d)
   (ht : E.P.underlying t = some (.map kt et)) (hkt : E.P.underlying kt = some (.int qk)) (hz : (E.P.info? et).bind (·.zero) = some z) (rv : Value) (hrv : (match bS ps q with | some v => venc v | none => z) = rv)
   (hnext : next (.mk ((d, .v rv) :: T) n (c + 1) B M F)) : OpW (opD E o Ms Fs next T n c B M F) := by
 subst hrv
 refine ⟨opD0.up fun hkf A a w hW hT => ?_⟩
 refine aQ (bY0 hW hT k1 hop hx hy hF ht hkt hz) ?_
 rw [hd.1]
 exact ⟨_, _, F, hW, fun w2 => (hT.step w2).put (v := .v _) hd.lt trivial, hkf, hnext⟩
theorem bZ0 {β : Type} {venc : β → Value} (hW : WD E A n B M F w) (hT : TD E A T n c a w) (k1 : Nat) (v : β) {t kt et : TypeId} {x y z : Operand} {r : Nat} {q : Int} {ps : List (Int × β)} {qk : IntKind} {s : SV}
   (hop : o.op = .mapUpdate t x y z) (hx : aY T x = some (.v (.map (some r)))) (hy : aY T y = some (.v (.int .i64 q))) (hz : aY T z = some s) (hs : ∀ A, s.den A = venc v) (hF : F[k1]? = some (iJ r venc ps))
   (ht : E.P.underlying t = some (.map kt et)) (hkt : E.P.underlying kt = some (.int qk)) :
   ∃ ob, (execOp a.eval o).run E.P w = .ok .skip { w with heap := w.heap.setIfInBounds r ob } ∧ vC r venc (eZ ps q v) { w with heap := w.heap.setIfInBounds r ob } := by
 obtain ⟨es, clock, h1, h2⟩ := (hW.nth k1 hF).1
 have hx' := (aE hT hx).1
 have hy' := (aE hT hy).1
 have hz' := (aE hT hz).1.trans (hs A)
 simp only [SV.den] at hx' hy'
 have hlt : r < w.heap.size := (Array.getElem?_eq_some_iff.1 h1).1
 cases hi : jM ps q with
 | none =>
   refine ⟨.map (es.push { key := .int .i64 q, val := venc v, born := clock }) (clock + 1), ?_, ?_⟩
   · simp only [execOp, hop, hx', hy', hz', Instr.mapUpdate, Sem.run_bind, underlying, run_program, Result.andThen_ok, ht, Sem.run_pure, cT h1, cV hkt, dH hkt venc q es ps h2, hi, Option.map_none, eL h1]
   · refine ⟨es.push { key := .int .i64 q, val := venc v, born := clock }, clock + 1, by simp [hlt], ?_⟩
     rw [pL v hi]
     simp only [prs, Array.toList_push, List.map_append, kv] at h2 ⊢
     rw [h2]; rfl
 | some p =>
   obtain ⟨j, u⟩ := p
   obtain ⟨g1, g2⟩ := sP v hi
   have hkey : (es[j]?).map (·.key) = some (.int .i64 q) := by
     have := congrArg (fun l => l[j]?) h2
     simp only [prs, kv, List.getElem?_map, g2, Option.map_some, Array.getElem?_toList] at this
     cases he : es[j]? with
     | none => rw [he] at this; simp at this
     | some e => rw [he] at this; simp at this; simp [this.1]
   refine ⟨.map (es.modify j fun e => { e with key := .int .i64 q, val := venc v }) clock, ?_, ?_⟩
   · have hks : (Instr.keyThatStays (.int .i64 q) (.int .i64 q)).run E.P w = .ok (.int .i64 q) w := by
       have hsb : Instr.sameBits 10000 (.int .i64 q) (.int .i64 q) = true := by
         show Instr.sameBits (9999 + 1) (.int .i64 q) (.int .i64 q) = true
         simp [Instr.sameBits]
       simp [Instr.keyThatStays, hsb]
     simp only [execOp, hop, hx', hy', hz', Instr.mapUpdate, Sem.run_bind, underlying, run_program, Result.andThen_ok, ht, Sem.run_pure, cT h1, cV hkt, dH hkt venc q es ps h2, hi, Option.map_some, hkey, Option.getD_some, hks, eL h1]
   · refine ⟨es.modify j fun e => { e with key := .int .i64 q, val := venc v }, clock, by simp [hlt], ?_⟩
     rw [g1]
     simp only [prs, kv, Array.toList_modify, List.map_set] at h2 ⊢
     rw [← h2]
     apply List.ext_getElem?
     intro k
     simp only [List.getElem?_map, List.getElem?_modify, List.getElem?_set]
     by_cases e : j = k
     · subst e
       simp only [if_true]
       cases he : es.toList[j]? with
       | none =>
         have : es[j]? = none := by simpa using he
         rw [this] at hkey; simp at hkey
       | some x =>
         have hl : j < es.size := by simpa using (List.getElem?_eq_some_iff.1 he).1
         simp [hl]
     · simp [e]
theorem rM {β : Type} {venc : β → Value} (k1 : Nat) (v : β) {t kt et : TypeId} {x y z : Operand} {r : Nat} {q : Int} {ps : List (Int × β)} {qk : IntKind} {s : SV}
   (hop : o.op = .mapUpdate t x y z) (hx : aY T x = some (.v (.map (some r)))) (hy : aY T y = some (.v (.int .i64 q))) (hz : aY T z = some s) (hs : ∀ A, s.den A = venc v) (hF : F[k1]? = some (iJ r venc ps)) (hd : o.dst = none)
   (ht : E.P.underlying t = some (.map kt et)) (hkt : E.P.underlying kt = some (.int qk)) (qs : List (Int × β)) (hqs : eZ ps q v = qs) (hkeep : iP Fs F → iP Fs (F.eraseIdx k1))
   (hnext : next (.mk T n (c + 1) B M (iJ r venc qs :: F.eraseIdx k1))) : OpW (opD E o Ms Fs next T n c B M F) := by
 subst hqs
 refine ⟨fun hm hf A a w hW hT => ?_⟩
 obtain ⟨ob, h3, h4⟩ := bZ0 hW hT k1 v hop hx hy hz hs hF ht hkt
 refine gM h3 ?_
 rw [hd]
 exact ⟨A, _, n, _, B, M, _, fun _ _ => rfl, Nat.le_refl _, fun _ h => h, hm, fun f hfs => List.mem_cons_of_mem _ (hkeep hf f hfs), hW.turnMap hF ob h4, fun w2 => hT.step w2, hnext⟩
theorem tP {β : Type} {venc : β → Value} (k1 : Nat) {k : Call} {t tk kt et : TypeId} {x y : Operand} {r : Nat} {q : Int} {ps : List (Int × β)} {qk : IntKind}
   (hop : o.op = .call k) (hk : k.callee = .builtin .delete) (ha : k.args.toList = [x, y]) (hty : k.argTypes.toList = [t, tk])
   (hx : aY T x = some (.v (.map (some r)))) (hy : aY T y = some (.v (.int .i64 q))) (hF : F[k1]? = some (iJ r venc ps)) (hd : o.dst = none)
   (ht : E.P.underlying t = some (.map kt et)) (hkt : E.P.underlying kt = some (.int qk)) (qs : List (Int × β)) (hqs : eU ps q = qs)
   (hnext : next (.mk T n (c + 1) B M (iJ r venc qs :: F.eraseIdx k1))) : OpW (cQ E o next T n c B M F) := by
 subst hqs
 refine ⟨fun A a w hW hT => ?_⟩
 obtain ⟨es, clock, h1, h2⟩ := (hW.nth k1 hF).1
 have hx' := (aE hT hx).1
 have hy' := (aE hT hy).1
 simp only [SV.den] at hx' hy'
 have hlt : r < w.heap.size := (Array.getElem?_eq_some_iff.1 h1).1
 have hargs : k.args = #[x, y] := by apply Array.ext'; simpa using ha
 have htys : k.argTypes = #[t, tk] := by apply Array.ext'; simpa using hty
 have key : ∃ ob, (Builtin.delete_ #[t, tk] o.type #[.map (some r), .int .i64 q]).run E.P w = .ok (.tuple #[]) { w with heap := w.heap.setIfInBounds r ob } ∧ vC r venc (eU ps q) { w with heap := w.heap.setIfInBounds r ob } := by
   cases hi : jM ps q with
   | none =>
     refine ⟨.map es clock, ?_, ⟨es, clock, by simp [hlt], by rw [xG hi]; exact h2⟩⟩
     simp [Builtin.delete_, underlying, ht, cT h1, cV hkt, dH hkt venc q es ps h2, hi, eL h1]
   | some p =>
     obtain ⟨j, u⟩ := p
     refine ⟨.map (es.eraseIdxIfInBounds j) clock, ?_, ⟨es.eraseIdxIfInBounds j, clock, by simp [hlt], ?_⟩⟩
     · simp [Builtin.delete_, underlying, ht, cT h1, cV hkt, dH hkt venc q es ps h2, hi, eL h1]
     · rw [xF hi]
       simp only [prs, kv] at h2 ⊢
       rw [Array.toList_eraseIdxIfInBounds, sS, h2, sS]
 obtain ⟨ob, h3, h4⟩ := key
 have hr : (execOp a.eval o).run E.P w = .ok (.value (.tuple #[])) { w with heap := w.heap.setIfInBounds r ob } := by
   simp only [execOp, hop, resolve, hk, hargs, htys, Sem.run_bind, Sem.run_pure, Result.andThen_ok, invoke, builtin, List.map_toArray, List.map_cons, List.map_nil, hx', hy', h3]
 refine aQ hr ?_
 rw [hd]
 exact ⟨_, ⟨_, hW.turnMap hF ob h4, hT.step _⟩, hnext⟩
theorem xH {β : Type} {venc : β → Value} (k1 : Nat) {k : Call} {t kt et : TypeId} {x : Operand} {r : Nat} {ps : List (Int × β)} {d : Nat}
   (hop : o.op = .call k) (hk : k.callee = .builtin .len) (ha : k.args.toList = [x]) (hty : k.argTypes.toList = [t])
   (hx : aY T x = some (.v (.map (some r)))) (hF : F[k1]? = some (iJ r venc ps)) (hd : Dst E o d) (ht : E.P.underlying t = some (.map kt et))
   (hnext : next (.mk ((d, .v (.int .i64 (ps.length : Int))) :: T) n c B M F)) : OpW (cQ E o next T n c B M F) := by
 refine ⟨fun A a w hW hT => ?_⟩
 obtain ⟨es, clock, h1, h2⟩ := (hW.nth k1 hF).1
 have hx' := (aE hT hx).1
 simp only [SV.den] at hx'
 have hargs : k.args = #[x] := by apply Array.ext'; simpa using ha
 have htys : k.argTypes = #[t] := by apply Array.ext'; simpa using hty
 have hl : es.size = ps.length := by have := congrArg List.length h2; simpa [prs, kv] using this
 have hr : (execOp a.eval o).run E.P w = .ok (.value (.int .i64 (ps.length : Int))) w := by
   simp [execOp, hop, resolve, hk, hargs, htys, invoke, builtin, hx', Builtin.len_, underlying, ht, cT h1, hl, goInt]
 refine aQ hr ?_
 rw [hd.1]
 exact ⟨_, ⟨_, hW, hT.put (v := .v (.int .i64 (ps.length : Int))) hd.lt trivial⟩, hnext⟩
end
end Go.Sx
namespace Go.Proofs.YtchkcjeeknfchaaGreatDoor
set_option maxRecDepth 100000
set_option maxHeartbeats 100000000
open Go Go.Sx Go.RowKit
structure Waiting where
 kind : Int
 on : Int
 arg : Int
 deriving DecidableEq
def aG0 (l : Waiting) : List Value := [.int .i64 l.kind, .int .i64 l.on, .int .i64 l.arg]
theorem rN : Enc aG0 3 := ⟨fun _ => rfl, fun _ u hu => by simp [aG0] at hu; rcases hu with rfl | rfl | rfl <;> rfl⟩
structure LH (β : Type) where
 q : Sl
 xs : List β
def LH.nil {β : Type} : LH β := ⟨⟨none, 0⟩, []⟩
def pY {β : Type} (h : LH β) : Value := h.q.val h.xs.length
def lX {β : Type} (ty : TypeId) (enc : β → List Value) (sz : Nat) (ps : List (Int × LH β)) : List Fct := ps.flatMap fun p => [own p.2.q ty enc sz p.2.xs]
def pm {β : Type} (ps : List (Int × LH β)) : List (Int × List β) := ps.map fun p => (p.1, p.2.xs)
def nD {β : Type} (m : List (Int × List β)) (e : Int × β) : List (Int × List β) := eZ m e.1 ((bS m e.1).getD [] ++ [e.2])
def dI {β : Type} (es : List (Int × β)) : List (Int × List β) := es.foldl nD []
theorem hZ {β : Type} (es : List (Int × β)) (e : Int × β) : dI (es ++ [e]) = nD (dI es) e := by simp [dI]
theorem rO {β : Type} (ps : List (Int × LH β)) (t : Int) : bS (pm ps) t = (bS ps t).map (·.xs) := by
 induction ps with
 | nil => rfl
 | cons p r ih =>
   obtain ⟨k, h⟩ := p
   show (if k = t then some h.xs else bS (pm r) t) = (if k = t then some h else bS r t).map (·.xs)
   by_cases e : k = t
   · simp [e]
   · simp [e, ih]
theorem jV0 {β : Type} (ps : List (Int × LH β)) (t : Int) (h : LH β) : pm (eZ ps t h) = eZ (pm ps) t h.xs := by
 induction ps with
 | nil => rfl
 | cons p r ih =>
   obtain ⟨k, u⟩ := p
   show pm (if k = t then (k, h) :: r else (k, u) :: eZ r t h) = (if k = t then (k, h.xs) :: pm r else (k, u.xs) :: eZ (pm r) t h.xs)
   by_cases e : k = t
   · simp [e, pm]
   · rw [if_neg e, if_neg e]
     show (k, u.xs) :: pm (eZ r t h) = _
     rw [ih]
theorem gU0 {β : Type} (ps : List (Int × LH β)) (t : Int) (w : β) (y : Sl) : pm (eZ ps t ⟨y, ((bS ps t).getD LH.nil).xs ++ [w]⟩) = nD (pm ps) (t, w) := by
 rw [jV0, nD, rO]
 cases bS ps t <;> rfl
theorem oZ {β : Type} {ty : TypeId} {enc : β → List Value} {sz : Nat} : ∀ {ps : List (Int × LH β)} {t : Int} {h : LH β}, bS ps t = some h → (lX ty enc sz ps).Perm ([own h.q ty enc sz h.xs] ++ lX ty enc sz (eU ps t))
 | [], t, h, e => by simp [bS] at e
 | (k, u) :: r, t, h, e => by
   simp only [bS] at e
   by_cases hk : k = t
   · simp only [hk, if_true, Option.some.injEq] at e
     subst e
     rw [show eU ((k, u) :: r) t = r from by simp [eU, hk]]
     exact .refl _
   · simp only [hk, if_false] at e
     rw [show eU ((k, u) :: r) t = (k, u) :: eU r t from by simp [eU, hk]]
     have ih := oZ (ty := ty) (enc := enc) (sz := sz) e
     show (own u.q ty enc sz u.xs :: lX ty enc sz r).Perm (own h.q ty enc sz h.xs :: own u.q ty enc sz u.xs :: lX ty enc sz (eU r t))
     exact (List.Perm.cons _ ih).trans (List.Perm.swap _ _ _)
theorem rP {β : Type} : ∀ {ps : List (Int × β)} {t : Int}, bS ps t = none → eU ps t = ps
 | [], _, _ => rfl
 | (k, u) :: r, t, e => by
   simp only [bS] at e
   by_cases hk : k = t
   · simp [hk] at e
   · simp only [hk, if_false] at e
     simp [eU, hk, rP e]
theorem gY {β : Type} {ty : TypeId} {enc : β → List Value} {sz : Nat} (t : Int) (h : LH β) : ∀ (ps : List (Int × LH β)), ([own h.q ty enc sz h.xs] ++ lX ty enc sz (eU ps t)).Perm (lX ty enc sz (eZ ps t h))
 | [] => .refl _
 | (k, u) :: r => by
   by_cases hk : k = t
   · rw [show eU ((k, u) :: r) t = r from by simp [eU, hk], show eZ ((k, u) :: r) t h = (k, h) :: r from by simp [eZ, hk]]
     exact .refl _
   · rw [show eU ((k, u) :: r) t = (k, u) :: eU r t from by simp [eU, hk], show eZ ((k, u) :: r) t h = (k, u) :: eZ r t h from by simp [eZ, hk]]
     show (own h.q ty enc sz h.xs :: own u.q ty enc sz u.xs :: lX ty enc sz (eU r t)).Perm (own u.q ty enc sz u.xs :: lX ty enc sz (eZ r t h))
     exact (List.Perm.swap _ _ _).trans (List.Perm.cons _ (gY t h r))
theorem Shift.rowOut {FF : List Fct} {β : Type} {ty : TypeId} {enc : β → List Value} {sz : Nat} (k : Nat) {ps : List (Int × LH β)} (t : Int) (hk : FF[k]? = some (fO (lX ty enc sz ps))) :
   Shift FF (own ((bS ps t).getD LH.nil).q ty enc sz ((bS ps t).getD LH.nil).xs :: fO (lX ty enc sz (eU ps t)) :: FF.eraseIdx k) := by
 cases h : bS ps t with
 | some u => exact Shift.splitO k (L := [own u.q ty enc sz u.xs]) hk (oZ h)
 | none =>
   rw [rP h]
   intro E A n B M w hW
   have h1 := Shift.splitO k (L := []) (G' := lX ty enc sz ps) hk (.refl _) E A n B M w hW
   have hn : eF (own (LH.nil : LH β).q ty enc sz (LH.nil : LH β).xs) := ⟨rfl, rfl, rfl, rfl⟩
   obtain ⟨n1, n2, n3⟩ := hH hn w
   refine ⟨h1.key, h1.inj, h1.mem, h1.a0, h1.n0, h1.ext, fun f hf => ?_, ?_⟩
   · rcases List.mem_cons.1 hf with rfl | hf
     · exact ⟨n1, fun b hb => (n2 b hb).elim, fun _ b hb => (n2 b hb).elim⟩
     · exact h1.fct f hf
   · rw [List.pairwise_cons]
     exact ⟨fun g _ _ b hb => (n2 b hb).elim, h1.dj⟩
abbrev fMW (r : Nat) (ps : List (Int × LH Waiting)) : Fct := iJ r pY ps
abbrev rW (ps : List (Int × LH Waiting)) : List Fct := lX 110 aG0 3 ps
abbrev rI (ps : List (Int × LH Int)) : List Fct := lX 3 aL 1 ps
theorem sT (t kind on arg : Int) (g r : Nat) (ps : List (Int × LH Waiting)) (w : World) (hg : Blk w g 101 [.map (some r)]) (h : AtG w [fMW r ps, fO (rW ps)] []) (hoff : ∀ f ∈ [fMW r ps, fO (rW ps)] ++ [], ∀ b, f.foot b → b ≠ g)
   (hb : ((bS ps t).getD LH.nil).xs.length ≤ 1048576) :
   Calls Tryz.prog 89 #[.int .i64 t, .int .i64 kind, .int .i64 on, .int .i64 arg, .pointer (some ⟨g, 0, none⟩)] w
     (gQ0 w g 101 1 [fMW r ps, fO (rW ps)] fun v cs L => v = .tuple #[] ∧ cs = [.map (some r)] ∧ ∃ qs : List (Int × LH Waiting), pm qs = nD (pm ps) (t, ⟨kind, on, arg⟩) ∧ L = [fMW r qs, fO (rW qs)]) := by
 refine aF0 Tryz.func89 rfl aA w _ rfl _ rfl _ 101 _ 1 rfl hg _ _ h hoff trivial [.int .i64 t, .int .i64 kind, .int .i64 on, .int .i64 arg] _ rfl rfl ?_
 obtain ⟨u, hu⟩ : ∃ u, u = (bS ps t).getD LH.nil := ⟨_, rfl⟩
 have hpm : ∀ y, pm (eZ ps t ⟨y, u.xs ++ [⟨kind, on, arg⟩]⟩) = nD (pm ps) (t, ⟨kind, on, arg⟩) := fun y => by rw [hu]; exact gU0 ps t _ y
 refine jF (Shift.rowOut 1 t rfl) ?_
 rw [← hu] at hb ⊢
 refine aH aA z88 z88 z88 200 [((0, 0), .v (.map (some r)))] [] [] z117 z120 trivial rfl ?_
 refine BothW.mk ?_ ?_
 · refine jQ 2 (qk := .i64) (kt := 3) (et := 106) (z := .slice none 0 0) rfl rfl rfl rfl ⟨rfl, rfl⟩ z88 z88 z88 (u.q.val u.xs.length) (by rw [hu]; cases bS ps t <;> rfl) ?_
   refine AllSl.mk fun b => ?_
   refine dB (ti := aZ tab) rN 1 aA (ys := [⟨kind, on, arg⟩]) rfl rfl rfl rfl rfl rfl rfl rfl rfl (by decide) ⟨rfl, rfl⟩ rfl z31 z37 z37 z86 (fun y => ?_)
   refine rM 3 (⟨y, u.xs ++ [⟨kind, on, arg⟩]⟩ : LH Waiting) (qk := .i64) (kt := 3) (et := 106) rfl rfl rfl rfl (fun _ => rfl) rfl rfl z88 z88 _ rfl z86 ?_
   refine aU (.joinO [1, 3] (Gs := [[_], _]) z108 rfl (G := rW (eZ ps t ⟨y, u.xs ++ [⟨kind, on, arg⟩]⟩)) (.trans (.of_eq (by simp)) (gY t (⟨y, u.xs ++ [⟨kind, on, arg⟩]⟩ : LH Waiting) ps))) ?_
   exact lD0 [1, 0] ⟨rfl, rfl, _, hpm y, rfl⟩ rfl rfl z109 rfl ⟨rfl, rfl, trivial⟩ (fun _ => rfl)
 · refine AllSl.mk fun b => ?_
   refine jQ 3 (qk := .i64) (kt := 3) (et := 106) (z := .slice none 0 0) rfl rfl rfl rfl ⟨rfl, rfl⟩ z88 z88 z88 (u.q.val u.xs.length) (by rw [hu]; cases bS ps t <;> rfl) ?_
   refine dB (ti := aZ tab) rN 1 aA (ys := [⟨kind, on, arg⟩]) rfl rfl rfl rfl rfl rfl rfl rfl rfl (by decide) ⟨rfl, rfl⟩ rfl z31 z37 z37 z86 (fun y => ?_)
   refine rM 3 (⟨y, u.xs ++ [⟨kind, on, arg⟩]⟩ : LH Waiting) (qk := .i64) (kt := 3) (et := 106) rfl rfl rfl rfl (fun _ => rfl) rfl rfl z88 z88 _ rfl z86 ?_
   refine aU (.joinO [1, 3] (Gs := [[_], _]) z108 rfl (G := rW (eZ ps t ⟨y, u.xs ++ [⟨kind, on, arg⟩]⟩)) (.trans (.of_eq (by simp)) (gY t (⟨y, u.xs ++ [⟨kind, on, arg⟩]⟩ : LH Waiting) ps))) ?_
   exact lD0 [1, 0] ⟨rfl, rfl, _, hpm y, rfl⟩ rfl rfl z109 rfl ⟨rfl, rfl, trivial⟩ (fun _ => rfl)
def evL {α β : Type} (f : Nat → α → List β) : Nat → List α → List β
 | _, [] => []
 | i, x :: r => f i x ++ evL f (i + 1) r
theorem qN {α β : Type} (f : Nat → α → List β) : ∀ (i : Nat) (xs ys : List α), evL f i (xs ++ ys) = evL f i xs ++ evL f (i + xs.length) ys
 | i, [], ys => by simp [evL]
 | i, x :: r, ys => by
   simp only [List.cons_append, evL, List.length_cons, qN f (i + 1) r ys, List.append_assoc]
   rw [show i + 1 + r.length = i + (r.length + 1) by omega]
theorem eV {α β : Type} (f : Nat → α → List β) (xs : List α) {k : Nat} (hk : k < xs.length) : evL f 0 (xs.take (k + 1)) = evL f 0 (xs.take k) ++ f k xs[k] := by
 rw [List.take_succ_eq_append_getElem hk, qN]
 simp only [evL, List.append_nil, Nat.zero_add, List.length_take]
 rw [Nat.min_eq_left (by omega)]
theorem rQ {α β : Type} (f : Nat → α → List β) (xs : List α) {k : Nat} (hk : k < xs.length) : (evL f 0 (xs.take k)).length + (f k xs[k]).length ≤ (evL f 0 xs).length := by
 have h := qN f 0 (xs.take (k + 1)) (xs.drop (k + 1))
 rw [List.take_append_drop] at h
 rw [h, List.length_append, eV f xs hk, List.length_append]
 omega
def cO (i : Nat) (x : Sem) : List (Int × Waiting) := x.queue.map fun w => (w.t, ⟨2, (i : Int), w.n⟩)
def bX (i : Nat) (x : Once) : List (Int × Waiting) := x.waits.map fun t => (t, ⟨4, (i : Int), 0⟩)
def cA (i : Nat) (x : Group) : List (Int × Waiting) := x.waits.map fun t => (t, ⟨6, (i : Int), 0⟩)
def bQ (i : Nat) (x : Barrier) : List (Int × Waiting) := x.waits.map fun t => (t, ⟨7, (i : Int), 0⟩)
def cK (i : Nat) (x : Chan) : List (Int × Waiting) := (x.senders.map fun l => (l.t, ⟨8, (i : Int), l.v⟩)) ++ x.getters.map fun t => (t, ⟨9, (i : Int), 0⟩)
def gB (i : Nat) (x : Once) : List (Int × Int) := if x.state = 1 then [(x.owner, (i : Int))] else []
def bB (s : State) : List (Int × Waiting) := evL cO 0 s.sems ++ evL bX 0 s.onces ++ evL cA 0 s.groups ++ evL bQ 0 s.barriers ++ evL cK 0 s.chans
def bO (s : State) : List (Int × Int) := evL gB 0 s.onces
theorem gV0 {β : Type} (m : List (Int × List β)) (e : Int × β) (t : Int) : ((bS (nD m e) t).getD []).length ≤ ((bS m t).getD []).length + 1 := by
 obtain ⟨k, x⟩ := e
 simp only [nD]
 generalize hu : (bS m k).getD [] = u
 have : ∀ m : List (Int × List β), (bS m k).getD [] = u → ((bS (eZ m k (u ++ [x])) t).getD []).length ≤ ((bS m t).getD []).length + 1 := fun m => by
   induction m with
   | nil =>
     intro h
     have hu0 : u = [] := by simpa [bS] using h.symm
     subst hu0
     simp only [eZ, bS]
     by_cases e : k = t <;> simp [e]
   | cons p r ih =>
     intro h
     obtain ⟨q, v⟩ := p
     simp only [eZ, bS] at h ⊢
     by_cases e : q = k
     · subst e
       simp only [if_true, Option.getD_some] at h
       subst h
       simp only [if_true, bS]
       by_cases e2 : q = t
       · simp [e2]
       · simp [e2]
     · simp only [e, if_false] at h ⊢
       simp only [bS]
       by_cases e2 : q = t
       · simp [e2]
       · simp only [e2, if_false]
         exact ih h
 exact this m hu
theorem eN0 {β : Type} (es : List (Int × β)) (t : Int) : ((bS (dI es) t).getD []).length ≤ es.length := by
 have : ∀ (es : List (Int × β)) (m : List (Int × List β)), ((bS (es.foldl nD m) t).getD []).length ≤ ((bS m t).getD []).length + es.length := fun es => by
   induction es with
   | nil => intro m; simp
   | cons e r ih =>
     intro m
     have h1 := ih (nD m e)
     have h2 := gV0 m e t
     simp only [List.foldl_cons, List.length_cons]
     omega
 have := this es []
 simpa [dI, bS] using this
theorem qO {β : Type} {ps : List (Int × LH β)} {es : List (Int × β)} (h : pm ps = dI es) (t : Int) : ((bS ps t).getD LH.nil).xs.length ≤ es.length := by
 have h1 := eN0 es t
 rw [← h, rO] at h1
 cases hq : bS ps t with
 | none => simp [LH.nil]
 | some u => rw [hq] at h1; simpa using h1
theorem yP (s : StateH) (w : World) (h : At w [fR (aJ s)]) (hN : (bB s.pure).length ≤ 1048576) (hl : s.sems.length ≤ 1048576 ∧ s.onces.length ≤ 1048576 ∧ s.groups.length ≤ 1048576 ∧ s.barriers.length ≤ 1048576 ∧ s.chans.length ≤ 1048576) :
   Calls Tryz.prog 48 #[aM s] w (Ret w fun v L => ∃ (r r2 : Nat) (ps : List (Int × LH Waiting)) (os : List (Int × LH Int)), v = .tuple #[.map (some r), .map (some r2)] ∧ pm ps = dI (bB s.pure) ∧ pm os = dI (bO s.pure) ∧ L = [fMW r ps, fO (rW ps), iJ r2 pY os, fO (rI os)]) := by
 obtain ⟨l0, l1, l2, l3, l4⟩ := hl
 have hN' := hN
 simp only [bB, List.length_append] at hN'
 have mlen : ∀ {α β : Type} (f : α → β) (xs : List α), (xs.map f).length = xs.length := fun f xs => by simp
 refine bU Tryz.func48 rfl aA w _ rfl _ rfl _ h ⟨rfl, rfl, trivial⟩ _ (by decide) ?_
 refine nM (pY (β := Waiting)) rfl ⟨rfl, rfl⟩ (fun r => ?_)
 refine nM (pY (β := Int)) rfl ⟨rfl, rfl⟩ (fun r2 => ?_)
 have hE0 : ∃ E : List (Int × Waiting), E = [] := ⟨[], rfl⟩
 have len0 : s.pure.sems.length = s.sems.length := mlen _ _
 refine LoopW.mk ⟨{ p : Nat × List (Int × LH Waiting) × List (Int × LH Int) // p.1 ≤ s.sems.length ∧ pm p.2.1 = dI (([] : List (Int × Waiting)) ++ evL cO 0 (s.pure.sems.take p.1)) ∧ pm p.2.2 = dI ([] : List (Int × Int)) },
   fun p => .mk [(1, .p 0 0), (4, .p 1 0), (5, .v (.map (some r2))), (6, .f 89 [(1, 0)]), (33, .v (s.h2.val s.sems.length)), (34, .v (.int .i64 (s.sems.length : Int))), (35, .v (.int .i64 (p.1.1 : Int)))] 2 0 [(0, 46, 9), (1, 101, 1)]
     [((0, 2), .v (s.h2.val s.sems.length)), ((0, 3), .v (s.h3.val s.onces.length)), ((0, 4), .v (s.h4.val s.groups.length)), ((0, 5), .v (s.h5.val s.barriers.length)), ((0, 6), .v (s.h6.val s.chans.length)), ((1, 0), .v (.map (some r)))] [fMW r p.1.2.1, fO (rW p.1.2.1), iJ r2 pY p.1.2.2, fO (rI p.1.2.2), fR (aJ s)],
   fun p => s.sems.length - p.1.1, ⟨(0, [], []), Nat.zero_le _, rfl, rfl⟩, ?_, ?_⟩
 · refine aX (.joinO [] (Gs := []) trivial rfl (G := rI []) (.refl _)) ?_
   refine aX (.joinO [] (Gs := []) trivial rfl (G := rW []) (.refl _)) ?_
   exact aC [3, 0, 2, 1, 4] zw2 zw0 zw2 zw5 zw4 rfl rfl
 rintro ⟨⟨k, ps, os⟩, hk, hps, hos⟩
 simp only at hk hps hos
 apply CaseB.mk <;> intro g
 · have hlt : k < s.sems.length := by simpa using g
   have hltp : k < s.pure.sems.length := by rw [len0]; exact hlt
   have hget : s.pure.sems[k] = (s.sems[k]).m := by simp [StateH.pure]
   have hpre := rQ cO s.pure.sems hltp
   have hsucc := eV cO s.pure.sems hltp
   rw [hget] at hpre hsucc
   have hw := bA k _ hlt (by omega)
   refine aF dV aA rfl rfl rfl rfl rfl ⟨rfl, rfl⟩ (aN 4 rfl (.trans (.R_R (cI s)) (.ofR bK))) k rfl z37 (fun ad => ?_)
   refine LoopW.mk ⟨{ p : Nat × List (Int × LH Waiting) // p.1 ≤ (s.sems[k]).m.queue.length ∧ pm p.2 = dI (([] : List (Int × Waiting)) ++ evL cO 0 (s.pure.sems.take k) ++ ((s.sems[k]).m.queue.take p.1).map fun x => (x.t, ⟨2, (k : Int), x.n⟩)) },
     fun p => .mk [(1, .p 0 0), (4, .p 1 0), (5, .v (.map (some r2))), (6, .f 89 [(1, 0)]), (33, .v (s.h2.val s.sems.length)), (34, .v (.int .i64 (s.sems.length : Int))), (35, .v (.int .i64 (k : Int))), (7, .v (.int .i64 (k : Int))), (8, .p 2 0), (41, .v ((s.sems[k]).q.val (s.sems[k]).m.queue.length)), (42, .v (.int .i64 ((s.sems[k]).m.queue.length : Int))), (43, .v (.int .i64 (p.1.1 : Int)))] 3 0 ((2, 85, 3) :: [(0, 46, 9), (1, 101, 1)])
       [((0, 2), .v (s.h2.val s.sems.length)), ((0, 3), .v (s.h3.val s.onces.length)), ((0, 4), .v (s.h4.val s.groups.length)), ((0, 5), .v (s.h5.val s.barriers.length)), ((0, 6), .v (s.h6.val s.chans.length)), ((1, 0), .v (.map (some r)))] [fMW r p.1.2, fO (rW p.1.2), iJ r2 pY os, fO (rI os), fR (aJ s)],
     fun p => (s.sems[k]).m.queue.length - p.1.1, ⟨(0, ps), Nat.zero_le _, by simpa using hps⟩, ?_, ?_⟩
   · exact aC [0, 1, 2, 3, 4] zw2 zw0 zw2 zw5 zw4 rfl rfl
   rintro ⟨⟨j, ps⟩, hj, hps⟩
   simp only at hj hps
   apply CaseB.mk <;> intro g
   · have hlj : j < (s.sems[k]).m.queue.length := by simpa using g
     have hwj := bA j (s.sems[k]).m.queue.length hlj (by simp only [cO, List.length_map] at hpre; omega)
     have hbnd : ∀ t, ((bS ps t).getD LH.nil).xs.length ≤ 1048576 := fun t => by
       have h1 := qO hps t
       simp only [List.length_append, List.length_map, List.length_take, List.length_nil] at h1
       have h2 : min j (s.sems[k]).m.queue.length ≤ (s.sems[k]).m.queue.length := Nat.min_le_right _ _
       simp only [cO, List.length_map] at hpre; omega
     refine aF cW aA rfl rfl rfl rfl rfl ⟨rfl, rfl⟩ (aN 4 rfl (.trans (.R_R (cI s)) (.ofR (nO _ _ k hlt)))) j rfl z37 (fun ad2 => ?_)
     refine gQ _ [0, 1] (G := [_, _]) eG0 rfl rfl rfl rfl ⟨rfl, rfl⟩ rfl rfl ⟨rfl, rfl, trivial⟩ ⟨rfl, rfl, rfl, rfl, trivial⟩ (fun A w ga hga hW hblk => sT _ _ _ _ ga r ps w hblk (hW.atG [0, 1] (G := [_, _]) ⟨rfl, rfl, trivial⟩ rfl ⟨rfl, rfl, rfl, rfl, trivial⟩ [] (Fo := []) trivial rfl) (hW.atG_off (by exact rfl) hga (ix := [0, 1]) (G := [_, _]) ⟨rfl, rfl, trivial⟩ (jx := []) (Fo := []) trivial) (hbnd _)) ?_
     rintro v cs L ⟨rfl, rfl, qs, hqs, rfl⟩
     refine ⟨⟨(j + 1, qs), by omega, ?_⟩, ?_, by simp only; omega⟩
     · rw [hqs, hps, ← hZ, List.take_succ_eq_append_getElem hlj, List.map_append, List.map_cons, List.map_nil, List.append_assoc _ _ [_]]
     · exact aC [0, 1, 2, 3, 4] zw6 zw0 zw6 zw5 zw13 rfl rfl
   have hgj : (s.sems[k]).m.queue.length ≤ j := by simpa using g
   rw [List.take_of_length_le hgj] at hps
   refine ⟨⟨(k + 1, ps, os), by omega, ?_, hos⟩, ?_, by simp only; omega⟩
   · have e : ([] : List (Int × Waiting)) ++ evL cO 0 (s.pure.sems.take (k + 1)) = ([] : List (Int × Waiting)) ++ evL cO 0 (s.pure.sems.take k) ++ (s.sems[k]).m.queue.map fun x => (x.t, ⟨2, (k : Int), x.n⟩) := by rw [hsucc]; simp [cO]
     show pm ps = dI _
     rw [e]; exact hps
   · exact aC [0, 1, 2, 3, 4] zw1 zw0 zw1 zw5 zw3 rfl rfl
 have hge : s.sems.length ≤ k := by simpa using g
 rw [List.take_of_length_le (by rw [len0]; exact hge)] at hps
 rw [List.nil_append] at hps
 have len1 : s.pure.onces.length = s.onces.length := mlen _ _
 refine LoopW.mk ⟨{ p : Nat × List (Int × LH Waiting) × List (Int × LH Int) // p.1 ≤ s.onces.length ∧ pm p.2.1 = dI (evL cO 0 s.pure.sems ++ evL bX 0 (s.pure.onces.take p.1)) ∧ pm p.2.2 = dI (evL gB 0 (s.pure.onces.take p.1)) },
   fun p => .mk [(1, .p 0 0), (4, .p 1 0), (5, .v (.map (some r2))), (6, .f 89 [(1, 0)]), (57, .v (s.h3.val s.onces.length)), (58, .v (.int .i64 (s.onces.length : Int))), (59, .v (.int .i64 (p.1.1 : Int)))] 2 0 [(0, 46, 9), (1, 101, 1)]
     [((0, 2), .v (s.h2.val s.sems.length)), ((0, 3), .v (s.h3.val s.onces.length)), ((0, 4), .v (s.h4.val s.groups.length)), ((0, 5), .v (s.h5.val s.barriers.length)), ((0, 6), .v (s.h6.val s.chans.length)), ((1, 0), .v (.map (some r)))] [fMW r p.1.2.1, fO (rW p.1.2.1), iJ r2 pY p.1.2.2, fO (rI p.1.2.2), fR (aJ s)],
   fun p => s.onces.length - p.1.1, ⟨(0, ps, os), Nat.zero_le _, by simpa [evL] using hps, by simpa [evL] using hos⟩, ?_, ?_⟩
 · exact aC [0, 1, 2, 3, 4] zw2 zw0 zw2 zw5 zw4 rfl rfl
 rintro ⟨⟨k, ps, os⟩, hk, hps, hos⟩
 simp only at hk hps hos
 apply CaseB.mk <;> intro g
 · have hlt : k < s.onces.length := by simpa using g
   have hltp : k < s.pure.onces.length := by rw [len1]; exact hlt
   have hget : s.pure.onces[k] = (s.onces[k]).m := by simp [StateH.pure]
   have hpre := rQ bX s.pure.onces hltp
   have hsucc := eV bX s.pure.onces hltp
   rw [hget] at hpre hsucc
   have hw := bA k _ hlt (by omega)
   refine aF dM aA rfl rfl rfl rfl rfl ⟨rfl, rfl⟩ (aN 4 rfl (.trans (.R_R (cF s)) (.ofR bK))) k rfl z37 (fun ad => ?_)
   refine LoopW.mk ⟨{ p : Nat × List (Int × LH Waiting) // p.1 ≤ (s.onces[k]).m.waits.length ∧ pm p.2 = dI (evL cO 0 s.pure.sems ++ evL bX 0 (s.pure.onces.take k) ++ ((s.onces[k]).m.waits.take p.1).map fun x => (x, ⟨4, (k : Int), 0⟩)) },
     fun p => .mk [(1, .p 0 0), (4, .p 1 0), (5, .v (.map (some r2))), (6, .f 89 [(1, 0)]), (57, .v (s.h3.val s.onces.length)), (58, .v (.int .i64 (s.onces.length : Int))), (59, .v (.int .i64 (k : Int))), (11, .v (.int .i64 (k : Int))), (12, .p 2 0), (65, .v ((s.onces[k]).q.val (s.onces[k]).m.waits.length)), (66, .v (.int .i64 ((s.onces[k]).m.waits.length : Int))), (67, .v (.int .i64 (p.1.1 : Int)))] 3 0 ((2, 98, 4) :: [(0, 46, 9), (1, 101, 1)])
       [((0, 2), .v (s.h2.val s.sems.length)), ((0, 3), .v (s.h3.val s.onces.length)), ((0, 4), .v (s.h4.val s.groups.length)), ((0, 5), .v (s.h5.val s.barriers.length)), ((0, 6), .v (s.h6.val s.chans.length)), ((1, 0), .v (.map (some r))), ((2, 0), .v (.int .i64 (s.onces[k]).m.state)), ((2, 1), .v (.int .i64 (s.onces[k]).m.owner))] [fMW r p.1.2, fO (rW p.1.2), iJ r2 pY os, fO (rI os), fR (aJ s)],
     fun p => (s.onces[k]).m.waits.length - p.1.1, ⟨(0, ps), Nat.zero_le _, by simpa using hps⟩, ?_, ?_⟩
   · exact aC [0, 1, 2, 3, 4] zw2 zw0 zw2 zw5 zw4 rfl rfl
   rintro ⟨⟨j, ps⟩, hj, hps⟩
   simp only at hj hps
   apply CaseB.mk <;> intro g
   · have hlj : j < (s.onces[k]).m.waits.length := by simpa using g
     have hwj := bA j (s.onces[k]).m.waits.length hlj (by simp only [bX, List.length_map] at hpre; omega)
     have hbnd : ∀ t, ((bS ps t).getD LH.nil).xs.length ≤ 1048576 := fun t => by
       have h1 := qO hps t
       simp only [List.length_append, List.length_map, List.length_take] at h1
       have h2 : min j (s.onces[k]).m.waits.length ≤ (s.onces[k]).m.waits.length := Nat.min_le_right _ _
       simp only [bX, List.length_map] at hpre; omega
     refine aF aI aA rfl rfl rfl rfl rfl ⟨rfl, rfl⟩ (aN 4 rfl (.trans (.R_R (cF s)) (.ofR (lF _ _ k hlt)))) j rfl z37 (fun ad2 => ?_)
     refine gQ _ [0, 1] (G := [_, _]) eG0 rfl rfl rfl rfl ⟨rfl, rfl⟩ rfl rfl ⟨rfl, rfl, trivial⟩ ⟨rfl, rfl, rfl, rfl, trivial⟩ (fun A w ga hga hW hblk => sT _ _ _ _ ga r ps w hblk (hW.atG [0, 1] (G := [_, _]) ⟨rfl, rfl, trivial⟩ rfl ⟨rfl, rfl, rfl, rfl, trivial⟩ [] (Fo := []) trivial rfl) (hW.atG_off (by exact rfl) hga (ix := [0, 1]) (G := [_, _]) ⟨rfl, rfl, trivial⟩ (jx := []) (Fo := []) trivial) (hbnd _)) ?_
     rintro v cs L ⟨rfl, rfl, qs, hqs, rfl⟩
     refine ⟨⟨(j + 1, qs), by omega, ?_⟩, ?_, by simp only; omega⟩
     · rw [hqs, hps, ← hZ, List.take_succ_eq_append_getElem hlj, List.map_append, List.map_cons, List.map_nil, List.append_assoc _ _ [_]]
     · exact aC [0, 1, 2, 3, 4] zw6 zw0 zw6 zw5 zw13 rfl rfl
   have hgj : (s.onces[k]).m.waits.length ≤ j := by simpa using g
   rw [List.take_of_length_le hgj] at hps
   apply CaseB.mk <;> intro g
   · have hst : (s.onces[k]).m.state = 1 := by simpa using g
     have hob := qO hos (s.onces[k]).m.owner
     have hoL : (evL gB 0 (s.pure.onces.take k)).length ≤ 1048576 := by
       have : ∀ (i : Nat) (xs : List Once), (evL gB i xs).length ≤ xs.length := fun i xs => by
         induction xs generalizing i with
         | nil => simp [evL]
         | cons x r ih =>
           have := ih (i + 1)
           simp only [evL, gB, List.length_append, List.length_cons]
           split <;> simp <;> omega
       have h2 := this 0 (s.pure.onces.take k)
       simp only [List.length_take] at h2
       omega
     obtain ⟨u, hu⟩ : ∃ u, u = (bS os (s.onces[k]).m.owner).getD LH.nil := ⟨_, rfl⟩
     have hpm : ∀ y, pm (eZ os (s.onces[k]).m.owner ⟨y, u.xs ++ [(k : Int)]⟩) = nD (pm os) ((s.onces[k]).m.owner, (k : Int)) := fun y => by rw [hu]; exact gU0 os _ _ y
     have hsO := eV gB s.pure.onces hltp
     rw [hget] at hsO
     have hfin : ∀ y, pm (eZ os (s.onces[k]).m.owner ⟨y, u.xs ++ [(k : Int)]⟩) = dI (evL gB 0 (s.pure.onces.take (k + 1))) := fun y => by
       rw [hpm, hos, ← hZ, hsO]; simp [gB, hst]
     rw [← hu] at hob
     refine jF (Shift.rowOut 3 (s.onces[k]).m.owner rfl) ?_
     rw [← hu]
     refine aH aA z88 z88 z88 200 [((2, 1), .v (.int .i64 (s.onces[k]).m.owner))] [] [] z117 z120 trivial rfl ?_
     refine BothW.mk ?_ ?_
     · refine jQ 4 (qk := .i64) (kt := 3) (et := 22) (z := .slice none 0 0) rfl rfl rfl rfl ⟨rfl, rfl⟩ z88 z88 z88 (u.q.val u.xs.length) (by rw [hu]; cases bS os (s.onces[k]).m.owner <;> rfl) ?_
       refine AllSl.mk fun b => ?_
       refine dB (ti := aZ tab) aI 1 aA (ys := [(k : Int)]) rfl rfl rfl rfl rfl rfl rfl rfl rfl (by decide) ⟨rfl, rfl⟩ rfl z31 z37 z37 z86 (fun y => ?_)
       refine rM 5 (⟨y, u.xs ++ [(k : Int)]⟩ : LH Int) (qk := .i64) (kt := 3) (et := 22) rfl rfl rfl rfl (fun _ => rfl) rfl rfl z88 z88 _ rfl z86 ?_
       refine ⟨⟨(k + 1, ps, eZ os (s.onces[k]).m.owner ⟨y, u.xs ++ [(k : Int)]⟩), by omega, ?_, hfin y⟩, ?_, by simp only; omega⟩
       · have e : evL cO 0 s.pure.sems ++ evL bX 0 (s.pure.onces.take (k + 1)) = evL cO 0 s.pure.sems ++ evL bX 0 (s.pure.onces.take k) ++ (s.onces[k]).m.waits.map fun x => (x, ⟨4, (k : Int), 0⟩) := by rw [hsucc]; simp [bX]
         show pm ps = dI _
         rw [e]; exact hps
       · refine aX (.joinO [1, 3] (Gs := [[_], _]) z108 rfl (G := rI (eZ os (s.onces[k]).m.owner ⟨y, u.xs ++ [(k : Int)]⟩)) (.trans (.of_eq (by simp)) (gY _ (⟨y, u.xs ++ [(k : Int)]⟩ : LH Int) os))) ?_
         exact aC [3, 4, 1, 0, 5] zw1 zw0 zw1 zw5 zw3 rfl rfl
     · refine AllSl.mk fun b => ?_
       refine jQ 5 (qk := .i64) (kt := 3) (et := 22) (z := .slice none 0 0) rfl rfl rfl rfl ⟨rfl, rfl⟩ z88 z88 z88 (u.q.val u.xs.length) (by rw [hu]; cases bS os (s.onces[k]).m.owner <;> rfl) ?_
       refine dB (ti := aZ tab) aI 1 aA (ys := [(k : Int)]) rfl rfl rfl rfl rfl rfl rfl rfl rfl (by decide) ⟨rfl, rfl⟩ rfl z31 z37 z37 z86 (fun y => ?_)
       refine rM 5 (⟨y, u.xs ++ [(k : Int)]⟩ : LH Int) (qk := .i64) (kt := 3) (et := 22) rfl rfl rfl rfl (fun _ => rfl) rfl rfl z88 z88 _ rfl z86 ?_
       refine ⟨⟨(k + 1, ps, eZ os (s.onces[k]).m.owner ⟨y, u.xs ++ [(k : Int)]⟩), by omega, ?_, hfin y⟩, ?_, by simp only; omega⟩
       · have e : evL cO 0 s.pure.sems ++ evL bX 0 (s.pure.onces.take (k + 1)) = evL cO 0 s.pure.sems ++ evL bX 0 (s.pure.onces.take k) ++ (s.onces[k]).m.waits.map fun x => (x, ⟨4, (k : Int), 0⟩) := by rw [hsucc]; simp [bX]
         show pm ps = dI _
         rw [e]; exact hps
       · refine aX (.joinO [1, 3] (Gs := [[_], _]) z108 rfl (G := rI (eZ os (s.onces[k]).m.owner ⟨y, u.xs ++ [(k : Int)]⟩)) (.trans (.of_eq (by simp)) (gY _ (⟨y, u.xs ++ [(k : Int)]⟩ : LH Int) os))) ?_
         exact aC [3, 4, 1, 0, 5] zw1 zw0 zw1 zw5 zw3 rfl rfl
   have hst : ¬ (s.onces[k]).m.state = 1 := by simpa using g
   have hsO := eV gB s.pure.onces hltp
   rw [hget] at hsO
   refine ⟨⟨(k + 1, ps, os), by omega, ?_, by rw [hsO]; simpa [gB, hst] using hos⟩, ?_, by simp only; omega⟩
   · have e : evL cO 0 s.pure.sems ++ evL bX 0 (s.pure.onces.take (k + 1)) = evL cO 0 s.pure.sems ++ evL bX 0 (s.pure.onces.take k) ++ (s.onces[k]).m.waits.map fun x => (x, ⟨4, (k : Int), 0⟩) := by rw [hsucc]; simp [bX]
     show pm ps = dI _
     rw [e]; exact hps
   · exact aC [0, 1, 2, 3, 4] zw1 zw0 zw1 zw5 zw3 rfl rfl
 have hge : s.onces.length ≤ k := by simpa using g
 rw [List.take_of_length_le (by rw [len1]; exact hge)] at hps
 rw [List.take_of_length_le (by rw [len1]; exact hge)] at hos
 have len2 : s.pure.groups.length = s.groups.length := mlen _ _
 refine LoopW.mk ⟨{ p : Nat × List (Int × LH Waiting) × List (Int × LH Int) // p.1 ≤ s.groups.length ∧ pm p.2.1 = dI (evL cO 0 s.pure.sems ++ evL bX 0 s.pure.onces ++ evL cA 0 (s.pure.groups.take p.1)) ∧ pm p.2.2 = dI (bO s.pure) },
   fun p => .mk [(1, .p 0 0), (4, .p 1 0), (5, .v (.map (some r2))), (6, .f 89 [(1, 0)]), (91, .v (s.h4.val s.groups.length)), (92, .v (.int .i64 (s.groups.length : Int))), (93, .v (.int .i64 (p.1.1 : Int)))] 2 0 [(0, 46, 9), (1, 101, 1)]
     [((0, 2), .v (s.h2.val s.sems.length)), ((0, 3), .v (s.h3.val s.onces.length)), ((0, 4), .v (s.h4.val s.groups.length)), ((0, 5), .v (s.h5.val s.barriers.length)), ((0, 6), .v (s.h6.val s.chans.length)), ((1, 0), .v (.map (some r)))] [fMW r p.1.2.1, fO (rW p.1.2.1), iJ r2 pY p.1.2.2, fO (rI p.1.2.2), fR (aJ s)],
   fun p => s.groups.length - p.1.1, ⟨(0, ps, os), Nat.zero_le _, by simpa [evL] using hps, hos⟩, ?_, ?_⟩
 · exact aC [0, 1, 2, 3, 4] zw2 zw0 zw2 zw5 zw4 rfl rfl
 rintro ⟨⟨k, ps, os⟩, hk, hps, hos⟩
 simp only at hk hps hos
 apply CaseB.mk <;> intro g
 · have hlt : k < s.groups.length := by simpa using g
   have hltp : k < s.pure.groups.length := by rw [len2]; exact hlt
   have hget : s.pure.groups[k] = (s.groups[k]).m := by simp [StateH.pure]
   have hpre := rQ cA s.pure.groups hltp
   have hsucc := eV cA s.pure.groups hltp
   rw [hget] at hpre hsucc
   have hw := bA k _ hlt (by omega)
   refine aF cP aA rfl rfl rfl rfl rfl ⟨rfl, rfl⟩ (aN 4 rfl (.trans (.R_R (bZ s)) (.ofR bK))) k rfl z37 (fun ad => ?_)
   refine LoopW.mk ⟨{ p : Nat × List (Int × LH Waiting) // p.1 ≤ (s.groups[k]).m.waits.length ∧ pm p.2 = dI (evL cO 0 s.pure.sems ++ evL bX 0 s.pure.onces ++ evL cA 0 (s.pure.groups.take k) ++ ((s.groups[k]).m.waits.take p.1).map fun x => (x, ⟨6, (k : Int), 0⟩)) },
     fun p => .mk [(1, .p 0 0), (4, .p 1 0), (5, .v (.map (some r2))), (6, .f 89 [(1, 0)]), (91, .v (s.h4.val s.groups.length)), (92, .v (.int .i64 (s.groups.length : Int))), (93, .v (.int .i64 (k : Int))), (15, .v (.int .i64 (k : Int))), (16, .p 2 0), (99, .v ((s.groups[k]).q.val (s.groups[k]).m.waits.length)), (100, .v (.int .i64 ((s.groups[k]).m.waits.length : Int))), (101, .v (.int .i64 (p.1.1 : Int)))] 3 0 ((2, 88, 2) :: [(0, 46, 9), (1, 101, 1)])
       [((0, 2), .v (s.h2.val s.sems.length)), ((0, 3), .v (s.h3.val s.onces.length)), ((0, 4), .v (s.h4.val s.groups.length)), ((0, 5), .v (s.h5.val s.barriers.length)), ((0, 6), .v (s.h6.val s.chans.length)), ((1, 0), .v (.map (some r)))] [fMW r p.1.2, fO (rW p.1.2), iJ r2 pY os, fO (rI os), fR (aJ s)],
     fun p => (s.groups[k]).m.waits.length - p.1.1, ⟨(0, ps), Nat.zero_le _, by simpa using hps⟩, ?_, ?_⟩
   · exact aC [0, 1, 2, 3, 4] zw2 zw0 zw2 zw5 zw4 rfl rfl
   rintro ⟨⟨j, ps⟩, hj, hps⟩
   simp only at hj hps
   apply CaseB.mk <;> intro g
   · have hlj : j < (s.groups[k]).m.waits.length := by simpa using g
     have hwj := bA j (s.groups[k]).m.waits.length hlj (by simp only [cA, List.length_map] at hpre; omega)
     have hbnd : ∀ t, ((bS ps t).getD LH.nil).xs.length ≤ 1048576 := fun t => by
       have h1 := qO hps t
       simp only [List.length_append, List.length_map, List.length_take] at h1
       have h2 : min j (s.groups[k]).m.waits.length ≤ (s.groups[k]).m.waits.length := Nat.min_le_right _ _
       simp only [cA, List.length_map] at hpre; omega
     refine aF aI aA rfl rfl rfl rfl rfl ⟨rfl, rfl⟩ (aN 4 rfl (.trans (.R_R (bZ s)) (.ofR (iE _ _ k hlt)))) j rfl z37 (fun ad2 => ?_)
     refine gQ _ [0, 1] (G := [_, _]) eG0 rfl rfl rfl rfl ⟨rfl, rfl⟩ rfl rfl ⟨rfl, rfl, trivial⟩ ⟨rfl, rfl, rfl, rfl, trivial⟩ (fun A w ga hga hW hblk => sT _ _ _ _ ga r ps w hblk (hW.atG [0, 1] (G := [_, _]) ⟨rfl, rfl, trivial⟩ rfl ⟨rfl, rfl, rfl, rfl, trivial⟩ [] (Fo := []) trivial rfl) (hW.atG_off (by exact rfl) hga (ix := [0, 1]) (G := [_, _]) ⟨rfl, rfl, trivial⟩ (jx := []) (Fo := []) trivial) (hbnd _)) ?_
     rintro v cs L ⟨rfl, rfl, qs, hqs, rfl⟩
     refine ⟨⟨(j + 1, qs), by omega, ?_⟩, ?_, by simp only; omega⟩
     · rw [hqs, hps, ← hZ, List.take_succ_eq_append_getElem hlj, List.map_append, List.map_cons, List.map_nil, List.append_assoc _ _ [_]]
     · exact aC [0, 1, 2, 3, 4] zw6 zw0 zw6 zw5 zw13 rfl rfl
   have hgj : (s.groups[k]).m.waits.length ≤ j := by simpa using g
   rw [List.take_of_length_le hgj] at hps
   refine ⟨⟨(k + 1, ps, os), by omega, ?_, hos⟩, ?_, by simp only; omega⟩
   · have e : evL cO 0 s.pure.sems ++ evL bX 0 s.pure.onces ++ evL cA 0 (s.pure.groups.take (k + 1)) = evL cO 0 s.pure.sems ++ evL bX 0 s.pure.onces ++ evL cA 0 (s.pure.groups.take k) ++ (s.groups[k]).m.waits.map fun x => (x, ⟨6, (k : Int), 0⟩) := by rw [hsucc]; simp [cA]
     show pm ps = dI _
     rw [e]; exact hps
   · exact aC [0, 1, 2, 3, 4] zw1 zw0 zw1 zw5 zw3 rfl rfl
 have hge : s.groups.length ≤ k := by simpa using g
 rw [List.take_of_length_le (by rw [len2]; exact hge)] at hps
 have len3 : s.pure.barriers.length = s.barriers.length := mlen _ _
 refine LoopW.mk ⟨{ p : Nat × List (Int × LH Waiting) × List (Int × LH Int) // p.1 ≤ s.barriers.length ∧ pm p.2.1 = dI (evL cO 0 s.pure.sems ++ evL bX 0 s.pure.onces ++ evL cA 0 s.pure.groups ++ evL bQ 0 (s.pure.barriers.take p.1)) ∧ pm p.2.2 = dI (bO s.pure) },
   fun p => .mk [(1, .p 0 0), (4, .p 1 0), (5, .v (.map (some r2))), (6, .f 89 [(1, 0)]), (112, .v (s.h5.val s.barriers.length)), (113, .v (.int .i64 (s.barriers.length : Int))), (114, .v (.int .i64 (p.1.1 : Int)))] 2 0 [(0, 46, 9), (1, 101, 1)]
     [((0, 2), .v (s.h2.val s.sems.length)), ((0, 3), .v (s.h3.val s.onces.length)), ((0, 4), .v (s.h4.val s.groups.length)), ((0, 5), .v (s.h5.val s.barriers.length)), ((0, 6), .v (s.h6.val s.chans.length)), ((1, 0), .v (.map (some r)))] [fMW r p.1.2.1, fO (rW p.1.2.1), iJ r2 pY p.1.2.2, fO (rI p.1.2.2), fR (aJ s)],
   fun p => s.barriers.length - p.1.1, ⟨(0, ps, os), Nat.zero_le _, by simpa [evL] using hps, hos⟩, ?_, ?_⟩
 · exact aC [0, 1, 2, 3, 4] zw2 zw0 zw2 zw5 zw4 rfl rfl
 rintro ⟨⟨k, ps, os⟩, hk, hps, hos⟩
 simp only at hk hps hos
 apply CaseB.mk <;> intro g
 · have hlt : k < s.barriers.length := by simpa using g
   have hltp : k < s.pure.barriers.length := by rw [len3]; exact hlt
   have hget : s.pure.barriers[k] = (s.barriers[k]).m := by simp [StateH.pure]
   have hpre := rQ bQ s.pure.barriers hltp
   have hsucc := eV bQ s.pure.barriers hltp
   rw [hget] at hpre hsucc
   have hw := bA k _ hlt (by omega)
   refine aF cH aA rfl rfl rfl rfl rfl ⟨rfl, rfl⟩ (aN 4 rfl (.trans (.R_R (bN s)) (.ofR bK))) k rfl z37 (fun ad => ?_)
   refine LoopW.mk ⟨{ p : Nat × List (Int × LH Waiting) // p.1 ≤ (s.barriers[k]).m.waits.length ∧ pm p.2 = dI (evL cO 0 s.pure.sems ++ evL bX 0 s.pure.onces ++ evL cA 0 s.pure.groups ++ evL bQ 0 (s.pure.barriers.take k) ++ ((s.barriers[k]).m.waits.take p.1).map fun x => (x, ⟨7, (k : Int), 0⟩)) },
     fun p => .mk [(1, .p 0 0), (4, .p 1 0), (5, .v (.map (some r2))), (6, .f 89 [(1, 0)]), (112, .v (s.h5.val s.barriers.length)), (113, .v (.int .i64 (s.barriers.length : Int))), (114, .v (.int .i64 (k : Int))), (19, .v (.int .i64 (k : Int))), (20, .p 2 0), (120, .v ((s.barriers[k]).q.val (s.barriers[k]).m.waits.length)), (121, .v (.int .i64 ((s.barriers[k]).m.waits.length : Int))), (122, .v (.int .i64 (p.1.1 : Int)))] 3 0 ((2, 91, 3) :: [(0, 46, 9), (1, 101, 1)])
       [((0, 2), .v (s.h2.val s.sems.length)), ((0, 3), .v (s.h3.val s.onces.length)), ((0, 4), .v (s.h4.val s.groups.length)), ((0, 5), .v (s.h5.val s.barriers.length)), ((0, 6), .v (s.h6.val s.chans.length)), ((1, 0), .v (.map (some r)))] [fMW r p.1.2, fO (rW p.1.2), iJ r2 pY os, fO (rI os), fR (aJ s)],
     fun p => (s.barriers[k]).m.waits.length - p.1.1, ⟨(0, ps), Nat.zero_le _, by simpa using hps⟩, ?_, ?_⟩
   · exact aC [0, 1, 2, 3, 4] zw2 zw0 zw2 zw5 zw4 rfl rfl
   rintro ⟨⟨j, ps⟩, hj, hps⟩
   simp only at hj hps
   apply CaseB.mk <;> intro g
   · have hlj : j < (s.barriers[k]).m.waits.length := by simpa using g
     have hwj := bA j (s.barriers[k]).m.waits.length hlj (by simp only [bQ, List.length_map] at hpre; omega)
     have hbnd : ∀ t, ((bS ps t).getD LH.nil).xs.length ≤ 1048576 := fun t => by
       have h1 := qO hps t
       simp only [List.length_append, List.length_map, List.length_take] at h1
       have h2 : min j (s.barriers[k]).m.waits.length ≤ (s.barriers[k]).m.waits.length := Nat.min_le_right _ _
       simp only [bQ, List.length_map] at hpre; omega
     refine aF aI aA rfl rfl rfl rfl rfl ⟨rfl, rfl⟩ (aN 4 rfl (.trans (.R_R (bN s)) (.ofR (fJ _ _ k hlt)))) j rfl z37 (fun ad2 => ?_)
     refine gQ _ [0, 1] (G := [_, _]) eG0 rfl rfl rfl rfl ⟨rfl, rfl⟩ rfl rfl ⟨rfl, rfl, trivial⟩ ⟨rfl, rfl, rfl, rfl, trivial⟩ (fun A w ga hga hW hblk => sT _ _ _ _ ga r ps w hblk (hW.atG [0, 1] (G := [_, _]) ⟨rfl, rfl, trivial⟩ rfl ⟨rfl, rfl, rfl, rfl, trivial⟩ [] (Fo := []) trivial rfl) (hW.atG_off (by exact rfl) hga (ix := [0, 1]) (G := [_, _]) ⟨rfl, rfl, trivial⟩ (jx := []) (Fo := []) trivial) (hbnd _)) ?_
     rintro v cs L ⟨rfl, rfl, qs, hqs, rfl⟩
     refine ⟨⟨(j + 1, qs), by omega, ?_⟩, ?_, by simp only; omega⟩
     · rw [hqs, hps, ← hZ, List.take_succ_eq_append_getElem hlj, List.map_append, List.map_cons, List.map_nil, List.append_assoc _ _ [_]]
     · exact aC [0, 1, 2, 3, 4] zw6 zw0 zw6 zw5 zw13 rfl rfl
   have hgj : (s.barriers[k]).m.waits.length ≤ j := by simpa using g
   rw [List.take_of_length_le hgj] at hps
   refine ⟨⟨(k + 1, ps, os), by omega, ?_, hos⟩, ?_, by simp only; omega⟩
   · have e : evL cO 0 s.pure.sems ++ evL bX 0 s.pure.onces ++ evL cA 0 s.pure.groups ++ evL bQ 0 (s.pure.barriers.take (k + 1)) = evL cO 0 s.pure.sems ++ evL bX 0 s.pure.onces ++ evL cA 0 s.pure.groups ++ evL bQ 0 (s.pure.barriers.take k) ++ (s.barriers[k]).m.waits.map fun x => (x, ⟨7, (k : Int), 0⟩) := by rw [hsucc]; simp [bQ]
     show pm ps = dI _
     rw [e]; exact hps
   · exact aC [0, 1, 2, 3, 4] zw1 zw0 zw1 zw5 zw3 rfl rfl
 have hge : s.barriers.length ≤ k := by simpa using g
 rw [List.take_of_length_le (by rw [len3]; exact hge)] at hps
 have len4 : s.pure.chans.length = s.chans.length := mlen _ _
 refine LoopW.mk ⟨{ p : Nat × List (Int × LH Waiting) × List (Int × LH Int) // p.1 ≤ s.chans.length ∧ pm p.2.1 = dI (evL cO 0 s.pure.sems ++ evL bX 0 s.pure.onces ++ evL cA 0 s.pure.groups ++ evL bQ 0 s.pure.barriers ++ evL cK 0 (s.pure.chans.take p.1)) ∧ pm p.2.2 = dI (bO s.pure) },
   fun p => .mk [(1, .p 0 0), (4, .p 1 0), (5, .v (.map (some r2))), (6, .f 89 [(1, 0)]), (133, .v (s.h6.val s.chans.length)), (134, .v (.int .i64 (s.chans.length : Int))), (135, .v (.int .i64 (p.1.1 : Int)))] 2 0 [(0, 46, 9), (1, 101, 1)]
     [((0, 2), .v (s.h2.val s.sems.length)), ((0, 3), .v (s.h3.val s.onces.length)), ((0, 4), .v (s.h4.val s.groups.length)), ((0, 5), .v (s.h5.val s.barriers.length)), ((0, 6), .v (s.h6.val s.chans.length)), ((1, 0), .v (.map (some r)))] [fMW r p.1.2.1, fO (rW p.1.2.1), iJ r2 pY p.1.2.2, fO (rI p.1.2.2), fR (aJ s)],
   fun p => s.chans.length - p.1.1, ⟨(0, ps, os), Nat.zero_le _, by simpa [evL] using hps, hos⟩, ?_, ?_⟩
 · exact aC [0, 1, 2, 3, 4] zw2 zw0 zw2 zw5 zw4 rfl rfl
 rintro ⟨⟨k, ps, os⟩, hk, hps, hos⟩
 simp only at hk hps hos
 apply CaseB.mk <;> intro g
 · have hlt : k < s.chans.length := by simpa using g
   have hltp : k < s.pure.chans.length := by rw [len4]; exact hlt
   have hget : s.pure.chans[k] = (s.chans[k]).m := by simp [StateH.pure]
   have hpre := rQ cK s.pure.chans hltp
   have hsucc := eV cK s.pure.chans hltp
   rw [hget] at hpre hsucc
   have hw := bA k _ hlt (by omega)
   refine aF cX aA rfl rfl rfl rfl rfl ⟨rfl, rfl⟩ (aN 4 rfl (.trans (.R_R (bC s)) (.ofR bK))) k rfl z37 (fun ad => ?_)
   refine LoopW.mk ⟨{ p : Nat × List (Int × LH Waiting) // p.1 ≤ (s.chans[k]).m.senders.length ∧ pm p.2 = dI (evL cO 0 s.pure.sems ++ evL bX 0 s.pure.onces ++ evL cA 0 s.pure.groups ++ evL bQ 0 s.pure.barriers ++ evL cK 0 (s.pure.chans.take k) ++ ((s.chans[k]).m.senders.take p.1).map fun x => (x.t, ⟨8, (k : Int), x.v⟩)) },
     fun p => .mk [(1, .p 0 0), (4, .p 1 0), (5, .v (.map (some r2))), (6, .f 89 [(1, 0)]), (133, .v (s.h6.val s.chans.length)), (134, .v (.int .i64 (s.chans.length : Int))), (135, .v (.int .i64 (k : Int))), (23, .v (.int .i64 (k : Int))), (24, .p 2 0), (141, .v ((s.chans[k]).q1.val (s.chans[k]).m.senders.length)), (142, .v (.int .i64 ((s.chans[k]).m.senders.length : Int))), (143, .v (.int .i64 (p.1.1 : Int)))] 3 0 ((2, 95, 5) :: [(0, 46, 9), (1, 101, 1)])
       [((0, 2), .v (s.h2.val s.sems.length)), ((0, 3), .v (s.h3.val s.onces.length)), ((0, 4), .v (s.h4.val s.groups.length)), ((0, 5), .v (s.h5.val s.barriers.length)), ((0, 6), .v (s.h6.val s.chans.length)), ((1, 0), .v (.map (some r))), ((2, 3), .v ((s.chans[k]).q2.val (s.chans[k]).m.getters.length))] [fMW r p.1.2, fO (rW p.1.2), iJ r2 pY os, fO (rI os), fR (aJ s)],
     fun p => (s.chans[k]).m.senders.length - p.1.1, ⟨(0, ps), Nat.zero_le _, by simpa using hps⟩, ?_, ?_⟩
   · exact aC [0, 1, 2, 3, 4] zw2 zw0 zw2 zw5 zw4 rfl rfl
   rintro ⟨⟨j, ps⟩, hj, hps⟩
   simp only at hj hps
   apply CaseB.mk <;> intro g
   · have hlj : j < (s.chans[k]).m.senders.length := by simpa using g
     have hwj := bA j (s.chans[k]).m.senders.length hlj z54
     have hbnd : ∀ t, ((bS ps t).getD LH.nil).xs.length ≤ 1048576 := fun t => by
       have h1 := qO hps t
       simp only [List.length_append, List.length_map, List.length_take] at h1
       have h2 : min j (s.chans[k]).m.senders.length ≤ (s.chans[k]).m.senders.length := Nat.min_le_right _ _
       simp only [cK, List.length_append, List.length_map] at hpre; omega
     refine aF jZ aA rfl rfl rfl rfl rfl ⟨rfl, rfl⟩ (aN 4 rfl (.trans (.R_R (bC s)) (.ofR (lG _ _ k hlt)))) j rfl z37 (fun ad2 => ?_)
     refine gQ _ [0, 1] (G := [_, _]) eG0 rfl rfl rfl rfl ⟨rfl, rfl⟩ rfl rfl ⟨rfl, rfl, trivial⟩ ⟨rfl, rfl, rfl, rfl, trivial⟩ (fun A w ga hga hW hblk => sT _ _ _ _ ga r ps w hblk (hW.atG [0, 1] (G := [_, _]) ⟨rfl, rfl, trivial⟩ rfl ⟨rfl, rfl, rfl, rfl, trivial⟩ [] (Fo := []) trivial rfl) (hW.atG_off (by exact rfl) hga (ix := [0, 1]) (G := [_, _]) ⟨rfl, rfl, trivial⟩ (jx := []) (Fo := []) trivial) (hbnd _)) ?_
     rintro v cs L ⟨rfl, rfl, qs, hqs, rfl⟩
     refine ⟨⟨(j + 1, qs), by omega, ?_⟩, ?_, by simp only; omega⟩
     · rw [hqs, hps, ← hZ, List.take_succ_eq_append_getElem hlj, List.map_append, List.map_cons, List.map_nil, List.append_assoc _ _ [_]]
     · exact aC [0, 1, 2, 3, 4] zw6 zw0 zw6 zw5 zw13 rfl rfl
   have hgj : (s.chans[k]).m.senders.length ≤ j := by simpa using g
   rw [List.take_of_length_le hgj] at hps
   refine LoopW.mk ⟨{ p : Nat × List (Int × LH Waiting) // p.1 ≤ (s.chans[k]).m.getters.length ∧ pm p.2 = dI ((evL cO 0 s.pure.sems ++ evL bX 0 s.pure.onces ++ evL cA 0 s.pure.groups ++ evL bQ 0 s.pure.barriers ++ evL cK 0 (s.pure.chans.take k) ++ (s.chans[k]).m.senders.map fun x => (x.t, ⟨8, (k : Int), x.v⟩)) ++ ((s.chans[k]).m.getters.take p.1).map fun x => (x, ⟨9, (k : Int), 0⟩)) },
     fun p => .mk [(1, .p 0 0), (4, .p 1 0), (5, .v (.map (some r2))), (6, .f 89 [(1, 0)]), (133, .v (s.h6.val s.chans.length)), (134, .v (.int .i64 (s.chans.length : Int))), (135, .v (.int .i64 (k : Int))), (23, .v (.int .i64 (k : Int))), (24, .p 2 0), (156, .v ((s.chans[k]).q2.val (s.chans[k]).m.getters.length)), (157, .v (.int .i64 ((s.chans[k]).m.getters.length : Int))), (158, .v (.int .i64 (p.1.1 : Int)))] 3 0 ((2, 95, 5) :: [(0, 46, 9), (1, 101, 1)])
       [((0, 2), .v (s.h2.val s.sems.length)), ((0, 3), .v (s.h3.val s.onces.length)), ((0, 4), .v (s.h4.val s.groups.length)), ((0, 5), .v (s.h5.val s.barriers.length)), ((0, 6), .v (s.h6.val s.chans.length)), ((1, 0), .v (.map (some r)))] [fMW r p.1.2, fO (rW p.1.2), iJ r2 pY os, fO (rI os), fR (aJ s)],
     fun p => (s.chans[k]).m.getters.length - p.1.1, ⟨(0, ps), Nat.zero_le _, by simpa using hps⟩, ?_, ?_⟩
   · exact aC [0, 1, 2, 3, 4] zw2 zw0 zw2 zw5 zw4 rfl rfl
   rintro ⟨⟨j, ps⟩, hj, hps⟩
   simp only at hj hps
   apply CaseB.mk <;> intro g
   · have hlj : j < (s.chans[k]).m.getters.length := by simpa using g
     have hwj := bA j (s.chans[k]).m.getters.length hlj z54
     have hbnd : ∀ t, ((bS ps t).getD LH.nil).xs.length ≤ 1048576 := fun t => by
       have h1 := qO hps t
       simp only [List.length_append, List.length_map, List.length_take] at h1
       have h2 : min j (s.chans[k]).m.getters.length ≤ (s.chans[k]).m.getters.length := Nat.min_le_right _ _
       simp only [cK, List.length_append, List.length_map] at hpre; omega
     refine aF aI aA rfl rfl rfl rfl rfl ⟨rfl, rfl⟩ (aN 4 rfl (.trans (.R_R (bC s)) (.ofR (nC _ _ k hlt)))) j rfl z37 (fun ad2 => ?_)
     refine gQ _ [0, 1] (G := [_, _]) eG0 rfl rfl rfl rfl ⟨rfl, rfl⟩ rfl rfl ⟨rfl, rfl, trivial⟩ ⟨rfl, rfl, rfl, rfl, trivial⟩ (fun A w ga hga hW hblk => sT _ _ _ _ ga r ps w hblk (hW.atG [0, 1] (G := [_, _]) ⟨rfl, rfl, trivial⟩ rfl ⟨rfl, rfl, rfl, rfl, trivial⟩ [] (Fo := []) trivial rfl) (hW.atG_off (by exact rfl) hga (ix := [0, 1]) (G := [_, _]) ⟨rfl, rfl, trivial⟩ (jx := []) (Fo := []) trivial) (hbnd _)) ?_
     rintro v cs L ⟨rfl, rfl, qs, hqs, rfl⟩
     refine ⟨⟨(j + 1, qs), by omega, ?_⟩, ?_, by simp only; omega⟩
     · rw [hqs, hps, ← hZ, List.take_succ_eq_append_getElem hlj, List.map_append, List.map_cons, List.map_nil, List.append_assoc _ _ [_]]
     · exact aC [0, 1, 2, 3, 4] zw6 zw0 zw6 zw5 zw13 rfl rfl
   have hgj : (s.chans[k]).m.getters.length ≤ j := by simpa using g
   rw [List.take_of_length_le hgj] at hps
   refine ⟨⟨(k + 1, ps, os), by omega, ?_, hos⟩, ?_, by simp only; omega⟩
   · have e : evL cO 0 s.pure.sems ++ evL bX 0 s.pure.onces ++ evL cA 0 s.pure.groups ++ evL bQ 0 s.pure.barriers ++ evL cK 0 (s.pure.chans.take (k + 1)) = (evL cO 0 s.pure.sems ++ evL bX 0 s.pure.onces ++ evL cA 0 s.pure.groups ++ evL bQ 0 s.pure.barriers ++ evL cK 0 (s.pure.chans.take k) ++ (s.chans[k]).m.senders.map fun x => (x.t, ⟨8, (k : Int), x.v⟩)) ++ (s.chans[k]).m.getters.map fun x => (x, ⟨9, (k : Int), 0⟩) := by rw [hsucc]; simp [cK]
     show pm ps = dI _
     rw [e]; exact hps
   · exact aC [0, 1, 2, 3, 4] zw1 zw0 zw1 zw5 zw3 rfl rfl
 have hge : s.chans.length ≤ k := by simpa using g
 rw [List.take_of_length_le (by rw [len4]; exact hge)] at hps
 exact bY [0, 1, 2, 3] ⟨r, r2, ps, os, rfl, hps, hos, rfl⟩ z97 rfl ⟨rfl, rfl, rfl, rfl, trivial⟩ (fun _ => rfl)
def gE (xs : List Int) (lo hi : Int) : Prop := xs.length ≤ 3 ∧ ∀ x ∈ xs, lo ≤ x ∧ x ≤ hi
def Prog.shared (p : Prog) (k : Int) : Int := if k = 1 then 1 else if k = 2 ∨ k = 3 then p.sems.length else if k = 4 then 3 else if k = 5 ∨ k = 6 then p.groups.length else if k = 7 then p.barriers.length else p.rooms.length
def Prog.argOk (p : Prog) (o : Op) : Prop := if o.kind = 2 ∨ o.kind = 3 then 1 ≤ o.arg ∧ o.arg ≤ p.sems.getD o.on.toNat 0 else if o.kind = 5 then -9 ≤ o.arg ∧ o.arg ≤ 9 else if o.kind = 1 ∨ o.kind = 4 ∨ o.kind = 8 then aR o.arg = true else o.arg = 0
def OpOk (p : Prog) (o : Op) : Prop := 1 ≤ o.kind ∧ o.kind ≤ 10 ∧ 0 ≤ o.on ∧ o.on < p.shared o.kind ∧ p.argOk o
structure ProgOk (p : Prog) : Prop where
 sems : gE p.sems 1 9
 groups : gE p.groups 0 9
 barriers : gE p.barriers 1 6
 rooms : gE p.rooms 0 4
 n1 : 1 ≤ p.threads.length
 n4 : p.threads.length ≤ 4
 ops : ∀ t ∈ p.threads, t.length ≤ 8 ∧ ∀ o ∈ t, OpOk p o
theorem gW0 {p : Prog} {o : Op} (h : o.kind = 1) : OpOk p o ↔ o.on = 0 ∧ aR o.arg = true := by
 simp only [OpOk, Prog.shared, Prog.argOk, h]; by_cases hv : aR o.arg = true <;> simp [hv] <;> omega
theorem gX0 {p : Prog} {o : Op} (h : o.kind = 2 ∨ o.kind = 3) : OpOk p o ↔ (0 ≤ o.on ∧ o.on < p.sems.length) ∧ 1 ≤ o.arg ∧ o.arg ≤ p.sems.getD o.on.toNat 0 := by
 rcases h with h | h <;> simp only [OpOk, Prog.shared, Prog.argOk, h] <;> simp <;> omega
theorem gY0 {p : Prog} {o : Op} (h : o.kind = 4) : OpOk p o ↔ 0 ≤ o.on ∧ o.on ≤ 2 ∧ aR o.arg = true := by
 simp only [OpOk, Prog.shared, Prog.argOk, h]; by_cases hv : aR o.arg = true <;> simp [hv] <;> omega
theorem opOk5 {p : Prog} {o : Op} (h : o.kind = 5) : OpOk p o ↔ (0 ≤ o.on ∧ o.on < p.groups.length) ∧ -9 ≤ o.arg ∧ o.arg ≤ 9 := by
 simp only [OpOk, Prog.shared, Prog.argOk, h]; simp; omega
theorem lE0 {p : Prog} {o : Op} (h : o.kind = 6) : OpOk p o ↔ (0 ≤ o.on ∧ o.on < p.groups.length) ∧ o.arg = 0 := by
 simp only [OpOk, Prog.shared, Prog.argOk, h]; simp; omega
theorem lF0 {p : Prog} {o : Op} (h : o.kind = 7) : OpOk p o ↔ (0 ≤ o.on ∧ o.on < p.barriers.length) ∧ o.arg = 0 := by
 simp only [OpOk, Prog.shared, Prog.argOk, h]; simp; omega
theorem lG0 {p : Prog} {o : Op} (h : o.kind = 8) : OpOk p o ↔ (0 ≤ o.on ∧ o.on < p.rooms.length) ∧ aR o.arg = true := by
 simp only [OpOk, Prog.shared, Prog.argOk, h]; by_cases hv : aR o.arg = true <;> simp [hv] <;> omega
theorem gZ0 {p : Prog} {o : Op} (h : o.kind = 9 ∨ o.kind = 10) : OpOk p o ↔ (0 ≤ o.on ∧ o.on < p.rooms.length) ∧ o.arg = 0 := by
 rcases h with h | h <;> simp only [OpOk, Prog.shared, Prog.argOk, h] <;> simp <;> omega
theorem opOk0 {p : Prog} {o : Op} (h : o.kind < 1 ∨ 10 < o.kind) : ¬ OpOk p o := fun e => by
 obtain ⟨h1, h2, _⟩ := e; omega
theorem tno {P : Prop} (h : ¬ P) : false = true ↔ P := ⟨fun e => (by cases e), fun e => (h e).elim⟩
theorem vR {P : Prop} (h : P) : true = true ↔ P := ⟨fun _ => h, fun _ => rfl⟩
abbrev gC (w : World) (P : Prop) : Ending → World → Prop := Ret w fun v L => ∃ b : Bool, v = .bool b ∧ (b = true ↔ P) ∧ L = []
theorem aH0 {fv : FuncId} {cap : Array Value} {G : List Fct} {q : Int → Bool} (hcl : aD Tryz.prog fv = true) (hc : ∀ x w, At w [fB true G] → Calls Tryz.prog fv ([Value.int .i64 x] ++ cap.toList).toArray w (Ret w fun v L => v = .bool (q x) ∧ L = []))
   (i : Sl) (xs : List Int) (w : World) (h : At w [slo i aL 1 xs, fB true G]) (hb : xs.length ≤ 4294967296) :
   Calls Tryz.prog 147 #[i.val xs.length, .func (.func fv) #[] cap] w (Ret w fun v L => ∃ k : Int, v = .int .i64 k ∧ (0 ≤ k ↔ ∃ x ∈ xs, q x = true) ∧ L = []) := by
 refine cN Tryz.func147 rfl aA w _ rfl _ rfl _ h ⟨rfl, rfl, rfl, rfl, trivial⟩ _ _ (by decide) ?_
 refine LoopW.mk ⟨{ k : Nat // k ≤ xs.length ∧ ∀ x ∈ xs.take k, ¬ q x = true },
   fun p => .mk [(0, .v (i.val xs.length)), (1, .v (.func (.func fv) #[] cap)), (7, .v (.int .i64 xs.length)), (8, .v (.int .i64 p.1))] 0 0 [] [] [slo i aL 1 xs, fB true G],
   fun p => xs.length - p.1, ⟨0, Nat.zero_le _, by simp⟩, ?_, ?_⟩
 · exact aC [0, 1] zw2 zw0 zw2 zw5 zw4 rfl rfl
 · rintro ⟨k, hk, he⟩
   refine CaseB.mk (fun h => ?_) (fun h => ?_)
   · have hlt : k < xs.length := by simpa using h
     refine aF aI aA rfl rfl rfl rfl rfl ⟨rfl, rfl⟩ z31 k rfl z37 (fun ad => ?_)
     refine bV0 _ hcl rfl rfl rfl rfl ⟨rfl, rfl⟩ (fun A w hW => hc _ w ⟨hW.get 1 rfl (.refl _), trivial⟩) ?_
     rintro v L ⟨rfl, rfl⟩
     refine CaseB.mk (fun h => ?_) (fun h => ?_)
     · exact aG ⟨(k : Int), rfl, ⟨fun _ => ⟨xs[k], List.getElem_mem hlt, h⟩, fun _ => Int.natCast_nonneg k⟩, rfl⟩ (fun _ => rfl)
     · have hw := oD k _ hlt hb
       refine ⟨⟨k + 1, by omega, fun x hx => ?_⟩, ?_, by simp; omega⟩
       · rw [List.take_succ_eq_append_getElem hlt] at hx
         rcases List.mem_append.1 hx with hx | hx
         · exact he x hx
         · simp at hx; subst hx; simpa using h
       · exact aC [0, 1] zw1 zw0 zw1 zw5 zw3 rfl rfl
   · have hge : xs.length ≤ k := by simpa using h
     rw [List.take_of_length_le hge] at he
     exact aG ⟨-1, rfl, ⟨fun h => by omega, fun ⟨x, hx, hq⟩ => (he x hx hq).elim⟩, rfl⟩ (fun _ => rfl)
theorem vS {fv : FuncId} {cap : Array Value} {G : List Fct} {q : Int → Bool} (hcl : aD Tryz.prog fv = true) (hc : ∀ x w, At w [fB true G] → Calls Tryz.prog fv ([Value.int .i64 x] ++ cap.toList).toArray w (Ret w fun v L => v = .bool (q x) ∧ L = []))
   (i : Sl) (xs : List Int) (w : World) (h : At w [slo i aL 1 xs, fB true G]) (hb : xs.length ≤ 4294967296) :
   Calls Tryz.prog 115 #[i.val xs.length, .func (.func fv) #[] cap] w (gC w (∃ x ∈ xs, q x = true)) := by
 refine cN Tryz.func115 rfl aA w _ rfl _ rfl _ h ⟨rfl, rfl, rfl, rfl, trivial⟩ _ _ (by decide) ?_
 refine aB _ cl147 rfl rfl rfl rfl ⟨rfl, rfl⟩ (fun A w hW => aH0 hcl hc i xs w ⟨hW.get 0 rfl (.refl _), hW.get 1 rfl (.refl _), trivial⟩ hb) ?_
 rintro v L ⟨k, rfl, hk, rfl⟩
 exact aG ⟨_, rfl, by simpa using hk, rfl⟩ (fun _ => rfl)
abbrev xI (g : Nat) (t : Int) : Fct := eK0 g 3 [.int .i64 t]
theorem eO0 (x lo hi : Int) (g1 g2 : Nat) (w : World) (h : At w [fB true [xI g1 lo, xI g2 hi]]) :
   Calls Tryz.prog 116 #[.int .i64 x, .pointer (some ⟨g1, 0, none⟩), .pointer (some ⟨g2, 0, none⟩)] w (Ret w fun v L => v = .bool (decide (x < lo) || decide (hi < x)) ∧ L = []) := by
 have h' : At w [xI g1 lo, xI g2 hi] := ⟨gT0 h.1 (by simp), gT0 h.1 (by simp), trivial⟩
 refine mF Tryz.func116 rfl aA w _ rfl _ rfl _ h' ⟨rfl, rfl, rfl, rfl, trivial⟩ _ _ _ (by decide) ?_
 refine vM 0 aA rfl rfl rfl rfl rfl ⟨rfl, rfl⟩ ?_
 apply CaseB.mk <;> intro g
 · refine aG ⟨?_, rfl⟩ (fun _ => rfl)
   have : x < lo := by simpa using g
   simp [this]
 · refine vM 1 aA rfl rfl rfl rfl rfl ⟨rfl, rfl⟩ ?_
   refine aG ⟨?_, rfl⟩ (fun _ => rfl)
   have : ¬ x < lo := by simpa using g
   simp [this]
theorem rR (i : Sl) (xs : List Int) (lo hi : Int) (w : World) (h : At w [slo i aL 1 xs]) (hb : xs.length ≤ 4294967296) :
   Calls Tryz.prog 83 #[i.val xs.length, .int .i64 lo, .int .i64 hi] w (gC w (gE xs lo hi)) := by
 refine mF Tryz.func83 rfl aA w _ rfl _ rfl _ h ⟨rfl, rfl, trivial⟩ _ _ _ (by decide) ?_
 apply CaseB.mk <;> intro g
 · have hl : xs.length ≤ 3 := by simp at g; omega
   refine aB _ cl115 rfl rfl rfl rfl ⟨rfl, rfl⟩ (fun A w hW => vS (fv := 116) (q := fun x => decide (x < lo) || decide (hi < x)) (G := [xI (A 0) lo, xI (A 1) hi]) cl116 (fun x w h => eO0 x lo hi _ _ w h) i xs w ⟨hW.get 0 rfl (.refl _), mD0 (hW.var rfl rfl) (hW.var rfl rfl), trivial⟩ hb) ?_
   rintro v L ⟨b, rfl, hbb, rfl⟩
   refine aG ⟨_, rfl, ?_, rfl⟩ (fun _ => rfl)
   simp only [Bool.not_eq_true', ← Bool.not_eq_true, hbb, gE]
   constructor
   · intro hn
     refine ⟨hl, fun x hx => ?_⟩
     rcases Int.lt_or_le x lo with h1 | h1
     · exact (hn ⟨x, hx, by simp [h1]⟩).elim
     · rcases Int.lt_or_le hi x with h2 | h2
       · exact (hn ⟨x, hx, by simp [h2]⟩).elim
       · exact ⟨h1, h2⟩
   · rintro ⟨_, hx⟩ ⟨x, hx', hq⟩
     have := hx x hx'
     simp at hq
     omega
 · have hl : ¬ xs.length ≤ 3 := by simp at g; omega
   exact aG ⟨_, rfl, tno fun h => hl h.1, rfl⟩ (fun _ => rfl)
theorem pA (i : Sl) (n : Nat) (o : Op) (g : Nat) (w : World) (h : At w [eK0 g 108 (cOp o)]) :
   Calls Tryz.prog 117 #[i.val n, .pointer (some ⟨g, 0, none⟩)] w (gC w (0 ≤ o.on ∧ o.on < n)) := by
 refine cN Tryz.func117 rfl aA w _ rfl _ rfl _ h ⟨rfl, rfl, trivial⟩ _ _ (by decide) ?_
 refine xD aA rfl rfl rfl rfl ⟨rfl, rfl⟩ ?_
 refine vQ 0 aA rfl rfl rfl rfl rfl ⟨rfl, rfl⟩ ?_
 refine CaseB.mk (fun g1 => ?_) (fun g1 => ?_)
 · refine xD aA rfl rfl rfl rfl ⟨rfl, rfl⟩ ?_
   refine vQ 0 aA rfl rfl rfl rfl rfl ⟨rfl, rfl⟩ ?_
   refine aG ⟨_, rfl, ?_, rfl⟩ (fun _ => rfl)
   have : 0 ≤ o.on := by simpa using g1
   simp [this]
 · have : ¬ 0 ≤ o.on := by simpa using g1
   exact aG ⟨_, rfl, tno fun h => this h.1, rfl⟩ (fun _ => rfl)
structure Chan.Valid (m : Chan) : Prop where
 r0 : 0 ≤ m.room
 r1 : m.room ≤ 4
 it : (m.items.length : Int) ≤ m.room
 iv : ∀ x ∈ m.items, aR x = true
 sv : ∀ l ∈ m.senders, aR l.v = true
 di : aS m.threads = true
 se : m.senders ≠ [] → (m.items.length : Int) = m.room ∧ m.getters = [] ∧ m.closed = false
 ge : m.getters ≠ [] → m.items = [] ∧ m.closed = false
instance (m : Chan) : Decidable m.Valid :=
 decidable_of_iff ((0 ≤ m.room ∧ m.room ≤ 4 ∧ (m.items.length : Int) ≤ m.room) ∧ (∀ x ∈ m.items, aR x = true) ∧ (∀ l ∈ m.senders, aR l.v = true) ∧ aS m.threads = true ∧ (m.senders ≠ [] → (m.items.length : Int) = m.room ∧ m.getters = [] ∧ m.closed = false) ∧ (m.getters ≠ [] → m.items = [] ∧ m.closed = false))
   ⟨fun ⟨⟨a, b, c⟩, d, e, f, g, h⟩ => ⟨a, b, c, d, e, f, g, h⟩, fun ⟨a, b, c, d, e, f, g, h⟩ => ⟨⟨a, b, c⟩, d, e, f, g, h⟩⟩
def Chan.valid (m : Chan) : Bool := decide m.Valid
theorem Chan.invalid {m : Chan} (h : ¬ m.Valid) : Value.bool false = Value.bool m.valid := by rw [Chan.valid, decide_eq_false h]
theorem Chan.isvalid {m : Chan} (h : m.Valid) : Value.bool true = Value.bool m.valid := by rw [Chan.valid, decide_eq_true h]
theorem gZ {α : Type} {p : α → Prop} {xs : List α} {k : Nat} (hk : k < xs.length) (h : ∀ x ∈ xs.take k, p x) (h1 : p xs[k]) : ∀ x ∈ xs.take (k + 1), p x := by
 intro x hx
 rw [List.take_succ_eq_append_getElem hk] at hx
 rcases List.mem_append.1 hx with hx | hx
 · exact h x hx
 · simp at hx; subst hx; exact h1
theorem dQ {α : Type} {xs : List α} : decide ((xs.length : Int) > 0) = true ↔ xs ≠ [] := by
 cases xs <;> simp
theorem jW0 (m : Chan) (i s g : Sl) (w : World) (h : At w [slo i aL 1 m.items, slo s jY 2 m.senders, slo g aL 1 m.getters]) (hb : m.small) :
   Calls Tryz.prog 45 #[kZ m i s g] w (Ret w fun v L => v = .bool m.valid ∧ L = []) := by
 obtain ⟨b1, b2, b3⟩ := hb
 have bT : m.threads.length ≤ 8589934592 := by simp [Chan.threads]; omega
 have hno : ∀ {P : Prop}, ¬ P → (m.Valid → P) → ∀ A, hD A [SV.lit false] = Value.bool m.valid := fun h1 h2 _ => Chan.invalid fun hv => h1 (h2 hv)
 refine bU Tryz.func45 rfl aA w _ rfl _ rfl _ h z112 _ (by decide) ?_
 refine CaseB.mk (fun h1 => ?_) (fun h1 => ?_)
 · exact aG ⟨rfl, rfl⟩ (hno (by simp at h1; omega) Chan.Valid.r0)
 · have r0 : 0 ≤ m.room := by simp at h1; omega
   refine CaseB.mk (fun h2 => ?_) (fun h2 => ?_)
   · exact aG ⟨rfl, rfl⟩ (hno (by simp at h2; omega) Chan.Valid.r1)
   · have r1 : m.room ≤ 4 := by simp at h2; omega
     refine CaseB.mk (fun h3 => ?_) (fun h3 => ?_)
     · exact aG ⟨rfl, rfl⟩ (hno (by simp at h3; omega) Chan.Valid.it)
     · have it : (m.items.length : Int) ≤ m.room := by simp at h3; omega
       refine LoopW.mk ⟨{ k : Nat // k ≤ m.items.length ∧ ∀ x ∈ m.items.take k, aR x = true },
         fun p => .mk [(1, .p 0 0), (24, .v (i.val m.items.length)), (25, .v (.int .i64 m.items.length)), (26, .v (.int .i64 p.1))] 1 0 [(0, 95, 5)] [((0, 0), .v (.int .i64 m.room)), ((0, 1), .v (i.val m.items.length)), ((0, 2), .v (s.val m.senders.length)), ((0, 3), .v (g.val m.getters.length)), ((0, 4), .v (.bool m.closed))] [slo i aL 1 m.items, slo s jY 2 m.senders, slo g aL 1 m.getters],
         fun p => m.items.length - p.1, ⟨0, Nat.zero_le _, by simp⟩, ?_, ?_⟩
       · exact aC [0, 1, 2] zw2 zw0 zw2 zw5 zw4 rfl rfl
       · rintro ⟨k, hk, ha⟩
         refine CaseB.mk (fun h => ?_) (fun h => ?_)
         · have hlt : k < m.items.length := by simpa using h
           refine aF aI aA rfl rfl rfl rfl rfl ⟨rfl, rfl⟩ z31 k rfl z37 (fun ad => ?_)
           refine aB _ aB0 rfl rfl rfl rfl ⟨rfl, rfl⟩ (fun A w hW => iC _ w) ?_
           rintro v L ⟨rfl, rfl⟩
           refine CaseB.mk (fun h => ?_) (fun h => ?_)
           · exact aG ⟨rfl, rfl⟩ (hno z83 (fun hv => hv.iv _ (List.getElem_mem hlt)))
           · have hw := oD k _ hlt b1
             refine ⟨⟨k + 1, by omega, gZ hlt ha z83⟩, ?_, by simp; omega⟩
             exact aC [0, 1, 2] zw1 zw0 zw1 zw5 zw3 rfl rfl
         · have hge : m.items.length ≤ k := by simpa using h
           rw [List.take_of_length_le hge] at ha
           refine LoopW.mk ⟨{ k : Nat // k ≤ m.senders.length ∧ ∀ x ∈ m.senders.take k, aR x.v = true },
             fun p => .mk [(1, .p 0 0), (35, .v (s.val m.senders.length)), (36, .v (.int .i64 m.senders.length)), (37, .v (.int .i64 p.1))] 1 0 [(0, 95, 5)] [((0, 0), .v (.int .i64 m.room)), ((0, 1), .v (i.val m.items.length)), ((0, 2), .v (s.val m.senders.length)), ((0, 3), .v (g.val m.getters.length)), ((0, 4), .v (.bool m.closed))] [slo i aL 1 m.items, slo s jY 2 m.senders, slo g aL 1 m.getters],
             fun p => m.senders.length - p.1, ⟨0, Nat.zero_le _, by simp⟩, ?_, ?_⟩
           · exact aC [0, 1, 2] zw2 zw0 zw2 zw5 zw4 rfl rfl
           · rintro ⟨k, hk, hs⟩
             refine CaseB.mk (fun h => ?_) (fun h => ?_)
             · have hlt : k < m.senders.length := by simpa using h
               refine aF jZ aA rfl rfl rfl rfl rfl ⟨rfl, rfl⟩ z31 k rfl z37 (fun ad => ?_)
               refine aB _ aB0 rfl rfl rfl rfl ⟨rfl, rfl⟩ (fun A w hW => iC _ w) ?_
               rintro v L ⟨rfl, rfl⟩
               refine CaseB.mk (fun h => ?_) (fun h => ?_)
               · exact aG ⟨rfl, rfl⟩ (hno z83 (fun hv => hv.sv _ (List.getElem_mem hlt)))
               · have hw := oD k _ hlt b2
                 refine ⟨⟨k + 1, by omega, gZ (p := fun l : Letter => aR l.v = true) hlt hs z83⟩, ?_, by simp; omega⟩
                 exact aC [0, 1, 2] zw1 zw0 zw1 zw5 zw3 rfl rfl
             · have hge : m.senders.length ≤ k := by simpa using h
               rw [List.take_of_length_le hge] at hs
               refine aB _ cl86 rfl rfl rfl rfl ⟨rfl, rfl⟩ (fun A w hW => eH0 m i s g w ⟨z30, z30, z30, trivial⟩ ⟨b1, b2, b3⟩) ?_
               rintro v L ⟨y, rfl, rfl⟩
               refine aB _ gI0 rfl rfl rfl rfl ⟨rfl, rfl⟩ (fun A w hW => eO y m.threads w ⟨z30, trivial⟩ bT) ?_
               rintro v L ⟨rfl, rfl⟩
               refine CaseB.mk (fun h => ?_) (fun h => ?_)
               · exact aG ⟨rfl, rfl⟩ (hno z83 Chan.Valid.di)
               · have hd : aS m.threads = true := by simpa using h
                 have fin : (m.senders ≠ [] → (m.items.length : Int) = m.room ∧ m.getters = [] ∧ m.closed = false) → (m.getters ≠ [] → m.items = [] ∧ m.closed = false) → m.Valid := fun x y => ⟨r0, r1, it, ha, hs, hd, x, y⟩
                 refine CaseB.mk (fun q1 => ?_) (fun q1 => ?_)
                 · have hs1 : m.senders ≠ [] := dQ.1 q1
                   refine CaseB.mk (fun q2 => ?_) (fun q2 => ?_)
                   · exact aG ⟨rfl, rfl⟩ (fun _ => Chan.invalid (fun hv => by have := (hv.se hs1).1; simp at q2; omega))
                   · have e2 : (m.items.length : Int) = m.room := by simpa using q2
                     refine CaseB.mk (fun q3 => ?_) (fun q3 => ?_)
                     · exact aG ⟨rfl, rfl⟩ (fun _ => Chan.invalid (fun hv => dQ.1 q3 (hv.se hs1).2.1))
                     · have e3 : m.getters = [] := by
                         cases hg : m.getters with
                         | nil => rfl
                         | cons a r => rw [hg] at q3; simp at q3
                       refine CaseB.mk (fun q4 => ?_) (fun q4 => ?_)
                       · exact aG ⟨rfl, rfl⟩ (fun _ => Chan.invalid (fun hv => by have := (hv.se hs1).2.2; rw [q4] at this; cases this))
                       · have hS : m.senders ≠ [] → (m.items.length : Int) = m.room ∧ m.getters = [] ∧ m.closed = false := fun _ => ⟨e2, e3, q4⟩
                         refine CaseB.mk (fun q5 => ?_) (fun q5 => ?_)
                         · have hg : m.getters = [] := by simpa using q5
                           exact aG ⟨rfl, rfl⟩ (fun _ => Chan.isvalid (fin hS (fun hn => absurd hg hn)))
                         · have hg : m.getters ≠ [] := by simpa using q5
                           refine CaseB.mk (fun q6 => ?_) (fun q6 => ?_)
                           · have hi : m.items = [] := by simpa using q6
                             refine aG ⟨rfl, rfl⟩ (fun _ => ?_)
                             show Value.bool (!m.closed) = _
                             cases hc : m.closed with
                             | false => exact Chan.isvalid (fin hS (fun _ => ⟨hi, hc⟩))
                             | true => exact Chan.invalid (fun hv => by have := (hv.ge hg).2; rw [hc] at this; cases this)
                           · have hi : m.items ≠ [] := by simpa using q6
                             exact aG ⟨rfl, rfl⟩ (fun _ => Chan.invalid (fun hv => hi (hv.ge hg).1))
                 · have hs1 : m.senders = [] := by
                     cases hg : m.senders with
                     | nil => rfl
                     | cons a r => rw [hg] at q1; simp at q1
                   have hS : m.senders ≠ [] → (m.items.length : Int) = m.room ∧ m.getters = [] ∧ m.closed = false := fun hn => absurd hs1 hn
                   refine CaseB.mk (fun q5 => ?_) (fun q5 => ?_)
                   · have hg : m.getters = [] := by simpa using q5
                     exact aG ⟨rfl, rfl⟩ (fun _ => Chan.isvalid (fin hS (fun hn => absurd hg hn)))
                   · have hg : m.getters ≠ [] := by simpa using q5
                     refine CaseB.mk (fun q6 => ?_) (fun q6 => ?_)
                     · have hi : m.items = [] := by simpa using q6
                       refine aG ⟨rfl, rfl⟩ (fun _ => ?_)
                       show Value.bool (!m.closed) = _
                       cases hc : m.closed with
                       | false => exact Chan.isvalid (fin hS (fun _ => ⟨hi, hc⟩))
                       | true => exact Chan.invalid (fun hv => by have := (hv.ge hg).2; rw [hc] at this; cases this)
                     · have hi : m.items ≠ [] := by simpa using q6
                       exact aG ⟨rfl, rfl⟩ (fun _ => Chan.invalid (fun hv => hi (hv.ge hg).1))
end Go.Proofs.YtchkcjeeknfchaaGreatDoor
