/- THE FRAMEWORK 'Sx', PART 17: function values, variables that are captured; rows written in regions that draw; delete in place, clear. No project text. -/
import Derived.Test.YtpopeaoklccgcaaSxp
namespace Go.Sx
open Go Go.RowKit

theorem blk_st (g : Nat) (ty : TypeId) (cs : List Value) (w w' : World) (hb : ∀ b, b = g → w'.heap[b]? = w.heap[b]?) : Blk w g ty cs → Blk w' g ty cs := fun h => by
  unfold Blk at *
  rw [hb g rfl]; exact h
/-- Block g is the variable of type ty with these cells: nobody writes it meanwhile. -/
abbrev fVar (g : Nat) (ty : TypeId) (cs : List Value) : Fct := .other true false (fun b => b = g) (fun w => Blk w g ty cs) (blk_st g ty cs)

theorem cut0 (i : Sl) (sz : Nat) : i.cut 0 sz = i := by
  obtain ⟨a, c⟩ := i
  simp only [Sl.cut, Nat.zero_mul, Nat.sub_zero]
  congr 1
  split
  · rfl
  · cases a with
    | none => rfl
    | some ad => simp [Addr.add]

section
variable {E : Env} {ti : Nat → TI} {A : Nat → Nat} {T : List (Nat × SV)} {n c : Nat} {B : List (Nat × TypeId × Nat)} {M Ms : List ((Nat × Nat) × SV)} {F Fs : List Fct} {o : Oper} {next : St → Prop} {a : Act} {w w' : World}

theorem WD.var (h : WD E A n B M F w) {k ty sz : Nat} {cs : List Value} (hB : lookBT B k = some (ty, sz)) (hM : loadN M k 0 sz = some cs) : (fVar (A k) ty cs).P w ∧ ∀ b, (fVar (A k) ty cs).foot b → b < w.heap.size :=
  ⟨(h.blk (lookBT_mem hB) hM).1, fun b hb => by
    obtain rfl : b = A k := hb
    exact (h.key k ty sz (lookBT_mem hB)).2.1⟩
theorem WD.varAt (h : WD E A n B M F w) (j : Nat) {g ty : Nat} {cs : List Value} (hi : F[j]? = some (fVar g ty cs)) : (fVar g ty cs).P w ∧ ∀ b, (fVar g ty cs).foot b → b < w.heap.size := h.nth j hi

/-- Rows that are handed over, and a variable that the callee's function value captures. -/
theorem WD.atGV (h : WD E A n B M F w) (ix : List Nat) {G : List Fct} (hG : FK F ix G) (hix : nodupB ix = true) (hok : grantOk G) {k ty sz : Nat} {cs : List Value} (hB : lookBT B k = some (ty, sz)) (hM : loadN M k 0 sz = some cs) : AtG w G [fVar (A k) ty cs] := by
  have hg := h.atG ix hG hix hok [] (Fo := []) trivial rfl
  have hv := h.var hB hM
  have hat : ∀ L : List Fct, At w L → At w (L ++ [fVar (A k) ty cs]) := fun L => by
    induction L with
    | nil => intro _; exact ⟨hv, trivial⟩
    | cons f r ih => intro hl; exact ⟨hl.1, ih hl.2⟩
  have h1 := hg.at_
  have h2 := hg.dj
  rw [List.append_nil] at h1 h2
  refine ⟨hat G h1, hok, ?_⟩
  rw [List.pairwise_append]
  refine ⟨h2, List.pairwise_singleton _ _, fun f hf g hgm => ?_⟩
  simp only [List.mem_singleton] at hgm
  subst hgm
  intro _ b hb (e : b = A k)
  obtain ⟨i, _, hi⟩ := FK_at hG f hf
  exact ((h.fct _ (List.mem_of_getElem? hi)).2.1 b hb).2 k ty sz (lookBT_mem hB) e.symm

/-- A call of a function value that came in. -/
theorem stop_callV (R : Value → List Fct → Prop) {k : Call} {fo : Operand} {g : FuncId} {cap : Array Value} {l : List SV} {d : Nat} (hc : callable E.P g = true)
    (hop : o.op = .call k) (hk : k.callee = .value fo) (hf : evalO T fo = some (.v (.func (.func g) #[] cap))) (ha : evalOs T k.args.toList = some l) (hd : Dst E o d)
    (hcall : ∀ A w, WD E A n B M F w → Calls E.P g ((l.map (SV.den A)) ++ cap.toList).toArray w (Ret w R))
    (hnext : ∀ v L, R v L → next (.mk ((d, .v v) :: T) n (c + 1) B M (L ++ F))) :
    OpW (opStop E o next T n c B M F) := by
  refine ⟨fun A a w hW hT => ?_⟩
  have hargs : (k.args.map a.eval).toList = l.map (SV.den A) := by rw [Array.toList_map]; exact evalOs_sound hT ha
  have hfv := (evalO_sound hT hf).1
  have hr : (execOp a.eval o).run E.P w = .ok (.enter g ((l.map (SV.den A)) ++ cap.toList).toArray) w := by
    have hcat : (k.args.map a.eval) ++ cap = ((l.map (SV.den A)) ++ cap.toList).toArray := by
      apply Array.ext'; rw [Array.toList_append, hargs]
    simp only [execOp, hop, resolve, hk, Sem.run_bind, hfv, SV.den, Deferred.ofValue, Sem.run_pure, Result.andThen_ok, Array.empty_append, invoke, hcat, run_callFunc hc]
  unfold Oper.wp
  rw [hr, Oper.upon_enter]
  refine (hcall A w hW).mono ?_
  rintro e w' ⟨v, L, rfl, he, hL, hR⟩
  refine ⟨_, ⟨_, hW.learn he hL, ?_⟩, hnext v L hR⟩
  rw [hd.1]
  exact (hT.step w').put (v := .v v) hd.lt trivial
/-- A load of a variable that a fact knows. -/
theorem stop_loadV (k1 : Nat) {t ty : TypeId} {x : Operand} {g d : Nat} {cs : List Value} {v : Value} {size : Nat} {zero : List Value} {fs : List (Nat × Nat × Bool)} {el : Option TypeId} {ik : Option IntKind} {kk bytes : Nat}
    (hti : ∀ t, TIok E.P t (ti t)) (hop : o.op = .load t x) (hx : evalO T x = some (.v (.pointer (some ⟨g, 0, none⟩)))) (ht : ti t = .mk false size zero fs el ik kk bytes) (hF : F[k1]? = some (fVar g ty cs)) (hv : cs[0]? = some v) (hd : Dst E o d)
    (hnext : next (.mk ((d, .v v) :: T) n c B M F)) : OpW (opStop E o next T n c B M F) := by
  refine ⟨fun A a w hW hT => ?_⟩
  have htt := hti t
  rw [ht] at htt
  obtain ⟨ii, dd, z, e1, e2, e3, e4, e5, e6, e7, e8, e9, e10, e11⟩ := tiSum_parts htt
  have hx' : a.eval x = .pointer (some ⟨g, 0, none⟩) := (evalO_sound hT hx).1
  have hb : Blk w g ty cs := (hW.nth k1 hF).1
  have hc : w.cell? ⟨g, 0, none⟩ = some v := by
    rw [cell_of_row _ _ _ _ _ _ hb]
    show cs.toArray[0]? = some v
    simpa using hv
  have hr : (execOp a.eval o).run E.P w = .ok (.value v) w := by
    simp [execOp, hop, hx', Instr.loadAt, Instr.sureAddr, run_loadVar_one (w := w) e2 e3 _ _ hc]
  refine upon_of_value hr ?_
  rw [hd.1]
  exact ⟨_, ⟨_, hW, hT.put (v := .v v) hd.lt trivial⟩, hnext⟩

/-- What an own row tells of its header. -/
theorem draw_own {id : Nat} {ops : Array Oper} {K : St → Prop} (k1 : Nat) {i : Sl} {e sz q : Nat} {cs : List Value} (hF : F[k1]? = some (fOwn false i e sz cs q)) (h0 : 0 < q)
    (h : ∀ g, i.a = some ⟨g, 0, none⟩ → q ≤ i.c → i.c ≤ maxLen → DrawW (∀ a w, Den E (.mk T n c B M F) a w → (Code.region id ops true).wp E.P (postD E K) a w)) :
    DrawW (∀ a w, Den E (.mk T n c B M F) a w → (Code.region id ops true).wp E.P (postD E K) a w) := by
  refine ⟨fun a w hd => ?_⟩
  obtain ⟨A, hW, hT⟩ := hd
  rcases own_cases (hW.nth k1 hF).1 with ⟨_, h2, _⟩ | ⟨g, cur, h2, _, h3, h4, _⟩
  · omega
  · exact (h g h2 h3 h4).out a w ⟨A, hW, hT⟩
theorem stop_own (k1 : Nat) {i : Sl} {e sz q : Nat} {cs : List Value} (hF : F[k1]? = some (fOwn false i e sz cs q)) (h0 : 0 < q)
    (h : ∀ g, i.a = some ⟨g, 0, none⟩ → q ≤ i.c → i.c ≤ maxLen → OpW (opStop E o next T n c B M F)) : OpW (opStop E o next T n c B M F) := by
  refine ⟨fun A a w hW hT => ?_⟩
  rcases own_cases (hW.nth k1 hF).1 with ⟨_, h2, _⟩ | ⟨g, cur, h2, _, h3, h4, _⟩
  · omega
  · exact (h g h2 h3 h4).out A a w hW hT

/-- An index, the header's address known, in a region that draws. -/
theorem d_idxP {t e : TypeId} {x ix : Operand} {i : Sl} {m0 sz : Nat} {kd : IntKind} {m : Int} {d g : Nat} {agg : Bool} {size : Nat} {zero : List Value} {fs : List (Nat × Nat × Bool)} {ik : Option IntKind} {kk bytes : Nat} {agg2 : Bool} {zero2 : List Value} {fs2 : List (Nat × Nat × Bool)} {el2 : Option TypeId} {ik2 : Option IntKind} {kk2 bytes2 : Nat}
    (hti : ∀ t, TIok E.P t (ti t)) (hop : o.op = .indexAddr t x ix) (hx : evalO T x = some (.v (i.val m0))) (hix : evalO T ix = some (.v (.int kd m)))
    (ht : ti t = .mk agg size zero fs (some e) ik kk bytes) (hte : ti e = .mk agg2 sz zero2 fs2 el2 ik2 kk2 bytes2) (hd : Dst E o d) (hi : i.a = some ⟨g, 0, none⟩) (j : Nat) (hj : m = (j : Int)) (hlt : j < m0) {n0 : Nat} {B0 : List (Nat × TypeId × Nat)}
    (hnext : next (.mk ((d, .v (.pointer (some ⟨g, j * sz, none⟩))) :: T) n c B M F)) :
    OpW (∀ A, ∃ s : SV, (∀ a w, WD E A n0 B0 Ms Fs w → TD E A T n c a w → (execOp a.eval o).run E.P w = .ok (.value (s.den A)) w ∧ s.okT n c w) ∧ (∃ d, Dst E o d ∧ next (.mk ((d, s) :: T) n c B M F))) := by
  refine ⟨fun A => ⟨.v (.pointer (some ⟨g, j * sz, none⟩)), fun a w hW hT => ⟨?_, trivial⟩, d, hd, hnext⟩⟩
  have htt := hti t
  rw [ht] at htt
  obtain ⟨ii, dd, z, e1, e2, e3, e4, e5, e6, e7, e8, e9, e10, e11⟩ := tiSum_parts htt
  have htt2 := hti e
  rw [hte] at htt2
  obtain ⟨ii2, dd2, z2, k1, k2, k3, k4, k5, k6, k7, k8, k9, k10, k11⟩ := tiSum_parts htt2
  have hdd := el_slice e8
  subst hj
  have hx' : a.eval x = .slice (some ⟨g, 0, none⟩) m0 i.c := by rw [(evalO_sound hT hx).1]; simp [SV.den, Sl.val, hi]
  have hix' : a.eval ix = .int kd j := (evalO_sound hT hix).1
  simp [execOp, hop, Instr.indexAt, hx', hix', asIntOf, underlying, e2, hdd, run_sizeOf k1, k4, hlt, SV.den]
  unfold Addr.add
  split <;> simp_all
/-- A slice of a slice, its capacity known, in a region that draws. -/
theorem d_cutP {t e : TypeId} {x : Operand} {lo hi : Option Operand} {i : Sl} {k : Nat} {ml mh : Int} {sz : Nat} {d : Nat} {agg : Bool} {size : Nat} {zero : List Value} {fs : List (Nat × Nat × Bool)} {ik : Option IntKind} {kk bytes : Nat} {agg2 : Bool} {zero2 : List Value} {fs2 : List (Nat × Nat × Bool)} {el2 : Option TypeId} {ik2 : Option IntKind} {kk2 bytes2 : Nat}
    (hti : ∀ t, TIok E.P t (ti t)) (hop : o.op = .slice t x lo hi none) (hx : evalO T x = some (.v (i.val k)))
    (ht : ti t = .mk agg size zero fs (some e) ik kk bytes) (hte : ti e = .mk agg2 sz zero2 fs2 el2 ik2 kk2 bytes2) (hd : Dst E o d)
    (hlo : bndV T 0 lo = some ml) (hhi : bndV T (k : Int) hi = some mh) (hcp : k ≤ i.c)
    (l h m : Nat) (el : ml = (l : Int)) (eh : mh = (h : Int)) (h1 : l ≤ h) (h2 : h ≤ k) (hm : m = h - l) {n0 : Nat} {B0 : List (Nat × TypeId × Nat)}
    (hnext : next (.mk ((d, .v ((i.cut l sz).val m)) :: T) n c B M F)) :
    OpW (∀ A, ∃ s : SV, (∀ a w, WD E A n0 B0 Ms Fs w → TD E A T n c a w → (execOp a.eval o).run E.P w = .ok (.value (s.den A)) w ∧ s.okT n c w) ∧ (∃ d, Dst E o d ∧ next (.mk ((d, s) :: T) n c B M F))) := by
  subst hm
  exact ⟨fun A => ⟨.v ((i.cut l sz).val (h - l)), fun a w hW hT => ⟨cut_run hti hT hop hx ht hte hlo hhi el eh h1 h2 hcp, trivial⟩, d, hd, hnext⟩⟩
/-- A load out of an own row, in a region that draws. -/
theorem d_loadW {α : Type} {enc : α → List Value} {sz : Nat} (he : Enc enc sz) (k1 : Nat) {xs : List α} {i : Sl} {t e : TypeId} {x : Operand} {g ad d : Nat} {v : Value} {size : Nat} {zero : List Value} {fs : List (Nat × Nat × Bool)} {el : Option TypeId} {ik : Option IntKind} {kk bytes : Nat}
    (hti : ∀ t, TIok E.P t (ti t)) (hop : o.op = .load t x) (hx : evalO T x = some (.v (.pointer (some ⟨g, ad, none⟩)))) (ht : ti t = .mk false size zero fs el ik kk bytes) (hd : Dst E o d)
    (hF : F[k1]? = some (own i e enc sz xs)) (hi : i.a = some ⟨g, 0, none⟩) (j off : Nat) (had : ad = j * sz + off) (hj : j < xs.length) (hv : (enc xs[j])[off]? = some v)
    (hnext : next (.mk ((d, .v v) :: T) n (c + 1) B M F)) : OpW (opD E o Ms Fs next T n c B M F) := by
  refine ⟨opD0.up fun hkf A a w hW hT => ?_⟩
  have htt := hti t
  rw [ht] at htt
  obtain ⟨ii, dd, z, e1, e2, e3, e4, e5, e6, e7, e8, e9, e10, e11⟩ := tiSum_parts htt
  have hx' : a.eval x = .pointer (some ⟨g, ad, none⟩) := (evalO_sound hT hx).1
  have hrd := own_rd (hW.nth k1 hF).1
  obtain ⟨ad0, h1, h2⟩ := hrd.2.2.2 (by omega)
  rw [hi] at h1
  injection h1 with h1
  subst h1
  subst had
  have hc : w.cell? ⟨g, j * sz + off, none⟩ = some v := by
    have := h2 _ _ (cells_at he hj hv)
    have ha : (⟨g, 0, none⟩ : Addr).add (j * sz + off) = ⟨g, j * sz + off, none⟩ := by unfold Addr.add; split <;> simp_all
    rwa [ha] at this
  have hr : (execOp a.eval o).run E.P w = .ok (.value v) w := by
    simp [execOp, hop, hx', Instr.loadAt, Instr.sureAddr, run_loadVar_one (w := w) e2 e3 _ _ hc]
  refine upon_of_value hr ?_
  rw [hd.1]
  exact ⟨_, _, F, hW, fun w2 => (hT.step w2).put (v := .v v) hd.lt trivial, hkf, hnext⟩
/-- A store into an own row, in a region that draws. -/
theorem d_storeW {α : Type} {enc : α → List Value} {sz : Nat} (he : Enc enc sz) (k1 : Nat) {xs : List α} {i : Sl} {t e : TypeId} {x y : Operand} {g ad : Nat} {s : SV} {l : List SV} {sz2 : Nat} {agg : Bool} {zero : List Value} {fs : List (Nat × Nat × Bool)} {el : Option TypeId} {ik : Option IntKind} {kk bytes : Nat}
    (hti : ∀ t, TIok E.P t (ti t)) (hop : o.op = .store t x y) (hd : o.dst = none) (hx : evalO T x = some (.v (.pointer (some ⟨g, ad, none⟩)))) (hy : evalO T y = some s) (hl : cellsSV s = some l) (ht : ti t = .mk agg sz2 zero fs el ik kk bytes) (hlen : listLen l = sz2)
    (hF : F[k1]? = some (own i e enc sz xs)) (hi : i.a = some ⟨g, 0, none⟩) (j off : Nat) (y0 : α) (had : ad = j * sz + off) (hj : j < xs.length) (hle : Nat.ble (off + sz2) sz = true) (vs : List Value) (hvs : ∀ A, l.map (SV.den A) = vs)
    (hy0 : enc y0 = (enc xs[j]).take off ++ vs ++ (enc xs[j]).drop (off + vs.length)) (hkeep : keepF Fs F → keepF Fs (F.eraseIdx k1))
    (hnext : next (.mk T n (c + 1) B M (own i e enc sz (xs.set j y0) :: F.eraseIdx k1))) : OpW (opD E o Ms Fs next T n c B M F) := by
  refine ⟨opD0.up fun hkf A a w hW hT => ?_⟩
  have hown := (hW.nth k1 hF).1
  have htt := hti t
  rw [ht] at htt
  obtain ⟨ii, dd, z, e1, e2, e3, e4, e5, e6, e7, e8, e9, e10, e11⟩ := tiSum_parts htt
  obtain ⟨h1, h2⟩ := evalO_sound hT hy
  have h3 : a.eval x = .pointer (some ⟨g, ad, none⟩) := (evalO_sound hT hx).1
  obtain ⟨c1, c2, c3⟩ := cellsSV_spec (A := A) hl h2
  rw [hvs A] at c1
  have hvl : vs.length = sz2 := by rw [← hvs A, List.length_map, ← listLen_eq]; exact hlen
  have hle' := Nat.le_of_ble_eq_true hle
  have hjs : (j + 1) * sz ≤ xs.length * sz := Nat.mul_le_mul_right _ hj
  rw [Nat.succ_mul] at hjs
  subst had
  obtain ⟨w', hrun, hX, hnew⟩ := own_store (P := E.P) (w := w) (off := j * sz + off) (vs := vs) hown hi (by omega) (fun v hv => by
    rw [← hvs A] at hv
    obtain ⟨q, hq, rfl⟩ := List.mem_map.1 hv
    exact c3 q hq)
  rw [← cells_set he hj (by omega) hy0] at hnew
  have hr : (execOp a.eval o).run E.P w = .ok .skip w' := by
    have hcs : (s.den A).cells.size = ii.size := by
      have : (s.den A).cells.toList.length = vs.length := by rw [c1]
      simp at this
      rw [this, hvl, e4]
    simp only [execOp, hop, Instr.storeAt, h1, h3, Instr.sureAddr, Sem.run_bind, Sem.run_pure, Result.andThen_ok, storeVar, run_sizeOf e1]
    rw [if_neg (by simp [hcs]), c1]
    simp only [Result.andThen_ok, hrun]
  refine upon_of_skip hr ?_
  rw [hd]
  refine ⟨_, _, _, ?_, fun w2 => hT.step w2, fun f hf => List.mem_cons_of_mem _ (hkeep hkf f hf), hnext⟩
  show WD E A n B M (fOwn false i e sz (cells enc (xs.set j y0)) (xs.set j y0).length :: F.eraseIdx k1) w'
  have hlen' : (xs.set j y0).length = xs.length := by simp
  rw [hlen']
  exact hW.turnX hF hi hX hnew

theorem own_prefix {i : Sl} {e sz p q : Nat} {cs : List Value} (h : w.ownsRow 0 e sz (i.val p) p cs) {g : Nat} (hi : i.a = some ⟨g, 0, none⟩) (hq : q ≤ p) : w.ownsRow 0 e sz (i.val q) q (cs.take (q * sz)) := by
  rcases own_cases h with ⟨h2, _⟩ | ⟨g', cur, h2, h3, h4, h5, h6, h7⟩
  · rw [hi] at h2; cases h2
  · have hqs : q * sz ≤ p * sz := Nat.mul_le_mul_right _ hq
    refine ⟨by rw [List.length_take, h.1]; omega, .inr ⟨g', i.c, cur, by simp only [Sl.val, h2], Nat.zero_le _, h3, by omega, h5, h6, ?_⟩⟩
    rw [← h7, List.take_take]
    congr 1
    omega
/-- append(s[:p], s[j:]..) onto itself, in a region that draws. -/
theorem d_appIn {α : Type} {enc : α → List Value} {sz : Nat} (he : Enc enc sz) (k1 : Nat) {xs : List α} {i : Sl} {k : Call} {t e : TypeId} {x y : Operand} {d g : Nat} {agg : Bool} {size : Nat} {zero : List Value} {fs : List (Nat × Nat × Bool)} {ik : Option IntKind} {kk bytes : Nat} {agg2 : Bool} {zero2 : List Value} {fs2 : List (Nat × Nat × Bool)} {el2 : Option TypeId} {ik2 : Option IntKind} {kk2 bytes2 : Nat}
    (hti : ∀ t, TIok E.P t (ti t)) (hop : o.op = .call k) (hk : k.callee = .builtin .append) (ha : k.args.toList = [x, y]) (hty : k.argTypes.toList = [t, t]) (p j q : Nat)
    (hx : evalO T x = some (.v ((i.cut 0 sz).val p))) (hy : evalO T y = some (.v ((i.cut j sz).val q)))
    (ht : ti t = .mk agg size zero fs (some e) ik kk bytes) (hte : ti e = .mk agg2 sz zero2 fs2 el2 ik2 kk2 bytes2) (hd : Dst E o d)
    (hF1 : F[k1]? = some (own i e enc sz xs)) (hi : i.a = some ⟨g, 0, none⟩) (hp : p ≤ j) (hj : j + q = xs.length)
    (hkeep : keepF Fs F → keepF Fs (F.eraseIdx k1)) (hnext : next (.mk ((d, .v (i.val (p + q))) :: T) n (c + 1) B M (own i e enc sz (xs.take p ++ xs.drop j) :: F.eraseIdx k1))) :
    OpW (opD E o Ms Fs next T n c B M F) := by
  refine ⟨opD0.up fun hkf A a w hW hT => ?_⟩
  have htt := hti t
  rw [ht] at htt
  obtain ⟨ii, dd, z, e1, e2, e3, e4, e5, e6, e7, e8, e9, e10, e11⟩ := tiSum_parts htt
  have htt2 := hti e
  rw [hte] at htt2
  obtain ⟨ii2, dd2, z2, g1, g2, g3, g4, g5, g6, g7, g8, g9, g10, g11⟩ := tiSum_parts htt2
  have hdd := el_slice e8
  have hown := (hW.nth k1 hF1).1
  have hrd := own_rd hown
  have hpre := own_prefix (q := p) hown hi (by omega)
  rw [← cells_take he] at hpre
  obtain ⟨ay, hay, hcell⟩ : ∃ ay, (i.cut j sz).a = some ay ∧ ∀ r u, (cells enc (xs.drop j))[r]? = some u → w.cell? (ay.add r) = some u := by
    rcases Nat.eq_zero_or_pos q with hq | hq
    · have hdj : xs.drop j = [] := List.drop_of_length_le (by omega)
      simp only [Sl.cut, hi]
      split
      · exact ⟨_, rfl, fun r u hu => by rw [hdj] at hu; simp [cells] at hu⟩
      · exact ⟨_, rfl, fun r u hu => by rw [hdj] at hu; simp [cells] at hu⟩
    · have hcp := hrd.2.1
      obtain ⟨ad0, h1, h2⟩ := hrd.2.2.2 (by omega)
      rw [hi] at h1
      injection h1 with h1
      subst h1
      refine ⟨(⟨g, 0, none⟩ : Addr).add (j * sz), by simp only [Sl.cut, hi]; rw [if_neg (by omega)]; rfl, fun r u hu => ?_⟩
      rw [cells_drop he, List.getElem?_drop] at hu
      rw [addr_add_add]
      exact h2 _ _ hu
  have hcp := hrd.2.1
  have hpre' : w.ownsRow 0 e sz (.slice (some ⟨g, 0, none⟩) p i.c) p (cells enc (xs.take p)) := by
    have := hpre
    simp only [Sl.val, hi] at this
    exact this
  obtain ⟨w', h1, h2, h3⟩ := run_append_fits (P := E.P) w 0 t o.type e ii2 sz (by rw [e2, hdd]) g1 g4 g p i.c _ hpre' ay q (i.cut j sz).c (cells enc (xs.drop j)) (by rw [cells_length he, List.length_drop]; congr 1; omega) hcell (cells_one he _) (by omega)
  have hr : (execOp a.eval o).run E.P w = .ok (.value (i.val (p + q))) w' := by
    have hargs : k.args = #[x, y] := by apply Array.ext'; simpa using ha
    have htys : k.argTypes = #[t, t] := by apply Array.ext'; simpa using hty
    have hx' : a.eval x = .slice (some ⟨g, 0, none⟩) p i.c := by rw [(evalO_sound hT hx).1, cut0]; simp [SV.den, Sl.val, hi]
    have hy' : a.eval y = .slice (some ay) q (i.cut j sz).c := by rw [(evalO_sound hT hy).1]; simp [SV.den, Sl.val, hay]
    simp only [execOp, hop, resolve, hk, hargs, htys, Sem.run_bind, Sem.run_pure, Result.andThen_ok, invoke, builtin, List.map_toArray, List.map_cons, List.map_nil, hx', hy', h1]
    simp only [Sl.val, hi]
  refine upon_of_value hr ?_
  rw [hd.1]
  refine ⟨_, _, _, ?_, fun w2 => (hT.step w2).put (v := .v (i.val (p + q))) hd.lt trivial, fun f hf => List.mem_cons_of_mem _ (hkeep hkf f hf), hnext⟩
  have hX : ExtX (fun b => b = g) w w' := ExtX.grown h3 (fun g' hg => by injection hg with hg; exact hg.symm)
  have h2' : w'.ownsRow 0 e sz (i.val (p + q)) (p + q) (cells enc (xs.take p ++ xs.drop j)) := by
    rw [cells_append]; simp only [Sl.val, hi]; exact h2
  have hl : (xs.take p ++ xs.drop j).length = p + q := by simp; omega
  show WD E A n B M (fOwn false i e sz (cells enc (xs.take p ++ xs.drop j)) (xs.take p ++ xs.drop j).length :: F.eraseIdx k1) w'
  rw [hl]
  exact hW.turnX hF1 hi hX h2'

theorem run_cut2 {P : Program} {t e : TypeId} {ie : TypeInfo} (ht : P.underlying t = some (.slice e)) (hi : P.info? e = some ie) (i : Sl) (k l h : Nat) (lo hi' : Option Value) (hlo : (lo = none ∧ l = 0) ∨ ∃ kd, lo = some (.int kd (l : Int))) (hhi : (hi' = none ∧ h = k) ∨ ∃ kd, hi' = some (.int kd (h : Int))) (h1 : l ≤ h) (h3 : h ≤ i.c) (h4 : k ≤ i.c) :
    (Instr.sliceAt t (i.val k) lo hi' none).run P w = .ok ((i.cut l ie.size).val (h - l)) w := by
  rcases hlo with ⟨rfl, rfl⟩ | ⟨kd, rfl⟩ <;> rcases hhi with ⟨rfl, rfl⟩ | ⟨kd2, rfl⟩ <;>
    simp [Instr.sliceAt, Instr.slice, underlying, ht, Sl.val, Instr.sliceBounds, run_sliceBound, run_sizeOf hi, Sl.cut, h1, h3]
/-- A slice of a slice up to its capacity. -/
theorem stop_cut2 {t e : TypeId} {x : Operand} {lo hi : Option Operand} {i : Sl} {k : Nat} {ml mh : Int} {sz : Nat} {d : Nat} {agg : Bool} {size : Nat} {zero : List Value} {fs : List (Nat × Nat × Bool)} {ik : Option IntKind} {kk bytes : Nat} {agg2 : Bool} {zero2 : List Value} {fs2 : List (Nat × Nat × Bool)} {el2 : Option TypeId} {ik2 : Option IntKind} {kk2 bytes2 : Nat}
    (hti : ∀ t, TIok E.P t (ti t)) (hop : o.op = .slice t x lo hi none) (hx : evalO T x = some (.v (i.val k)))
    (ht : ti t = .mk agg size zero fs (some e) ik kk bytes) (hte : ti e = .mk agg2 sz zero2 fs2 el2 ik2 kk2 bytes2) (hd : Dst E o d)
    (hlo : bndV T 0 lo = some ml) (hhi : bndV T (k : Int) hi = some mh) (hcp : k ≤ i.c)
    (l h m : Nat) (el : ml = (l : Int)) (eh : mh = (h : Int)) (h1 : l ≤ h) (h2 : h ≤ i.c) (hm : m = h - l)
    (hnext : next (.mk ((d, .v ((i.cut l sz).val m)) :: T) n c B M F)) :
    OpW (opStop E o next T n c B M F) := by
  refine ⟨fun A a w hW hT => ?_⟩
  subst hm
  have htt := hti t
  rw [ht] at htt
  obtain ⟨ii, dd, z, e1, e2, e3, e4, e5, e6, e7, e8, e9, e10, e11⟩ := tiSum_parts htt
  have htt2 := hti e
  rw [hte] at htt2
  obtain ⟨ii2, dd2, z2, k1, k2, k3, k4, k5, k6, k7, k8, k9, k10, k11⟩ := tiSum_parts htt2
  have hdd := el_slice e8
  subst el; subst eh
  have hx' : a.eval x = i.val k := (evalO_sound hT hx).1
  have := run_cut2 (P := E.P) (w := w) (by rw [e2, hdd]) k1 i k l h (lo.map a.eval) (hi.map a.eval) (by
    cases lo with
    | none => simp only [bndV, Option.some.injEq] at hlo; exact .inl ⟨rfl, by omega⟩
    | some y => obtain ⟨kd, e⟩ := bndV_some hT hlo; exact .inr ⟨kd, by simp [e]⟩) (by
    cases hi with
    | none => simp only [bndV, Option.some.injEq] at hhi; exact .inl ⟨rfl, by omega⟩
    | some y => obtain ⟨kd, e⟩ := bndV_some hT hhi; exact .inr ⟨kd, by simp [e]⟩) h1 h2 hcp
  rw [k4] at this
  have hr : (execOp a.eval o).run E.P w = .ok (.value ((i.cut l sz).val (h - l))) w := by
    simp only [execOp, hop, hx', Option.map_none, this, Sem.run_bind, Sem.run_pure, Result.andThen_ok]
  refine upon_of_value hr ?_
  rw [hd.1]
  exact ⟨_, ⟨_, hW, hT.put (v := .v ((i.cut l sz).val (h - l))) hd.lt trivial⟩, hnext⟩
/-- A slice with its capacity given: only its bounds matter. -/
theorem stop_cut3 {t e : TypeId} {x mxo hi : Operand} {lo : Option Operand} {i : Sl} {k : Nat} {ml mh mm : Int} {kd : IntKind} {d : Nat} {agg : Bool} {size : Nat} {zero : List Value} {fs : List (Nat × Nat × Bool)} {ik : Option IntKind} {kk bytes : Nat} {agg2 : Bool} {sz : Nat} {zero2 : List Value} {fs2 : List (Nat × Nat × Bool)} {el2 : Option TypeId} {ik2 : Option IntKind} {kk2 bytes2 : Nat}
    (hti : ∀ t, TIok E.P t (ti t)) (hop : o.op = .slice t x lo (some hi) (some mxo)) (hx : evalO T x = some (.v (i.val k))) (hmx : evalO T mxo = some (.v (.int kd mm)))
    (ht : ti t = .mk agg size zero fs (some e) ik kk bytes) (hte : ti e = .mk agg2 sz zero2 fs2 el2 ik2 kk2 bytes2) (hd : Dst E o d)
    (hlo : bndV T 0 lo = some ml) (hhi : bndV T (k : Int) (some hi) = some mh) (_hcp : k ≤ i.c)
    (l h m : Nat) (el : ml = (l : Int)) (eh : mh = (h : Int)) (em : mm = (m : Int)) (h1 : l ≤ h) (h2 : h ≤ m) (h3 : m ≤ i.c)
    (hnext : ∀ v : Value, next (.mk ((d, .v v) :: T) n c B M F)) :
    OpW (opStop E o next T n c B M F) := by
  refine ⟨fun A a w hW hT => ?_⟩
  have htt := hti t
  rw [ht] at htt
  obtain ⟨ii, dd, z, e1, e2, e3, e4, e5, e6, e7, e8, e9, e10, e11⟩ := tiSum_parts htt
  have htt2 := hti e
  rw [hte] at htt2
  obtain ⟨ii2, dd2, z2, k1, k2, k3, k4, k5, k6, k7, k8, k9, k10, k11⟩ := tiSum_parts htt2
  have hdd := el_slice e8
  subst el; subst eh; subst em
  have hx' : a.eval x = i.val k := (evalO_sound hT hx).1
  have hm' : a.eval mxo = .int kd (m : Int) := (evalO_sound hT hmx).1
  have hL : (lo.map a.eval = none ∧ l = 0) ∨ ∃ kd, lo.map a.eval = some (.int kd (l : Int)) := by
    cases lo with
    | none => simp only [bndV, Option.some.injEq] at hlo; exact .inl ⟨rfl, by omega⟩
    | some y => obtain ⟨kd, e⟩ := bndV_some hT hlo; exact .inr ⟨kd, by simp [e]⟩
  obtain ⟨kdh, hH⟩ := bndV_some hT hhi
  have hr : ∃ v, (execOp a.eval o).run E.P w = .ok (.value v) w := by
    have : ∃ v, (Instr.sliceAt t (i.val k) (lo.map a.eval) (some (.int kdh (h : Int))) (some (.int kd (m : Int)))).run E.P w = .ok v w := by
      have hu : E.P.underlying t = some (.slice e) := by rw [e2, hdd]
      rcases hL with ⟨q1, rfl⟩ | ⟨kd1, q1⟩ <;>
        simp [Instr.sliceAt, Instr.slice, underlying, hu, Sl.val, Instr.sliceBounds, run_sliceBound, run_sizeOf k1, q1, h1, h2, h3]
    obtain ⟨v, hv⟩ := this
    exact ⟨v, by simp only [execOp, hop, hx', hm', hH, Option.map_some, hv, Sem.run_bind, Sem.run_pure, Result.andThen_ok]⟩
  obtain ⟨v, hr⟩ := hr
  refine upon_of_value hr ?_
  rw [hd.1]
  exact ⟨_, ⟨_, hW, hT.put (v := .v v) hd.lt trivial⟩, hnext v⟩

theorem own_beyond {P : Program} {i : Sl} {e sz p g off : Nat} {cs vs : List Value} (hown : w.ownsRow 0 e sz (i.val p) p cs) (hi : i.a = some ⟨g, 0, none⟩) (hoff : p * sz ≤ off) (hle : off + vs.length ≤ i.c * sz) (h1 : ∀ v ∈ vs, v.oneCell' = true) :
    ∃ w', (storeCells ⟨g, off, none⟩ vs).run P w = .ok () w' ∧ ExtX (fun b => b = g) w w' ∧ w'.ownsRow 0 e sz (i.val p) p cs := by
  rcases own_cases hown with ⟨h2, _⟩ | ⟨g', cur, h2, h3, h4, h5, h6, h7⟩
  · rw [hi] at h2; cases h2
  · rw [hi] at h2
    injection h2 with h2
    injection h2 with h2
    subst h2
    have hrun := run_storeCells_at (P := P) g off e vs 0 cur w h3 (by simp; omega) h1
    refine ⟨_, hrun, ?_⟩
    simp only [Nat.add_zero]
    generalize hcs' : (List.take off cur.toList ++ vs ++ List.drop (off + vs.length) cur.toList).toArray = cs'
    have hsz : cs'.size = i.c * sz := by rw [← hcs']; simp; omega
    have hnew : (w.setRow g cs').heap[g]? = some (.cells cs' e (0, 0)) := setRow_heap w g cur cs' e (0, 0) h3
    have hother : ∀ b, b ≠ g → (w.setRow g cs').heap[b]? = w.heap[b]? := fun b hb => by
      simp only [World.setRow, Array.getElem?_modify]
      rw [if_neg (fun e => hb e.symm)]
    have hhsz : (w.setRow g cs').heap.size = w.heap.size := by simp [World.setRow]
    refine ⟨⟨rfl, rfl, rfl, by rw [hhsz]; exact Nat.le_refl _, fun b _ hb => hother b hb⟩, hown.1, .inr ⟨g, i.c, cs', by simp only [Sl.val, hi], Nat.zero_le _, hnew, h4, h5, hsz, ?_⟩⟩
    rw [← hcs', ← h7]
    have hcl : cur.toList.length = i.c * sz := by simpa using h6
    show List.take (p * sz) (List.take off cur.toList ++ vs ++ List.drop (off + vs.length) cur.toList) = _
    rw [List.append_assoc, List.take_append_of_le_length (by rw [List.length_take, hcl]; omega), List.take_take]
    congr 1
    omega
/-- clear(s[l:]) of an own row: what is in front stays. -/
theorem stop_clear {α : Type} {enc : α → List Value} {sz : Nat} (he : Enc enc sz) (k1 : Nat) {xs : List α} {i : Sl} {k : Call} {t e : TypeId} {x : Operand} {agg : Bool} {size : Nat} {zero : List Value} {fs : List (Nat × Nat × Bool)} {ik : Option IntKind} {kk bytes : Nat} {agg2 : Bool} {zero2 : List Value} {fs2 : List (Nat × Nat × Bool)} {el2 : Option TypeId} {ik2 : Option IntKind} {kk2 bytes2 : Nat} {z0 : α}
    (hti : ∀ t, TIok E.P t (ti t)) (hop : o.op = .call k) (hk : k.callee = .builtin .clear) (ha : k.args.toList = [x]) (hty : k.argTypes.toList = [t]) (l m : Nat)
    (hx : evalO T x = some (.v ((i.cut l sz).val m))) (ht : ti t = .mk agg size zero fs (some e) ik kk bytes) (hte : ti e = .mk agg2 sz zero2 fs2 el2 ik2 kk2 bytes2) (hz : zero2 = enc z0) (hsz0 : 0 < sz) (hd : o.dst = none)
    (hF1 : F[k1]? = some (own i e enc sz xs)) (_h0 : 0 < i.c) (hia : ∃ g, i.a = some ⟨g, 0, none⟩) (hl : l ≤ xs.length) (hlm : l + m ≤ i.c)
    (hnext : next (.mk T n (c + 1) B M (own i e enc sz (xs.take l) :: F.eraseIdx k1))) :
    OpW (opStop E o next T n c B M F) := by
  refine ⟨fun A a w hW hT => ?_⟩
  obtain ⟨g, hi⟩ := hia
  have htt := hti t
  rw [ht] at htt
  obtain ⟨ii, dd, z, e1, e2, e3, e4, e5, e6, e7, e8, e9, e10, e11⟩ := tiSum_parts htt
  have htt2 := hti e
  rw [hte] at htt2
  obtain ⟨ii2, dd2, z2, g1, g2, g3, g4, g5, g6, g7, g8, g9, g10, g11⟩ := tiSum_parts htt2
  have hdd := el_slice e8
  have hown := (hW.nth k1 hF1).1
  have hpre := own_prefix (q := l) hown hi hl
  rw [← cells_take he] at hpre
  have hlen : (xs.take l).length = l := by simp; omega
  have hargs : k.args = #[x] := by apply Array.ext'; simpa using ha
  have htys : k.argTypes = #[t] := by apply Array.ext'; simpa using hty
  have hx' : a.eval x = (i.cut l sz).val m := (evalO_sound hT hx).1
  have key : ∃ w', (Builtin.clear_ #[t] o.type #[(i.cut l sz).val m]).run E.P w = .ok (.tuple #[]) w' ∧ ExtX (fun b => b = g) w w' ∧ w'.ownsRow 0 e sz (i.val l) l (cells enc (xs.take l)) := by
    rcases Nat.eq_zero_or_pos m with hm | hm
    · subst hm
      refine ⟨w, ?_, ExtX.refl _ _, hpre⟩
      have hu : E.P.underlying t = some (.slice e) := by rw [e2, hdd]
      simp only [Sl.val]
      generalize (i.cut l sz).a = aa
      cases aa <;> simp [Builtin.clear_, underlying, hu]
    · have hca : (i.cut l sz).a = some ((⟨g, 0, none⟩ : Addr).add (l * sz)) := by simp only [Sl.cut, hi]; rw [if_neg (by omega)]; rfl
      have had : (⟨g, 0, none⟩ : Addr).add (l * sz) = ⟨g, l * sz, none⟩ := by unfold Addr.add; split <;> simp_all
      have hzc : z2.cells.toList = enc z0 := by rw [g6, hz]
      have hzs : z2.cells.size = sz := by have := congrArg List.length hzc; rw [he.len] at this; simpa using this
      have hzl : (Builtin.zeroCells z2.cells m).toList.length = m * sz := by simp [Builtin.zeroCells, hzs]
      have hls : (l + m) * sz ≤ i.c * sz := Nat.mul_le_mul_right _ hlm
      rw [Nat.add_mul] at hls
      obtain ⟨w', hrun, hX, hn⟩ := own_beyond (P := E.P) (off := l * sz) (vs := (Builtin.zeroCells z2.cells m).toList) hpre hi (Nat.le_refl _) (by omega) (fun v hv => by
        simp only [Builtin.zeroCells, Array.toList_map, List.mem_map] at hv
        obtain ⟨q, hq, rfl⟩ := hv
        have hqs : q % sz < z2.cells.size := by rw [hzs]; exact Nat.mod_lt _ hsz0
        rw [hzs, getElem!_pos z2.cells _ hqs]
        have : z2.cells[q % sz] ∈ z2.cells.toList := by simp
        rw [hzc] at this
        exact he.one _ _ this)
      refine ⟨w', ?_, hX, hn⟩
      have hu : E.P.underlying t = some (.slice e) := by rw [e2, hdd]
      obtain ⟨m', rfl⟩ : ∃ m', m = m' + 1 := ⟨m - 1, by omega⟩
      simp [Builtin.clear_, underlying, hu, Sl.val, hca, had, zeroValue, typeInfo, g1, g5, hrun]
  obtain ⟨w', h1, hX, hn⟩ := key
  have hr : (execOp a.eval o).run E.P w = .ok (.value (.tuple #[])) w' := by
    simp only [execOp, hop, resolve, hk, hargs, htys, Sem.run_bind, Sem.run_pure, Result.andThen_ok, invoke, builtin, List.map_toArray, List.map_cons, List.map_nil, hx', h1]
  refine upon_of_value hr ?_
  rw [hd]
  refine ⟨_, ⟨_, ?_, hT.step w'⟩, hnext⟩
  show WD E A n B M (fOwn false i e sz (cells enc (xs.take l)) (xs.take l).length :: F.eraseIdx k1) w'
  rw [hlen]
  exact hW.turnX hF1 hi hX hn
end
end Go.Sx
