/- THE FRAMEWORK 'Sx', PART 13: division, comparing structs, slices of slices. No project text. -/
import Derived.Test.YtpopeaoklccgcaaSxl
namespace Go.Sx
open Go Go.RowKit

/-- The slice from place l on. -/
def Sl.cut (i : Sl) (l sz : Nat) : Sl := ⟨if i.c = l then i.a else i.a.map (·.add (l * sz)), i.c - l⟩
theorem RdS.cut {w : World} {i : Sl} {sz n l h : Nat} {cs : List Value} (hr : RdS w i sz cs n) (h1 : l ≤ h) (h2 : h ≤ n) : RdS w (i.cut l sz) sz ((cs.drop (l * sz)).take ((h - l) * sz)) (h - l) := by
  obtain ⟨g1, g2, g3, g4⟩ := hr
  have e1 : (h - l) * sz ≤ n * sz - l * sz := by rw [← Nat.sub_mul]; exact Nat.mul_le_mul_right _ (by omega)
  refine ⟨by rw [List.length_take, List.length_drop, g1]; omega, by simp only [Sl.cut]; omega, by simp only [Sl.cut]; omega, fun h0 => ?_⟩
  obtain ⟨ad, had, hc⟩ := g4 (by omega)
  refine ⟨ad.add (l * sz), by simp only [Sl.cut]; rw [if_neg (by omega), had]; rfl, fun j u hu => ?_⟩
  rw [addr_add_add]
  refine hc _ u ?_
  rw [List.getElem?_take] at hu
  split at hu
  · rw [List.getElem?_drop] at hu; exact hu
  · cases hu
theorem cut_foot {i : Sl} {l sz n m b : Nat} (h : m ≤ n) (hf : (fSl true (i.cut l sz) sz [] m).foot b) : (fSl true i sz [] n).foot b := by
  obtain ⟨h0, ad, had, rfl⟩ := hf
  refine ⟨by omega, ?_⟩
  simp only [Sl.cut] at had
  split at had
  · exact ⟨ad, had, rfl⟩
  · cases hi : i.a with
    | none => rw [hi] at had; simp at had
    | some a0 => rw [hi] at had; simp at had; exact ⟨a0, rfl, by rw [← had, block_add]⟩

section
variable {α : Type} {enc : α → List Value} {sz : Nat}
theorem cells_cut (he : Enc enc sz) (xs : List α) (l h : Nat) : (((cells enc xs).drop (l * sz)).take ((h - l) * sz)) = cells enc ((xs.drop l).take (h - l)) := by
  rw [cells_take he, cells_drop he]
/-- A part of a slice reads. -/
theorem rdCut (he : Enc enc sz) {F : List Fct} {i : Sl} {xs : List α} (l h : Nat) (h1 : l ≤ h) (h2 : h ≤ xs.length) {ys : List α} (hy : ys = (xs.drop l).take (h - l)) (hr : ∀ w, (∀ f ∈ F, f.P w) → RdS w i sz (cells enc xs) xs.length) :
    ∀ w, (∀ f ∈ F, f.P w) → RdS w (i.cut l sz) sz (cells enc ys) ys.length := by
  intro w hw
  have := (hr w hw).cut h1 h2
  rw [cells_cut he] at this
  subst hy
  rw [show ((xs.drop l).take (h - l)).length = h - l by simp; omega]
  exact this
/-- A part of a slice, for a call. -/
theorem atCut (he : Enc enc sz) {w : World} {Q : Nat → Prop} {o : Bool} {i : Sl} {xs : List α} (l h : Nat) (h1 : l ≤ h) (h2 : h ≤ xs.length) {ys : List α} (hy : ys = (xs.drop l).take (h - l))
    (hr : (fSl o i sz (cells enc xs) xs.length).P w ∧ ∀ b, (fSl o i sz (cells enc xs) xs.length).foot b → Q b) :
    (fSl o (i.cut l sz) sz (cells enc ys) ys.length).P w ∧ ∀ b, (fSl o (i.cut l sz) sz (cells enc ys) ys.length).foot b → Q b := by
  have := (show RdS w i sz (cells enc xs) xs.length from hr.1).cut h1 h2
  rw [cells_cut he] at this
  subst hy
  have hl : ((xs.drop l).take (h - l)).length = h - l := by simp; omega
  refine ⟨?_, fun b hb => hr.2 b ?_⟩
  · show RdS w (i.cut l sz) sz _ _
    rw [hl]
    exact this
  · exact cut_foot (m := ((xs.drop l).take (h - l)).length) (n := xs.length) (by rw [hl]; omega) hb
theorem rdDrop (he : Enc enc sz) {F : List Fct} {i : Sl} {xs : List α} (l : Nat) (h : l ≤ xs.length) (hr : ∀ w, (∀ f ∈ F, f.P w) → RdS w i sz (cells enc xs) xs.length) :
    ∀ w, (∀ f ∈ F, f.P w) → RdS w (i.cut l sz) sz (cells enc (xs.drop l)) (xs.drop l).length :=
  rdCut he l xs.length h (Nat.le_refl _) (by rw [List.take_of_length_le (by simp)]) hr
theorem rdTake (he : Enc enc sz) {F : List Fct} {i : Sl} {xs : List α} (l : Nat) (h : l ≤ xs.length) (hr : ∀ w, (∀ f ∈ F, f.P w) → RdS w i sz (cells enc xs) xs.length) :
    ∀ w, (∀ f ∈ F, f.P w) → RdS w (i.cut 0 sz) sz (cells enc (xs.take l)) (xs.take l).length :=
  rdCut he 0 l (Nat.zero_le _) h (by simp) hr
theorem atDrop (he : Enc enc sz) {w : World} {Q : Nat → Prop} {o : Bool} {i : Sl} {xs : List α} (l : Nat) (h : l ≤ xs.length)
    (hr : (fSl o i sz (cells enc xs) xs.length).P w ∧ ∀ b, (fSl o i sz (cells enc xs) xs.length).foot b → Q b) :
    (fSl o (i.cut l sz) sz (cells enc (xs.drop l)) (xs.drop l).length).P w ∧ ∀ b, (fSl o (i.cut l sz) sz (cells enc (xs.drop l)) (xs.drop l).length).foot b → Q b :=
  atCut he l xs.length h (Nat.le_refl _) (by rw [List.take_of_length_le (by simp)]) hr
theorem atTake (he : Enc enc sz) {w : World} {Q : Nat → Prop} {o : Bool} {i : Sl} {xs : List α} (l : Nat) (h : l ≤ xs.length)
    (hr : (fSl o i sz (cells enc xs) xs.length).P w ∧ ∀ b, (fSl o i sz (cells enc xs) xs.length).foot b → Q b) :
    (fSl o (i.cut 0 sz) sz (cells enc (xs.take l)) (xs.take l).length).P w ∧ ∀ b, (fSl o (i.cut 0 sz) sz (cells enc (xs.take l)) (xs.take l).length).foot b → Q b :=
  atCut he 0 l (Nat.zero_le _) h (by simp) hr
end

def bndV (T : List (Nat × SV)) (d : Int) : Option Operand → Option Int
  | none => some d
  | some y => match evalO T y with
    | some (.v (.int _ m)) => some m
    | _ => none

section
variable {E : Env} {ti : Nat → TI} {A : Nat → Nat} {T : List (Nat × SV)} {n c : Nat} {B : List (Nat × TypeId × Nat)} {M : List ((Nat × Nat) × SV)} {F Fs : List Fct} {o : Oper} {next : St → Prop} {a : Act} {w : World}

theorem bndV_some (hT : TD E A T n c a w) {d : Int} {y : Operand} {m : Int} (h : bndV T d (some y) = some m) : ∃ kd, a.eval y = .int kd m := by
  simp only [bndV] at h
  split at h
  · rename_i k q hq
    simp at h; subst h
    exact ⟨k, (evalO_sound hT hq).1⟩
  · cases h
theorem run_cut {P : Program} {t e : TypeId} {ie : TypeInfo} (ht : P.underlying t = some (.slice e)) (hi : P.info? e = some ie) (i : Sl) (k l h : Nat) (lo hi' : Option Value) (hlo : (lo = none ∧ l = 0) ∨ ∃ kd, lo = some (.int kd (l : Int))) (hhi : (hi' = none ∧ h = k) ∨ ∃ kd, hi' = some (.int kd (h : Int))) (h1 : l ≤ h) (h2 : h ≤ k) (h3 : k ≤ i.c) :
    (Instr.sliceAt t (i.val k) lo hi' none).run P w = .ok ((i.cut l ie.size).val (h - l)) w := by
  rcases hlo with ⟨rfl, rfl⟩ | ⟨kd, rfl⟩ <;> rcases hhi with ⟨rfl, rfl⟩ | ⟨kd2, rfl⟩ <;>
    simp [Instr.sliceAt, Instr.slice, underlying, ht, Sl.val, Instr.sliceBounds, run_sliceBound, run_sizeOf hi, Sl.cut, h1, show h ≤ i.c by omega]

theorem cut_run (hti : ∀ t, TIok E.P t (ti t)) (hT : TD E A T n c a w) {t e : TypeId} {x : Operand} {lo hi : Option Operand} {i : Sl} {k : Nat} {ml mh : Int} {sz : Nat} {agg : Bool} {size : Nat} {zero : List Value} {fs : List (Nat × Nat × Bool)} {ik : Option IntKind} {kk bytes : Nat} {agg2 : Bool} {zero2 : List Value} {fs2 : List (Nat × Nat × Bool)} {el2 : Option TypeId} {ik2 : Option IntKind} {kk2 bytes2 : Nat}
    (hop : o.op = .slice t x lo hi none) (hx : evalO T x = some (.v (i.val k)))
    (ht : ti t = .mk agg size zero fs (some e) ik kk bytes) (hte : ti e = .mk agg2 sz zero2 fs2 el2 ik2 kk2 bytes2)
    (hlo : bndV T 0 lo = some ml) (hhi : bndV T (k : Int) hi = some mh) {l h : Nat} (el : ml = (l : Int)) (eh : mh = (h : Int)) (h1 : l ≤ h) (h2 : h ≤ k) (h3 : k ≤ i.c) :
    (execOp a.eval o).run E.P w = .ok (.value ((i.cut l sz).val (h - l))) w := by
  have htt := hti t
  rw [ht] at htt
  obtain ⟨ii, dd, z, e1, e2, e3, e4, e5, e6, e7, e8, e9, e10, e11⟩ := tiSum_parts htt
  have htt2 := hti e
  rw [hte] at htt2
  obtain ⟨ii2, dd2, z2, k1, k2, k3, k4, k5, k6, k7, k8, k9, k10, k11⟩ := tiSum_parts htt2
  have hdd := el_slice e8
  subst el; subst eh
  have hx' : a.eval x = i.val k := (evalO_sound hT hx).1
  have := run_cut (P := E.P) (w := w) (by rw [e2, hdd]) k1 i k l h (lo.map a.eval) (hi.map a.eval) (by
    cases lo with
    | none => simp only [bndV, Option.some.injEq] at hlo; exact .inl ⟨rfl, by omega⟩
    | some y => obtain ⟨kd, e⟩ := bndV_some hT hlo; exact .inr ⟨kd, by simp [e]⟩) (by
    cases hi with
    | none => simp only [bndV, Option.some.injEq] at hhi; exact .inl ⟨rfl, by omega⟩
    | some y => obtain ⟨kd, e⟩ := bndV_some hT hhi; exact .inr ⟨kd, by simp [e]⟩) h1 h2 h3
  rw [k4] at this
  simp only [execOp, hop, hx', Option.map_none, this, Sem.run_bind, Sem.run_pure, Result.andThen_ok]

/-- A slice of a slice. -/
theorem stop_cut {t e : TypeId} {x : Operand} {lo hi : Option Operand} {i : Sl} {k : Nat} {ml mh : Int} {sz : Nat} {d : Nat} {cs : List Value} {agg : Bool} {size : Nat} {zero : List Value} {fs : List (Nat × Nat × Bool)} {ik : Option IntKind} {kk bytes : Nat} {agg2 : Bool} {zero2 : List Value} {fs2 : List (Nat × Nat × Bool)} {el2 : Option TypeId} {ik2 : Option IntKind} {kk2 bytes2 : Nat}
    (hti : ∀ t, TIok E.P t (ti t)) (hop : o.op = .slice t x lo hi none) (hx : evalO T x = some (.v (i.val k)))
    (ht : ti t = .mk agg size zero fs (some e) ik kk bytes) (hte : ti e = .mk agg2 sz zero2 fs2 el2 ik2 kk2 bytes2) (hd : Dst E o d)
    (hlo : bndV T 0 lo = some ml) (hhi : bndV T (k : Int) hi = some mh) (hF : ∀ w, (∀ f ∈ F, f.P w) → RdS w i sz cs k)
    (l h m : Nat) (el : ml = (l : Int)) (eh : mh = (h : Int)) (h1 : l ≤ h) (h2 : h ≤ k) (hm : m = h - l)
    (hnext : next (.mk ((d, .v ((i.cut l sz).val m)) :: T) n c B M F)) :
    OpW (opStop E o next T n c B M F) := by
  refine ⟨fun A a w hW hT => ?_⟩
  obtain ⟨_, g2, _, _⟩ := hF w (fun f hf => (hW.fct f hf).1)
  subst hm
  refine upon_of_value (cut_run hti hT hop hx ht hte hlo hhi el eh h1 h2 g2) ?_
  rw [hd.1]
  exact ⟨_, ⟨_, hW, hT.put (v := .v ((i.cut l sz).val (h - l))) hd.lt trivial⟩, hnext⟩
theorem d_cut {t e : TypeId} {x : Operand} {lo hi : Option Operand} {i : Sl} {k : Nat} {ml mh : Int} {sz : Nat} {d : Nat} {cs : List Value} {agg : Bool} {size : Nat} {zero : List Value} {fs : List (Nat × Nat × Bool)} {ik : Option IntKind} {kk bytes : Nat} {agg2 : Bool} {zero2 : List Value} {fs2 : List (Nat × Nat × Bool)} {el2 : Option TypeId} {ik2 : Option IntKind} {kk2 bytes2 : Nat}
    (hti : ∀ t, TIok E.P t (ti t)) (hop : o.op = .slice t x lo hi none) (hx : evalO T x = some (.v (i.val k)))
    (ht : ti t = .mk agg size zero fs (some e) ik kk bytes) (hte : ti e = .mk agg2 sz zero2 fs2 el2 ik2 kk2 bytes2) (hd : Dst E o d)
    (hlo : bndV T 0 lo = some ml) (hhi : bndV T (k : Int) hi = some mh) (hF : ∀ w, (∀ f ∈ Fs, f.P w) → RdS w i sz cs k)
    (l h m : Nat) (el : ml = (l : Int)) (eh : mh = (h : Int)) (h1 : l ≤ h) (h2 : h ≤ k) (hm : m = h - l) {n0 : Nat} {B0 : List (Nat × TypeId × Nat)} {Ms : List ((Nat × Nat) × SV)}
    (hnext : next (.mk ((d, .v ((i.cut l sz).val m)) :: T) n c B M F)) :
    OpW (∀ A, ∃ s : SV, (∀ a w, WD E A n0 B0 Ms Fs w → TD E A T n c a w → (execOp a.eval o).run E.P w = .ok (.value (s.den A)) w ∧ s.okT n c w) ∧ (∃ d, Dst E o d ∧ next (.mk ((d, s) :: T) n c B M F))) := by
  refine ⟨fun A => ⟨.v ((i.cut l sz).val m), fun a w hW hT => ?_, d, hd, hnext⟩⟩
  obtain ⟨_, g2, _, _⟩ := hF w (fun f hf => (hW.fct f hf).1)
  subst hm
  exact ⟨cut_run hti hT hop hx ht hte hlo hhi el eh h1 h2 g2, trivial⟩

theorem bin_run (hT : TD E A T n c a w) {op : BinOp} {t t' : TypeId} {x y : Operand} {u v r : Value} (hop : o.op = .binOp op t x y t') (hx : evalV T x = some u) (hy : evalV T y = some v)
    (hg : (eqGuard op t x y u v).run E.P w = .ok () w) (hb : (binOp op t u v).run E.P w = .ok r w) : (execOp a.eval o).run E.P w = .ok (.value r) w := by
  simp only [execOp, hop, evalV_sound hT hx, evalV_sound hT hy, Sem.run_bind, hg, Result.andThen_ok, hb, Sem.run_pure]
/-- A binary operation that yields r. -/
theorem stop_bin {op : BinOp} {t t' : TypeId} {x y : Operand} {u v : Value} {d : Nat} (hop : o.op = .binOp op t x y t') (hx : evalV T x = some u) (hy : evalV T y = some v) (hd : Dst E o d) (r : Value)
    (hg : ∀ w, (eqGuard op t x y u v).run E.P w = .ok () w) (hb : ∀ w, (binOp op t u v).run E.P w = .ok r w) (hnext : next (.mk ((d, .v r) :: T) n c B M F)) :
    OpW (opStop E o next T n c B M F) := by
  refine ⟨fun A a w hW hT => ?_⟩
  refine upon_of_value (bin_run hT hop hx hy (hg w) (hb w)) ?_
  rw [hd.1]
  exact ⟨_, ⟨_, hW, hT.put (v := .v r) hd.lt trivial⟩, hnext⟩
theorem d_bin {op : BinOp} {t t' : TypeId} {x y : Operand} {u v : Value} {d : Nat} (hop : o.op = .binOp op t x y t') (hx : evalV T x = some u) (hy : evalV T y = some v) (hd : Dst E o d) (r : Value)
    (hg : ∀ w, (eqGuard op t x y u v).run E.P w = .ok () w) (hb : ∀ w, (binOp op t u v).run E.P w = .ok r w) {n0 : Nat} {B0 : List (Nat × TypeId × Nat)} {Ms : List ((Nat × Nat) × SV)}
    (hnext : next (.mk ((d, .v r) :: T) n c B M F)) :
    OpW (∀ A, ∃ s : SV, (∀ a w, WD E A n0 B0 Ms Fs w → TD E A T n c a w → (execOp a.eval o).run E.P w = .ok (.value (s.den A)) w ∧ s.okT n c w) ∧ (∃ d, Dst E o d ∧ next (.mk ((d, s) :: T) n c B M F))) :=
  ⟨fun _A => ⟨.v r, fun _a w _hW hT => ⟨bin_run hT hop hx hy (hg w) (hb w), trivial⟩, d, hd, hnext⟩⟩

theorem rem_run {P : Program} {t : TypeId} {k : IntKind} {p q r : Int} (hne : q ≠ 0) (hr : r = p.tmod q) (w : World) : (binOp .rem t (.int k p) (.int k q)).run P w = .ok (.int k r) w := by
  subst hr; simp [binOp, Op.intDiv, hne]
theorem quo_run {P : Program} {t : TypeId} {k : IntKind} {p q r : Int} (hne : q ≠ 0) (hr : r = k.wrap (p.tdiv q)) (w : World) : (binOp .quo t (.int k p) (.int k q)).run P w = .ok (.int k r) w := by
  subst hr; simp [binOp, Op.intDiv, hne]
theorem xor_run {P : Program} {t : TypeId} {k : IntKind} {p q r : Int} (hr : r = k.wrap ((BitVec.ofInt k.bits p ^^^ BitVec.ofInt k.bits q).toNat : Int)) (w : World) : (binOp .xor t (.int k p) (.int k q)).run P w = .ok (.int k r) w := by
  subst hr; simp [binOp, Op.intBits]
end
end Go.Sx
