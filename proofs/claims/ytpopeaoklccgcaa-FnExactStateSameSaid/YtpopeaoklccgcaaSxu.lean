/- THE FRAMEWORK 'Sx', PART 21: comparing structs of ints. No project text. -/
import Derived.Test.YtpopeaoklccgcaaSxt
import Derived.Laws.StructEq
namespace Go.Sx
open Go Go.RowKit

/-- The fields of a struct of n ints: from place k on. -/
def flds (it : TypeId) : Nat → Nat → List (Bool × TypeId × Nat)
  | _, 0 => []
  | k, n + 1 => (false, it, k) :: flds it (k + 1) n
def vInt (x : Int) : Value := .int .i64 x
theorem part_one' {P : Program} {t : TypeId} {d : TypeDesc} (hd : P.underlying t = some d) (ha : isAggD d = false) (cs : Array Value) (off : Nat) (v : Value) (h : cs[off]? = some v) (w : World) : (part t cs off).run P w = .ok v w := by
  unfold part
  rw [Sem.run_bind, run_isAgg hd, ha]
  simp [h]
theorem eqFields_ints {P : Program} (w : World) {it : TypeId} (hI : P.underlying it = some (.int .i64)) (d : Nat) : ∀ (fs : List Field) (as bs : List Int) (p q : List Value), p.length = q.length → as.length = bs.length →
    fs.map (fun f => (f.name == "_", f.type, f.offset)) = flds it p.length as.length →
    (Op.eqFields (d + 1) (p ++ as.map vInt).toArray (q ++ bs.map vInt).toArray fs).run P w = .ok (decide (as = bs)) w
  | [], as, bs, p, q, hp, hl, hf => by
    cases as with
    | nil => cases bs with
      | nil => simp [Op.eqFields]
      | cons _ _ => simp at hl
    | cons _ _ => simp [flds] at hf
  | f :: fs, as, bs, p, q, hp, hl, hf => by
    cases as with
    | nil => simp [flds] at hf
    | cons a as =>
      cases bs with
      | nil => simp at hl
      | cons b bs =>
        simp only [List.map_cons, List.length_cons, flds, List.cons.injEq, Prod.mk.injEq] at hf
        obtain ⟨⟨f1, f2, f3⟩, hf⟩ := hf
        have f1' : f.name ≠ "_" := by simpa using f1
        have ih := eqFields_ints w hI d fs as bs (p ++ [vInt a]) (q ++ [vInt b]) (by simp [hp]) (by simpa using hl) (by simpa using hf)
        simp only [List.append_assoc, List.cons_append, List.nil_append] at ih
        have p1 := part_one' hI rfl (p ++ (a :: as).map vInt).toArray p.length (vInt a) (by simp) w
        have p2 := part_one' hI rfl (q ++ (b :: bs).map vInt).toArray p.length (vInt b) (by simp [hp]) w
        have q1 : (Op.equalIn (d + 1) it (vInt a) (vInt b)).run P w = .ok (a == b) w := run_equalIn_int w d it .i64 .i64 a b hI
        simp only [List.map_cons] at p1 p2
        simp only [Op.eqFields, f2, f3, f1', ne_eq, not_false_eq_true, if_true, Sem.run_bind, p1, p2, Result.andThen_ok, q1, List.map_cons]
        by_cases h1 : a = b
        · subst h1
          simp [ih]
        · simp [h1]
theorem neq_ints {P : Program} {t it : TypeId} {xs ys : List Int} (hS : P.underlying t = some (.struct (P.fieldsOf t))) (hp : P.stoodInHeld t = false) (hI : P.underlying it = some (.int .i64))
    (hl : xs.length = ys.length) (hF : (P.fieldsOf t).toList.map (fun f => (f.name == "_", f.type, f.offset)) = flds it 0 xs.length) (w : World) :
    (binOp .neq t (.agg (xs.map vInt).toArray) (.agg (ys.map vInt).toArray)).run P w = .ok (.bool (decide (xs ≠ ys))) w := by
  have := eqFields_ints w hI 9998 (P.fieldsOf t).toList xs ys [] [] rfl hl hF
  simp only [List.nil_append] at this
  rw [run_neq_struct, show (10000 : Nat) = 9999 + 1 from rfl, run_equalIn_agg w 9999 t _ _ hS hp, this]
  by_cases h : xs = ys <;> simp [h]
theorem eql_ints {P : Program} {t it : TypeId} {xs ys : List Int} (hS : P.underlying t = some (.struct (P.fieldsOf t))) (hp : P.stoodInHeld t = false) (hI : P.underlying it = some (.int .i64))
    (hl : xs.length = ys.length) (hF : (P.fieldsOf t).toList.map (fun f => (f.name == "_", f.type, f.offset)) = flds it 0 xs.length) (w : World) :
    (binOp .eql t (.agg (xs.map vInt).toArray) (.agg (ys.map vInt).toArray)).run P w = .ok (.bool (decide (xs = ys))) w := by
  have := eqFields_ints w hI 9998 (P.fieldsOf t).toList xs ys [] [] rfl hl hF
  simp only [List.nil_append] at this
  rw [run_eql_struct, show (10000 : Nat) = 9999 + 1 from rfl, run_equalIn_agg w 9999 t _ _ hS hp, this]
  simp
end Go.Sx
