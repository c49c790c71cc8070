/- FnStartProg: texts that its proof stands on, part 5. -/
import Derived.Test.YtjkkoonennpceaaQStartProgd
namespace Go.Proofs.Ytjkkoonennpceaa

open Go Go.Sx Go.RowKit

structure Waiting where
  kind : Int
  on : Int
  arg : Int
  deriving DecidableEq

def cWait (l : Waiting) : List Value := [.int .i64 l.kind, .int .i64 l.on, .int .i64 l.arg]

theorem encWait : Enc cWait 3 := ⟨fun _ => rfl, fun _ u hu => by simp [cWait] at hu; rcases hu with rfl | rfl | rfl <;> rfl⟩

/-- A list with its header. -/
structure LH (β : Type) where
  q : Sl
  xs : List β

def LH.nil {β : Type} : LH β := ⟨⟨none, 0⟩, []⟩

def venH {β : Type} (h : LH β) : Value := h.q.val h.xs.length

/-- The rows of a map's lists. -/
def rowsM {β : Type} (ty : TypeId) (enc : β → List Value) (sz : Nat) (ps : List (Int × LH β)) : List Fct := ps.flatMap fun p => [own p.2.q ty enc sz p.2.xs]

def pm {β : Type} (ps : List (Int × LH β)) : List (Int × List β) := ps.map fun p => (p.1, p.2.xs)

/-- One more for this key. -/
def addM {β : Type} (m : List (Int × List β)) (e : Int × β) : List (Int × List β) := aset m e.1 ((aget m e.1).getD [] ++ [e.2])

def mapOf {β : Type} (es : List (Int × β)) : List (Int × List β) := es.foldl addM []

theorem mapOf_snoc {β : Type} (es : List (Int × β)) (e : Int × β) : mapOf (es ++ [e]) = addM (mapOf es) e := by simp [mapOf]

theorem pm_aget {β : Type} (ps : List (Int × LH β)) (t : Int) : aget (pm ps) t = (aget ps t).map (·.xs) := by
  induction ps with
  | nil => rfl
  | cons p r ih =>
    obtain ⟨k, h⟩ := p
    show (if k = t then some h.xs else aget (pm r) t) = (if k = t then some h else aget r t).map (·.xs)
    by_cases e : k = t
    · simp [e]
    · simp [e, ih]

theorem pm_aset {β : Type} (ps : List (Int × LH β)) (t : Int) (h : LH β) : pm (aset ps t h) = aset (pm ps) t h.xs := by
  induction ps with
  | nil => rfl
  | cons p r ih =>
    obtain ⟨k, u⟩ := p
    show pm (if k = t then (k, h) :: r else (k, u) :: aset r t h) = (if k = t then (k, h.xs) :: pm r else (k, u.xs) :: aset (pm r) t h.xs)
    by_cases e : k = t
    · simp [e, pm]
    · rw [if_neg e, if_neg e]
      show (k, u.xs) :: pm (aset r t h) = _
      rw [ih]

theorem pm_add {β : Type} (ps : List (Int × LH β)) (t : Int) (w : β) (y : Sl) : pm (aset ps t ⟨y, ((aget ps t).getD LH.nil).xs ++ [w]⟩) = addM (pm ps) (t, w) := by
  rw [pm_aset, addM, pm_aget]
  cases aget ps t <;> rfl

theorem rows_perm_some {β : Type} {ty : TypeId} {enc : β → List Value} {sz : Nat} : ∀ {ps : List (Int × LH β)} {t : Int} {h : LH β}, aget ps t = some h → (rowsM ty enc sz ps).Perm ([own h.q ty enc sz h.xs] ++ rowsM ty enc sz (adel ps t))
  | [], t, h, e => by simp [aget] at e
  | (k, u) :: r, t, h, e => by
    simp only [aget] at e
    by_cases hk : k = t
    · simp only [hk, if_true, Option.some.injEq] at e
      subst e
      rw [show adel ((k, u) :: r) t = r from by simp [adel, hk]]
      exact .refl _
    · simp only [hk, if_false] at e
      rw [show adel ((k, u) :: r) t = (k, u) :: adel r t from by simp [adel, hk]]
      have ih := rows_perm_some (ty := ty) (enc := enc) (sz := sz) e
      show (own u.q ty enc sz u.xs :: rowsM ty enc sz r).Perm (own h.q ty enc sz h.xs :: own u.q ty enc sz u.xs :: rowsM ty enc sz (adel r t))
      exact (List.Perm.cons _ ih).trans (List.Perm.swap _ _ _)

theorem adel_of_none {β : Type} : ∀ {ps : List (Int × β)} {t : Int}, aget ps t = none → adel ps t = ps
  | [], _, _ => rfl
  | (k, u) :: r, t, e => by
    simp only [aget] at e
    by_cases hk : k = t
    · simp [hk] at e
    · simp only [hk, if_false] at e
      simp [adel, hk, adel_of_none e]

theorem rows_perm_set {β : Type} {ty : TypeId} {enc : β → List Value} {sz : Nat} (t : Int) (h : LH β) : ∀ (ps : List (Int × LH β)), ([own h.q ty enc sz h.xs] ++ rowsM ty enc sz (adel ps t)).Perm (rowsM ty enc sz (aset ps t h))
  | [] => .refl _
  | (k, u) :: r => by
    by_cases hk : k = t
    · rw [show adel ((k, u) :: r) t = r from by simp [adel, hk], show aset ((k, u) :: r) t h = (k, h) :: r from by simp [aset, hk]]
      exact .refl _
    · rw [show adel ((k, u) :: r) t = (k, u) :: adel r t from by simp [adel, hk], show aset ((k, u) :: r) t h = (k, u) :: aset r t h from by simp [aset, hk]]
      show (own h.q ty enc sz h.xs :: own u.q ty enc sz u.xs :: rowsM ty enc sz (adel r t)).Perm (own u.q ty enc sz u.xs :: rowsM ty enc sz (aset r t h))
      exact (List.Perm.swap _ _ _).trans (List.Perm.cons _ (rows_perm_set t h r))

/-- The row for this key is taken out of a map's rows: of none, the nil row. -/
theorem Shift.rowOut {FF : List Fct} {β : Type} {ty : TypeId} {enc : β → List Value} {sz : Nat} (k : Nat) {ps : List (Int × LH β)} (t : Int) (hk : FF[k]? = some (fO (rowsM ty enc sz ps))) :
    Shift FF (own ((aget ps t).getD LH.nil).q ty enc sz ((aget ps t).getD LH.nil).xs :: fO (rowsM ty enc sz (adel ps t)) :: FF.eraseIdx k) := by
  cases h : aget ps t with
  | some u => exact Shift.splitO k (L := [own u.q ty enc sz u.xs]) hk (rows_perm_some h)
  | none =>
    rw [adel_of_none h]
    intro E A n B M w hW
    have h1 := Shift.splitO k (L := []) (G' := rowsM ty enc sz ps) hk (.refl _) E A n B M w hW
    have hn : nilFact (own (LH.nil : LH β).q ty enc sz (LH.nil : LH β).xs) := ⟨rfl, rfl, rfl, rfl⟩
    obtain ⟨n1, n2, n3⟩ := nilFact_ok hn w
    refine ⟨h1.key, h1.inj, h1.mem, h1.a0, h1.n0, h1.ext, fun f hf => ?_, ?_⟩
    · rcases List.mem_cons.1 hf with rfl | hf
      · exact ⟨n1, fun b hb => (n2 b hb).elim, fun _ b hb => (n2 b hb).elim⟩
      · exact h1.fct f hf
    · rw [List.pairwise_cons]
      exact ⟨fun g _ _ b hb => (n2 b hb).elim, h1.dj⟩

abbrev fMW (r : Nat) (ps : List (Int × LH Waiting)) : Fct := fMap r venH ps

abbrev rW (ps : List (Int × LH Waiting)) : List Fct := rowsM 89 cWait 3 ps

abbrev rI (ps : List (Int × LH Int)) : List Fct := rowsM 3 cInt 1 ps

set_option maxHeartbeats 4000000 in
set_option maxRecDepth 100000 in
theorem wAdd_c (t kind on arg : Int) (g r : Nat) (ps : List (Int × LH Waiting)) (w : World) (hg : Blk w g 83 [.map (some r)]) (h : AtG w [fMW r ps, fO (rW ps)] []) (hoff : ∀ f ∈ [fMW r ps, fO (rW ps)] ++ [], ∀ b, f.foot b → b ≠ g)
    (hb : ((aget ps t).getD LH.nil).xs.length ≤ 1048576) :
    Calls Try.prog 54 #[.int .i64 t, .int .i64 kind, .int .i64 on, .int .i64 arg, .pointer (some ⟨g, 0, none⟩)] w
      (RetPG w g 83 1 [fMW r ps, fO (rW ps)] fun v cs L => v = .tuple #[] ∧ cs = [.map (some r)] ∧ ∃ qs : List (Int × LH Waiting), pm qs = addM (pm ps) (t, ⟨kind, on, arg⟩) ∧ L = [fMW r qs, fO (rW qs)]) := by
  refine callsPGc_fn Try.func54 rfl tabOk w _ rfl _ rfl _ 83 _ 1 rfl hg _ _ h hoff trivial [.int .i64 t, .int .i64 kind, .int .i64 on, .int .i64 arg] _ rfl rfl ?_
  obtain ⟨u, hu⟩ : ∃ u, u = (aget ps t).getD LH.nil := ⟨_, rfl⟩
  have hpm : ∀ y, pm (aset ps t ⟨y, u.xs ++ [⟨kind, on, arg⟩]⟩) = addM (pm ps) (t, ⟨kind, on, arg⟩) := fun y => by rw [hu]; exact pm_add ps t _ y
  refine draw_shift (Shift.rowOut 1 t rfl) ?_
  rw [← hu] at hb ⊢
  refine draw_start tabOk (by kernel_rfl) (by kernel_rfl) (by kernel_rfl) 200 [((0, 0), .v (.map (some r)))] [] [] ⟨⟨_, rfl, rfl, (by first | exact trivial | exact Nat.le_of_ble_eq_true rfl)⟩, trivial⟩ ⟨⟨_, rfl⟩, trivial⟩ trivial rfl ?_
  refine BothW.mk ?_ ?_
  · refine d_lookup 2 (qk := .i64) (kt := 3) (et := 87) (z := .slice none 0 0) rfl rfl rfl rfl ⟨rfl, rfl⟩ (by kernel_rfl) (by kernel_rfl) (by kernel_rfl) (u.q.val u.xs.length) (by rw [hu]; cases aget ps t <;> rfl) ?_
    refine AllSl.mk fun b => ?_
    refine d_app (ti := tiOf tab) encWait 1 tabOk (ys := [⟨kind, on, arg⟩]) rfl rfl rfl rfl rfl rfl rfl rfl rfl (by decide) ⟨rfl, rfl⟩ rfl (by first | exact rdAt 0 rfl | exact rdOwnAt 0 rfl | exact rdAt 1 rfl | exact rdOwnAt 1 rfl | exact rdAt 2 rfl | exact rdOwnAt 2 rfl | exact rdAt 3 rfl | exact rdOwnAt 3 rfl | exact rdAt 4 rfl | exact rdOwnAt 4 rfl | exact rdAt 5 rfl | exact rdOwnAt 5 rfl | exact rdAt 6 rfl | exact rdOwnAt 6 rfl | exact rdAt 7 rfl | exact rdOwnAt 7 rfl | exact rdAt 8 rfl | exact rdOwnAt 8 rfl | exact rdAt 9 rfl | exact rdOwnAt 9 rfl | exact rdAt 10 rfl | exact rdOwnAt 10 rfl | exact rdAt 11 rfl | exact rdOwnAt 11 rfl | exact rdAt 12 rfl | exact rdOwnAt 12 rfl | exact rdAt 13 rfl | exact rdOwnAt 13 rfl | exact rdAt 14 rfl | exact rdOwnAt 14 rfl | exact rdAt 15 rfl | exact rdOwnAt 15 rfl | exact rdAt 16 rfl | exact rdOwnAt 16 rfl | exact rdAt 17 rfl | exact rdOwnAt 17 rfl | exact rdAt 18 rfl | exact rdOwnAt 18 rfl | exact rdAt 19 rfl | exact rdOwnAt 19 rfl | exact rdAt 20 rfl | exact rdOwnAt 20 rfl | exact rdAt 21 rfl | exact rdOwnAt 21 rfl | exact rdAt 22 rfl | exact rdOwnAt 22 rfl | exact rdAt 23 rfl | exact rdOwnAt 23 rfl) (by first | omega | (simp; done) | (simp; omega) | (unfold maxLen; omega) | (unfold maxLen; simp; done) | (unfold maxLen; simp; omega)) (by first | omega | (simp; done) | (simp; omega) | (unfold maxLen; omega) | (unfold maxLen; simp; done) | (unfold maxLen; simp; omega)) (by simp [keepF]) (fun y => ?_)
    refine d_mapset 3 (⟨y, u.xs ++ [⟨kind, on, arg⟩]⟩ : LH Waiting) (qk := .i64) (kt := 3) (et := 87) rfl rfl rfl rfl (fun _ => rfl) rfl rfl (by kernel_rfl) (by kernel_rfl) _ rfl (by simp [keepF]) ?_
    refine ret_shift (.joinO [1, 3] (Gs := [[_], _]) ⟨.inl ⟨_, rfl, .own⟩, .inl ⟨_, rfl, .o⟩, trivial⟩ rfl (G := rW (aset ps t ⟨y, u.xs ++ [⟨kind, on, arg⟩]⟩)) (.trans (.of_eq (by simp)) (rows_perm_set t (⟨y, u.xs ++ [⟨kind, on, arg⟩]⟩ : LH Waiting) ps))) ?_
    exact retPG [1, 0] ⟨rfl, rfl, _, hpm y, rfl⟩ rfl rfl ⟨.inl ⟨_, rfl, rfl⟩, .inl ⟨_, rfl, rfl⟩, trivial⟩ rfl ⟨rfl, rfl, trivial⟩ (fun _ => rfl)
  · refine AllSl.mk fun b => ?_
    refine d_lookup 3 (qk := .i64) (kt := 3) (et := 87) (z := .slice none 0 0) rfl rfl rfl rfl ⟨rfl, rfl⟩ (by kernel_rfl) (by kernel_rfl) (by kernel_rfl) (u.q.val u.xs.length) (by rw [hu]; cases aget ps t <;> rfl) ?_
    refine d_app (ti := tiOf tab) encWait 1 tabOk (ys := [⟨kind, on, arg⟩]) rfl rfl rfl rfl rfl rfl rfl rfl rfl (by decide) ⟨rfl, rfl⟩ rfl (by first | exact rdAt 0 rfl | exact rdOwnAt 0 rfl | exact rdAt 1 rfl | exact rdOwnAt 1 rfl | exact rdAt 2 rfl | exact rdOwnAt 2 rfl | exact rdAt 3 rfl | exact rdOwnAt 3 rfl | exact rdAt 4 rfl | exact rdOwnAt 4 rfl | exact rdAt 5 rfl | exact rdOwnAt 5 rfl | exact rdAt 6 rfl | exact rdOwnAt 6 rfl | exact rdAt 7 rfl | exact rdOwnAt 7 rfl | exact rdAt 8 rfl | exact rdOwnAt 8 rfl | exact rdAt 9 rfl | exact rdOwnAt 9 rfl | exact rdAt 10 rfl | exact rdOwnAt 10 rfl | exact rdAt 11 rfl | exact rdOwnAt 11 rfl | exact rdAt 12 rfl | exact rdOwnAt 12 rfl | exact rdAt 13 rfl | exact rdOwnAt 13 rfl | exact rdAt 14 rfl | exact rdOwnAt 14 rfl | exact rdAt 15 rfl | exact rdOwnAt 15 rfl | exact rdAt 16 rfl | exact rdOwnAt 16 rfl | exact rdAt 17 rfl | exact rdOwnAt 17 rfl | exact rdAt 18 rfl | exact rdOwnAt 18 rfl | exact rdAt 19 rfl | exact rdOwnAt 19 rfl | exact rdAt 20 rfl | exact rdOwnAt 20 rfl | exact rdAt 21 rfl | exact rdOwnAt 21 rfl | exact rdAt 22 rfl | exact rdOwnAt 22 rfl | exact rdAt 23 rfl | exact rdOwnAt 23 rfl) (by first | omega | (simp; done) | (simp; omega) | (unfold maxLen; omega) | (unfold maxLen; simp; done) | (unfold maxLen; simp; omega)) (by first | omega | (simp; done) | (simp; omega) | (unfold maxLen; omega) | (unfold maxLen; simp; done) | (unfold maxLen; simp; omega)) (by simp [keepF]) (fun y => ?_)
    refine d_mapset 3 (⟨y, u.xs ++ [⟨kind, on, arg⟩]⟩ : LH Waiting) (qk := .i64) (kt := 3) (et := 87) rfl rfl rfl rfl (fun _ => rfl) rfl rfl (by kernel_rfl) (by kernel_rfl) _ rfl (by simp [keepF]) ?_
    refine ret_shift (.joinO [1, 3] (Gs := [[_], _]) ⟨.inl ⟨_, rfl, .own⟩, .inl ⟨_, rfl, .o⟩, trivial⟩ rfl (G := rW (aset ps t ⟨y, u.xs ++ [⟨kind, on, arg⟩]⟩)) (.trans (.of_eq (by simp)) (rows_perm_set t (⟨y, u.xs ++ [⟨kind, on, arg⟩]⟩ : LH Waiting) ps))) ?_
    exact retPG [1, 0] ⟨rfl, rfl, _, hpm y, rfl⟩ rfl rfl ⟨.inl ⟨_, rfl, rfl⟩, .inl ⟨_, rfl, rfl⟩, trivial⟩ rfl ⟨rfl, rfl, trivial⟩ (fun _ => rfl)

end Go.Proofs.Ytjkkoonennpceaa

namespace Go.Proofs.Ytjkkoonennpceaa

open Go Go.Sx Go.RowKit

/-- What each thing tells, in their order. -/
def evL {α β : Type} (f : Nat → α → List β) : Nat → List α → List β
  | _, [] => []
  | i, x :: r => f i x ++ evL f (i + 1) r

theorem evL_append {α β : Type} (f : Nat → α → List β) : ∀ (i : Nat) (xs ys : List α), evL f i (xs ++ ys) = evL f i xs ++ evL f (i + xs.length) ys
  | i, [], ys => by simp [evL]
  | i, x :: r, ys => by
    simp only [List.cons_append, evL, List.length_cons, evL_append f (i + 1) r ys, List.append_assoc]
    rw [show i + 1 + r.length = i + (r.length + 1) by omega]

theorem evL_succ {α β : Type} (f : Nat → α → List β) (xs : List α) {k : Nat} (hk : k < xs.length) : evL f 0 (xs.take (k + 1)) = evL f 0 (xs.take k) ++ f k xs[k] := by
  rw [List.take_succ_eq_append_getElem hk, evL_append]
  simp only [evL, List.append_nil, Nat.zero_add, List.length_take]
  rw [Nat.min_eq_left (by omega)]

theorem evL_pre {α β : Type} (f : Nat → α → List β) (xs : List α) {k : Nat} (hk : k < xs.length) : (evL f 0 (xs.take k)).length + (f k xs[k]).length ≤ (evL f 0 xs).length := by
  have h := evL_append f 0 (xs.take (k + 1)) (xs.drop (k + 1))
  rw [List.take_append_drop] at h
  rw [h, List.length_append, evL_succ f xs hk, List.length_append]
  omega

def evSem (i : Nat) (x : Sem) : List (Int × Waiting) := x.queue.map fun w => (w.t, ⟨2, (i : Int), w.n⟩)

def evOnce (i : Nat) (x : Once) : List (Int × Waiting) := x.waits.map fun t => (t, ⟨4, (i : Int), 0⟩)

def evGroup (i : Nat) (x : Group) : List (Int × Waiting) := x.waits.map fun t => (t, ⟨6, (i : Int), 0⟩)

def evBarrier (i : Nat) (x : Barrier) : List (Int × Waiting) := x.waits.map fun t => (t, ⟨7, (i : Int), 0⟩)

def evChan (i : Nat) (x : Chan) : List (Int × Waiting) := (x.senders.map fun l => (l.t, ⟨8, (i : Int), l.v⟩)) ++ x.getters.map fun t => (t, ⟨9, (i : Int), 0⟩)

def evOwn (i : Nat) (x : Once) : List (Int × Int) := if x.state = 1 then [(x.owner, (i : Int))] else []

/-- Which threads wait, and for what. -/
def events (s : State) : List (Int × Waiting) := evL evSem 0 s.sems ++ evL evOnce 0 s.onces ++ evL evGroup 0 s.groups ++ evL evBarrier 0 s.barriers ++ evL evChan 0 s.chans

/-- Which threads own a once that runs. -/
def owners (s : State) : List (Int × Int) := evL evOwn 0 s.onces

theorem addM_len {β : Type} (m : List (Int × List β)) (e : Int × β) (t : Int) : ((aget (addM m e) t).getD []).length ≤ ((aget m t).getD []).length + 1 := by
  obtain ⟨k, x⟩ := e
  simp only [addM]
  generalize hu : (aget m k).getD [] = u
  have : ∀ m : List (Int × List β), (aget m k).getD [] = u → ((aget (aset m k (u ++ [x])) t).getD []).length ≤ ((aget m t).getD []).length + 1 := fun m => by
    induction m with
    | nil =>
      intro h
      have hu0 : u = [] := by simpa [aget] using h.symm
      subst hu0
      simp only [aset, aget]
      by_cases e : k = t <;> simp [e]
    | cons p r ih =>
      intro h
      obtain ⟨q, v⟩ := p
      simp only [aset, aget] at h ⊢
      by_cases e : q = k
      · subst e
        simp only [if_true, Option.getD_some] at h
        subst h
        simp only [if_true, aget]
        by_cases e2 : q = t
        · simp [e2]
        · simp [e2]
      · simp only [e, if_false] at h ⊢
        simp only [aget]
        by_cases e2 : q = t
        · simp [e2]
        · simp only [e2, if_false]
          exact ih h
  exact this m hu

theorem mapOf_len {β : Type} (es : List (Int × β)) (t : Int) : ((aget (mapOf es) t).getD []).length ≤ es.length := by
  have : ∀ (es : List (Int × β)) (m : List (Int × List β)), ((aget (es.foldl addM m) t).getD []).length ≤ ((aget m t).getD []).length + es.length := fun es => by
    induction es with
    | nil => intro m; simp
    | cons e r ih =>
      intro m
      have h1 := ih (addM m e)
      have h2 := addM_len m e t
      simp only [List.foldl_cons, List.length_cons]
      omega
  have := this es []
  simpa [mapOf, aget] using this

theorem pm_len {β : Type} {ps : List (Int × LH β)} {es : List (Int × β)} (h : pm ps = mapOf es) (t : Int) : ((aget ps t).getD LH.nil).xs.length ≤ es.length := by
  have h1 := mapOf_len es t
  rw [← h, pm_aget] at h1
  cases hq : aget ps t with
  | none => simp [LH.nil]
  | some u => rw [hq] at h1; simpa using h1

set_option maxHeartbeats 40000000 in
set_option maxRecDepth 100000 in
theorem waitingsOf_c (s : StateH) (w : World) (h : At w [fR (stateO s)]) (hN : (events s.pure).length ≤ 1048576) (hl : s.sems.length ≤ 1048576 ∧ s.onces.length ≤ 1048576 ∧ s.groups.length ≤ 1048576 ∧ s.barriers.length ≤ 1048576 ∧ s.chans.length ≤ 1048576) :
    Calls Try.prog 37 #[stateV s] w (Ret w fun v L => ∃ (r r2 : Nat) (ps : List (Int × LH Waiting)) (os : List (Int × LH Int)), v = .tuple #[.map (some r), .map (some r2)] ∧ pm ps = mapOf (events s.pure) ∧ pm os = mapOf (owners s.pure) ∧ L = [fMW r ps, fO (rW ps), fMap r2 venH os, fO (rI os)]) := by
  obtain ⟨l0, l1, l2, l3, l4⟩ := hl
  have hN' := hN
  simp only [events, List.length_append] at hN'
  have mlen : ∀ {α β : Type} (f : α → β) (xs : List α), (xs.map f).length = xs.length := fun f xs => by simp
  refine calls1 Try.func37 rfl tabOk w _ rfl _ rfl _ h ⟨rfl, rfl, trivial⟩ _ (by decide) ?_
  refine stop_makeMap (venH (β := Waiting)) rfl ⟨rfl, rfl⟩ (fun r => ?_)
  refine stop_makeMap (venH (β := Int)) rfl ⟨rfl, rfl⟩ (fun r2 => ?_)

  have hE0 : ∃ E : List (Int × Waiting), E = [] := ⟨[], rfl⟩
  have len0 : s.pure.sems.length = s.sems.length := mlen _ _
  refine LoopW.mk ⟨{ p : Nat × List (Int × LH Waiting) × List (Int × LH Int) // p.1 ≤ s.sems.length ∧ pm p.2.1 = mapOf (([] : List (Int × Waiting)) ++ evL evSem 0 (s.pure.sems.take p.1)) ∧ pm p.2.2 = mapOf ([] : List (Int × Int)) },
    fun p => .mk [(1, .p 0 0), (4, .p 1 0), (5, .v (.map (some r2))), (6, .f 54 [(1, 0)]), (33, .v (s.h2.val s.sems.length)), (34, .v (.int .i64 (s.sems.length : Int))), (35, .v (.int .i64 (p.1.1 : Int)))] 2 0 [(0, 34, 9), (1, 83, 1)]
      [((0, 2), .v (s.h2.val s.sems.length)), ((0, 3), .v (s.h3.val s.onces.length)), ((0, 4), .v (s.h4.val s.groups.length)), ((0, 5), .v (s.h5.val s.barriers.length)), ((0, 6), .v (s.h6.val s.chans.length)), ((1, 0), .v (.map (some r)))] [fMW r p.1.2.1, fO (rW p.1.2.1), fMap r2 venH p.1.2.2, fO (rI p.1.2.2), fR (stateO s)],
    fun p => s.sems.length - p.1.1, ⟨(0, [], []), Nat.zero_le _, rfl, rfl⟩, ?_, ?_⟩
  · refine weak_shift (.joinO [] (Gs := []) trivial rfl (G := rI []) (.refl _)) ?_
    refine weak_shift (.joinO [] (Gs := []) trivial rfl (G := rW []) (.refl _)) ?_
    refine weak_mk [3, 0, 2, 1, 4] ?_ ?_ ?_ ?_ ?_ rfl rfl
    · repeat (first | exact trivial | refine ⟨⟨_, rfl, (by first | exact .of rfl | exact .lit rfl | exact .of (by first | (rfl)) | exact .lit (by first | (rfl))), (by first | exact trivial | exact Nat.le_of_ble_eq_true rfl | exact small1 rfl)⟩, ?_⟩)
    · repeat (first | exact trivial | refine ⟨⟨(by first | exact .head _ | exact .tail _ (.head _) | exact .tail _ (.tail _ (.head _)) | exact .tail _ (.tail _ (.tail _ (.head _))) | exact .tail _ (.tail _ (.tail _ (.tail _ (.head _)))) | exact .tail _ (.tail _ (.tail _ (.tail _ (.tail _ (.head _))))) | exact .tail _ (.tail _ (.tail _ (.tail _ (.tail _ (.tail _ (.head _)))))) | exact .tail _ (.tail _ (.tail _ (.tail _ (.tail _ (.tail _ (.tail _ (.head _))))))) | exact .tail _ (.tail _ (.tail _ (.tail _ (.tail _ (.tail _ (.tail _ (.tail _ (.head _)))))))) | exact .tail _ (.tail _ (.tail _ (.tail _ (.tail _ (.tail _ (.tail _ (.tail _ (.tail _ (.head _)))))))))), Nat.le_of_ble_eq_true rfl⟩, ?_⟩)
    · repeat (first | exact trivial | refine ⟨⟨_, rfl, (by first | exact .of rfl | exact .lit rfl | exact .of (by first | (rfl)) | exact .lit (by first | (rfl))), (by first | exact trivial | exact Nat.le_of_ble_eq_true rfl | exact small1 rfl)⟩, ?_⟩)
    · repeat (first | exact trivial | refine ⟨⟨_, rfl⟩, ?_⟩)
    · repeat (first | exact trivial | refine ⟨.inl ⟨_, rfl, (by first | rfl | (rfl))⟩, ?_⟩ | refine ⟨.inr ⟨Nat.le_of_ble_eq_true rfl, rfl, rfl, rfl, rfl⟩, ?_⟩)
  rintro ⟨⟨k, ps, os⟩, hk, hps, hos⟩
  simp only at hk hps hos
  refine CaseB.mk (fun g => ?_) (fun g => ?_)
  · have hlt : k < s.sems.length := by simpa using g
    have hltp : k < s.pure.sems.length := by rw [len0]; exact hlt
    have hget : s.pure.sems[k] = (s.sems[k]).m := by simp [StateH.pure]
    have hpre := evL_pre evSem s.pure.sems hltp
    have hsucc := evL_succ evSem s.pure.sems hltp
    rw [hget] at hpre hsucc
    have hw := e_succ k _ hlt (by omega)
    refine stop_idx encSemH tabOk rfl rfl rfl rfl rfl ⟨rfl, rfl⟩ (rdVia 4 rfl (.trans (.R_R (stateO_sems s)) (.ofR nest_h))) k rfl (by first | omega | (simp; done) | (simp; omega) | (unfold maxLen; omega) | (unfold maxLen; simp; done) | (unfold maxLen; simp; omega)) (fun ad => ?_)
    refine LoopW.mk ⟨{ p : Nat × List (Int × LH Waiting) // p.1 ≤ (s.sems[k]).m.queue.length ∧ pm p.2 = mapOf (([] : List (Int × Waiting)) ++ evL evSem 0 (s.pure.sems.take k) ++ ((s.sems[k]).m.queue.take p.1).map fun x => (x.t, ⟨2, (k : Int), x.n⟩)) },
      fun p => .mk [(1, .p 0 0), (4, .p 1 0), (5, .v (.map (some r2))), (6, .f 54 [(1, 0)]), (33, .v (s.h2.val s.sems.length)), (34, .v (.int .i64 (s.sems.length : Int))), (35, .v (.int .i64 (k : Int))), (7, .v (.int .i64 (k : Int))), (8, .p 2 0), (41, .v ((s.sems[k]).q.val (s.sems[k]).m.queue.length)), (42, .v (.int .i64 ((s.sems[k]).m.queue.length : Int))), (43, .v (.int .i64 (p.1.1 : Int)))] 3 0 ((2, 45, 3) :: [(0, 34, 9), (1, 83, 1)])
        [((0, 2), .v (s.h2.val s.sems.length)), ((0, 3), .v (s.h3.val s.onces.length)), ((0, 4), .v (s.h4.val s.groups.length)), ((0, 5), .v (s.h5.val s.barriers.length)), ((0, 6), .v (s.h6.val s.chans.length)), ((1, 0), .v (.map (some r)))] [fMW r p.1.2, fO (rW p.1.2), fMap r2 venH os, fO (rI os), fR (stateO s)],
      fun p => (s.sems[k]).m.queue.length - p.1.1, ⟨(0, ps), Nat.zero_le _, by simpa using hps⟩, ?_, ?_⟩
    · refine weak_mk [0, 1, 2, 3, 4] ?_ ?_ ?_ ?_ ?_ rfl rfl
      · repeat (first | exact trivial | refine ⟨⟨_, rfl, (by first | exact .of rfl | exact .lit rfl | exact .of (by first | (rfl)) | exact .lit (by first | (rfl))), (by first | exact trivial | exact Nat.le_of_ble_eq_true rfl | exact small1 rfl)⟩, ?_⟩)
      · repeat (first | exact trivial | refine ⟨⟨(by first | exact .head _ | exact .tail _ (.head _) | exact .tail _ (.tail _ (.head _)) | exact .tail _ (.tail _ (.tail _ (.head _))) | exact .tail _ (.tail _ (.tail _ (.tail _ (.head _)))) | exact .tail _ (.tail _ (.tail _ (.tail _ (.tail _ (.head _))))) | exact .tail _ (.tail _ (.tail _ (.tail _ (.tail _ (.tail _ (.head _)))))) | exact .tail _ (.tail _ (.tail _ (.tail _ (.tail _ (.tail _ (.tail _ (.head _))))))) | exact .tail _ (.tail _ (.tail _ (.tail _ (.tail _ (.tail _ (.tail _ (.tail _ (.head _)))))))) | exact .tail _ (.tail _ (.tail _ (.tail _ (.tail _ (.tail _ (.tail _ (.tail _ (.tail _ (.head _)))))))))), Nat.le_of_ble_eq_true rfl⟩, ?_⟩)
      · repeat (first | exact trivial | refine ⟨⟨_, rfl, (by first | exact .of rfl | exact .lit rfl | exact .of (by first | (rfl)) | exact .lit (by first | (rfl))), (by first | exact trivial | exact Nat.le_of_ble_eq_true rfl | exact small1 rfl)⟩, ?_⟩)
      · repeat (first | exact trivial | refine ⟨⟨_, rfl⟩, ?_⟩)
      · repeat (first | exact trivial | refine ⟨.inl ⟨_, rfl, (by first | rfl | (rfl))⟩, ?_⟩ | refine ⟨.inr ⟨Nat.le_of_ble_eq_true rfl, rfl, rfl, rfl, rfl⟩, ?_⟩)
    rintro ⟨⟨j, ps⟩, hj, hps⟩
    simp only at hj hps
    refine CaseB.mk (fun g => ?_) (fun g => ?_)
    · have hlj : j < (s.sems[k]).m.queue.length := by simpa using g
      have hwj := e_succ j (s.sems[k]).m.queue.length hlj (by simp only [evSem, List.length_map] at hpre; omega)
      have hbnd : ∀ t, ((aget ps t).getD LH.nil).xs.length ≤ 1048576 := fun t => by
        have h1 := pm_len hps t
        simp only [List.length_append, List.length_map, List.length_take, List.length_nil] at h1
        have h2 : min j (s.sems[k]).m.queue.length ≤ (s.sems[k]).m.queue.length := Nat.min_le_right _ _
        simp only [evSem, List.length_map] at hpre; omega
      refine stop_idx encWaiter tabOk rfl rfl rfl rfl rfl ⟨rfl, rfl⟩ (rdVia 4 rfl (.trans (.R_R (stateO_sems s)) (.ofR (semsO_0 _ _ k hlt)))) j rfl (by first | omega | (simp; done) | (simp; omega) | (unfold maxLen; omega) | (unfold maxLen; simp; done) | (unfold maxLen; simp; omega)) (fun ad2 => ?_)
      refine stop_callPGc _ [0, 1] (G := [_, _]) cl54 rfl rfl rfl rfl ⟨rfl, rfl⟩ rfl rfl ⟨rfl, rfl, trivial⟩ ⟨rfl, rfl, rfl, rfl, trivial⟩ (fun A w ga hga hW hblk => wAdd_c _ _ _ _ ga r ps w hblk (hW.atG [0, 1] (G := [_, _]) ⟨rfl, rfl, trivial⟩ rfl ⟨rfl, rfl, rfl, rfl, trivial⟩ [] (Fo := []) trivial rfl) (hW.atG_off (by exact rfl) hga (ix := [0, 1]) (G := [_, _]) ⟨rfl, rfl, trivial⟩ (jx := []) (Fo := []) trivial) (hbnd _)) ?_
      rintro v cs L ⟨rfl, rfl, qs, hqs, rfl⟩
      refine ⟨⟨(j + 1, qs), by omega, ?_⟩, ?_, by simp only; omega⟩
      · rw [hqs, hps, ← mapOf_snoc, List.take_succ_eq_append_getElem hlj, List.map_append, List.map_cons, List.map_nil, List.append_assoc _ _ [_]]
      · refine weak_mk [0, 1, 2, 3, 4] ?_ ?_ ?_ ?_ ?_ rfl rfl
        · repeat (first | exact trivial | refine ⟨⟨_, rfl, (by first | exact .of rfl | exact .lit rfl | exact .of (by first | ((exact congrArg (fun z => SV.v (Value.int .i64 z)) hwj))) | exact .lit (by first | ((exact congrArg (fun z => SV.v (Value.int .i64 z)) hwj)))), (by first | exact trivial | exact Nat.le_of_ble_eq_true rfl | exact small1 rfl)⟩, ?_⟩)
        · repeat (first | exact trivial | refine ⟨⟨(by first | exact .head _ | exact .tail _ (.head _) | exact .tail _ (.tail _ (.head _)) | exact .tail _ (.tail _ (.tail _ (.head _))) | exact .tail _ (.tail _ (.tail _ (.tail _ (.head _)))) | exact .tail _ (.tail _ (.tail _ (.tail _ (.tail _ (.head _))))) | exact .tail _ (.tail _ (.tail _ (.tail _ (.tail _ (.tail _ (.head _)))))) | exact .tail _ (.tail _ (.tail _ (.tail _ (.tail _ (.tail _ (.tail _ (.head _))))))) | exact .tail _ (.tail _ (.tail _ (.tail _ (.tail _ (.tail _ (.tail _ (.tail _ (.head _)))))))) | exact .tail _ (.tail _ (.tail _ (.tail _ (.tail _ (.tail _ (.tail _ (.tail _ (.tail _ (.head _)))))))))), Nat.le_of_ble_eq_true rfl⟩, ?_⟩)
        · repeat (first | exact trivial | refine ⟨⟨_, rfl, (by first | exact .of rfl | exact .lit rfl | exact .of (by first | ((exact congrArg (fun z => SV.v (Value.int .i64 z)) hwj))) | exact .lit (by first | ((exact congrArg (fun z => SV.v (Value.int .i64 z)) hwj)))), (by first | exact trivial | exact Nat.le_of_ble_eq_true rfl | exact small1 rfl)⟩, ?_⟩)
        · repeat (first | exact trivial | refine ⟨⟨_, rfl⟩, ?_⟩)
        · repeat (first | exact trivial | refine ⟨.inl ⟨_, rfl, (by first | rfl | ((exact congrArg (fun z => SV.v (Value.int .i64 z)) hwj)))⟩, ?_⟩ | refine ⟨.inr ⟨Nat.le_of_ble_eq_true rfl, rfl, rfl, rfl, rfl⟩, ?_⟩)
    have hgj : (s.sems[k]).m.queue.length ≤ j := by simpa using g
    rw [List.take_of_length_le hgj] at hps
    refine ⟨⟨(k + 1, ps, os), by omega, ?_, hos⟩, ?_, by simp only; omega⟩
    · have e : ([] : List (Int × Waiting)) ++ evL evSem 0 (s.pure.sems.take (k + 1)) = ([] : List (Int × Waiting)) ++ evL evSem 0 (s.pure.sems.take k) ++ (s.sems[k]).m.queue.map fun x => (x.t, ⟨2, (k : Int), x.n⟩) := by rw [hsucc]; simp [evSem]
      show pm ps = mapOf _
      rw [e]; exact hps
    · refine weak_mk [0, 1, 2, 3, 4] ?_ ?_ ?_ ?_ ?_ rfl rfl
      · repeat (first | exact trivial | refine ⟨⟨_, rfl, (by first | exact .of rfl | exact .lit rfl | exact .of (by first | ((exact congrArg (fun z => SV.v (Value.int .i64 z)) hw))) | exact .lit (by first | ((exact congrArg (fun z => SV.v (Value.int .i64 z)) hw)))), (by first | exact trivial | exact Nat.le_of_ble_eq_true rfl | exact small1 rfl)⟩, ?_⟩)
      · repeat (first | exact trivial | refine ⟨⟨(by first | exact .head _ | exact .tail _ (.head _) | exact .tail _ (.tail _ (.head _)) | exact .tail _ (.tail _ (.tail _ (.head _))) | exact .tail _ (.tail _ (.tail _ (.tail _ (.head _)))) | exact .tail _ (.tail _ (.tail _ (.tail _ (.tail _ (.head _))))) | exact .tail _ (.tail _ (.tail _ (.tail _ (.tail _ (.tail _ (.head _)))))) | exact .tail _ (.tail _ (.tail _ (.tail _ (.tail _ (.tail _ (.tail _ (.head _))))))) | exact .tail _ (.tail _ (.tail _ (.tail _ (.tail _ (.tail _ (.tail _ (.tail _ (.head _)))))))) | exact .tail _ (.tail _ (.tail _ (.tail _ (.tail _ (.tail _ (.tail _ (.tail _ (.tail _ (.head _)))))))))), Nat.le_of_ble_eq_true rfl⟩, ?_⟩)
      · repeat (first | exact trivial | refine ⟨⟨_, rfl, (by first | exact .of rfl | exact .lit rfl | exact .of (by first | ((exact congrArg (fun z => SV.v (Value.int .i64 z)) hw))) | exact .lit (by first | ((exact congrArg (fun z => SV.v (Value.int .i64 z)) hw)))), (by first | exact trivial | exact Nat.le_of_ble_eq_true rfl | exact small1 rfl)⟩, ?_⟩)
      · repeat (first | exact trivial | refine ⟨⟨_, rfl⟩, ?_⟩)
      · repeat (first | exact trivial | refine ⟨.inl ⟨_, rfl, (by first | rfl | ((exact congrArg (fun z => SV.v (Value.int .i64 z)) hw)))⟩, ?_⟩ | refine ⟨.inr ⟨Nat.le_of_ble_eq_true rfl, rfl, rfl, rfl, rfl⟩, ?_⟩)
  have hge : s.sems.length ≤ k := by simpa using g
  rw [List.take_of_length_le (by rw [len0]; exact hge)] at hps
  rw [List.nil_append] at hps
  have len1 : s.pure.onces.length = s.onces.length := mlen _ _
  refine LoopW.mk ⟨{ p : Nat × List (Int × LH Waiting) × List (Int × LH Int) // p.1 ≤ s.onces.length ∧ pm p.2.1 = mapOf (evL evSem 0 s.pure.sems ++ evL evOnce 0 (s.pure.onces.take p.1)) ∧ pm p.2.2 = mapOf (evL evOwn 0 (s.pure.onces.take p.1)) },
    fun p => .mk [(1, .p 0 0), (4, .p 1 0), (5, .v (.map (some r2))), (6, .f 54 [(1, 0)]), (57, .v (s.h3.val s.onces.length)), (58, .v (.int .i64 (s.onces.length : Int))), (59, .v (.int .i64 (p.1.1 : Int)))] 2 0 [(0, 34, 9), (1, 83, 1)]
      [((0, 2), .v (s.h2.val s.sems.length)), ((0, 3), .v (s.h3.val s.onces.length)), ((0, 4), .v (s.h4.val s.groups.length)), ((0, 5), .v (s.h5.val s.barriers.length)), ((0, 6), .v (s.h6.val s.chans.length)), ((1, 0), .v (.map (some r)))] [fMW r p.1.2.1, fO (rW p.1.2.1), fMap r2 venH p.1.2.2, fO (rI p.1.2.2), fR (stateO s)],
    fun p => s.onces.length - p.1.1, ⟨(0, ps, os), Nat.zero_le _, by simpa [evL] using hps, by simpa [evL] using hos⟩, ?_, ?_⟩
  · refine weak_mk [0, 1, 2, 3, 4] ?_ ?_ ?_ ?_ ?_ rfl rfl
    · repeat (first | exact trivial | refine ⟨⟨_, rfl, (by first | exact .of rfl | exact .lit rfl | exact .of (by first | (rfl)) | exact .lit (by first | (rfl))), (by first | exact trivial | exact Nat.le_of_ble_eq_true rfl | exact small1 rfl)⟩, ?_⟩)
    · repeat (first | exact trivial | refine ⟨⟨(by first | exact .head _ | exact .tail _ (.head _) | exact .tail _ (.tail _ (.head _)) | exact .tail _ (.tail _ (.tail _ (.head _))) | exact .tail _ (.tail _ (.tail _ (.tail _ (.head _)))) | exact .tail _ (.tail _ (.tail _ (.tail _ (.tail _ (.head _))))) | exact .tail _ (.tail _ (.tail _ (.tail _ (.tail _ (.tail _ (.head _)))))) | exact .tail _ (.tail _ (.tail _ (.tail _ (.tail _ (.tail _ (.tail _ (.head _))))))) | exact .tail _ (.tail _ (.tail _ (.tail _ (.tail _ (.tail _ (.tail _ (.tail _ (.head _)))))))) | exact .tail _ (.tail _ (.tail _ (.tail _ (.tail _ (.tail _ (.tail _ (.tail _ (.tail _ (.head _)))))))))), Nat.le_of_ble_eq_true rfl⟩, ?_⟩)
    · repeat (first | exact trivial | refine ⟨⟨_, rfl, (by first | exact .of rfl | exact .lit rfl | exact .of (by first | (rfl)) | exact .lit (by first | (rfl))), (by first | exact trivial | exact Nat.le_of_ble_eq_true rfl | exact small1 rfl)⟩, ?_⟩)
    · repeat (first | exact trivial | refine ⟨⟨_, rfl⟩, ?_⟩)
    · repeat (first | exact trivial | refine ⟨.inl ⟨_, rfl, (by first | rfl | (rfl))⟩, ?_⟩ | refine ⟨.inr ⟨Nat.le_of_ble_eq_true rfl, rfl, rfl, rfl, rfl⟩, ?_⟩)
  rintro ⟨⟨k, ps, os⟩, hk, hps, hos⟩
  simp only at hk hps hos
  refine CaseB.mk (fun g => ?_) (fun g => ?_)
  · have hlt : k < s.onces.length := by simpa using g
    have hltp : k < s.pure.onces.length := by rw [len1]; exact hlt
    have hget : s.pure.onces[k] = (s.onces[k]).m := by simp [StateH.pure]
    have hpre := evL_pre evOnce s.pure.onces hltp
    have hsucc := evL_succ evOnce s.pure.onces hltp
    rw [hget] at hpre hsucc
    have hw := e_succ k _ hlt (by omega)
    refine stop_idx encOnceH tabOk rfl rfl rfl rfl rfl ⟨rfl, rfl⟩ (rdVia 4 rfl (.trans (.R_R (stateO_onces s)) (.ofR nest_h))) k rfl (by first | omega | (simp; done) | (simp; omega) | (unfold maxLen; omega) | (unfold maxLen; simp; done) | (unfold maxLen; simp; omega)) (fun ad => ?_)
    refine LoopW.mk ⟨{ p : Nat × List (Int × LH Waiting) // p.1 ≤ (s.onces[k]).m.waits.length ∧ pm p.2 = mapOf (evL evSem 0 s.pure.sems ++ evL evOnce 0 (s.pure.onces.take k) ++ ((s.onces[k]).m.waits.take p.1).map fun x => (x, ⟨4, (k : Int), 0⟩)) },
      fun p => .mk [(1, .p 0 0), (4, .p 1 0), (5, .v (.map (some r2))), (6, .f 54 [(1, 0)]), (57, .v (s.h3.val s.onces.length)), (58, .v (.int .i64 (s.onces.length : Int))), (59, .v (.int .i64 (k : Int))), (11, .v (.int .i64 (k : Int))), (12, .p 2 0), (65, .v ((s.onces[k]).q.val (s.onces[k]).m.waits.length)), (66, .v (.int .i64 ((s.onces[k]).m.waits.length : Int))), (67, .v (.int .i64 (p.1.1 : Int)))] 3 0 ((2, 57, 4) :: [(0, 34, 9), (1, 83, 1)])
        [((0, 2), .v (s.h2.val s.sems.length)), ((0, 3), .v (s.h3.val s.onces.length)), ((0, 4), .v (s.h4.val s.groups.length)), ((0, 5), .v (s.h5.val s.barriers.length)), ((0, 6), .v (s.h6.val s.chans.length)), ((1, 0), .v (.map (some r))), ((2, 0), .v (.int .i64 (s.onces[k]).m.state)), ((2, 1), .v (.int .i64 (s.onces[k]).m.owner))] [fMW r p.1.2, fO (rW p.1.2), fMap r2 venH os, fO (rI os), fR (stateO s)],
      fun p => (s.onces[k]).m.waits.length - p.1.1, ⟨(0, ps), Nat.zero_le _, by simpa using hps⟩, ?_, ?_⟩
    · refine weak_mk [0, 1, 2, 3, 4] ?_ ?_ ?_ ?_ ?_ rfl rfl
      · repeat (first | exact trivial | refine ⟨⟨_, rfl, (by first | exact .of rfl | exact .lit rfl | exact .of (by first | (rfl)) | exact .lit (by first | (rfl))), (by first | exact trivial | exact Nat.le_of_ble_eq_true rfl | exact small1 rfl)⟩, ?_⟩)
      · repeat (first | exact trivial | refine ⟨⟨(by first | exact .head _ | exact .tail _ (.head _) | exact .tail _ (.tail _ (.head _)) | exact .tail _ (.tail _ (.tail _ (.head _))) | exact .tail _ (.tail _ (.tail _ (.tail _ (.head _)))) | exact .tail _ (.tail _ (.tail _ (.tail _ (.tail _ (.head _))))) | exact .tail _ (.tail _ (.tail _ (.tail _ (.tail _ (.tail _ (.head _)))))) | exact .tail _ (.tail _ (.tail _ (.tail _ (.tail _ (.tail _ (.tail _ (.head _))))))) | exact .tail _ (.tail _ (.tail _ (.tail _ (.tail _ (.tail _ (.tail _ (.tail _ (.head _)))))))) | exact .tail _ (.tail _ (.tail _ (.tail _ (.tail _ (.tail _ (.tail _ (.tail _ (.tail _ (.head _)))))))))), Nat.le_of_ble_eq_true rfl⟩, ?_⟩)
      · repeat (first | exact trivial | refine ⟨⟨_, rfl, (by first | exact .of rfl | exact .lit rfl | exact .of (by first | (rfl)) | exact .lit (by first | (rfl))), (by first | exact trivial | exact Nat.le_of_ble_eq_true rfl | exact small1 rfl)⟩, ?_⟩)
      · repeat (first | exact trivial | refine ⟨⟨_, rfl⟩, ?_⟩)
      · repeat (first | exact trivial | refine ⟨.inl ⟨_, rfl, (by first | rfl | (rfl))⟩, ?_⟩ | refine ⟨.inr ⟨Nat.le_of_ble_eq_true rfl, rfl, rfl, rfl, rfl⟩, ?_⟩)
    rintro ⟨⟨j, ps⟩, hj, hps⟩
    simp only at hj hps
    refine CaseB.mk (fun g => ?_) (fun g => ?_)
    · have hlj : j < (s.onces[k]).m.waits.length := by simpa using g
      have hwj := e_succ j (s.onces[k]).m.waits.length hlj (by simp only [evOnce, List.length_map] at hpre; omega)
      have hbnd : ∀ t, ((aget ps t).getD LH.nil).xs.length ≤ 1048576 := fun t => by
        have h1 := pm_len hps t
        simp only [List.length_append, List.length_map, List.length_take] at h1
        have h2 : min j (s.onces[k]).m.waits.length ≤ (s.onces[k]).m.waits.length := Nat.min_le_right _ _
        simp only [evOnce, List.length_map] at hpre; omega
      refine stop_idx encInt tabOk rfl rfl rfl rfl rfl ⟨rfl, rfl⟩ (rdVia 4 rfl (.trans (.R_R (stateO_onces s)) (.ofR (oncesO_0 _ _ k hlt)))) j rfl (by first | omega | (simp; done) | (simp; omega) | (unfold maxLen; omega) | (unfold maxLen; simp; done) | (unfold maxLen; simp; omega)) (fun ad2 => ?_)
      refine stop_callPGc _ [0, 1] (G := [_, _]) cl54 rfl rfl rfl rfl ⟨rfl, rfl⟩ rfl rfl ⟨rfl, rfl, trivial⟩ ⟨rfl, rfl, rfl, rfl, trivial⟩ (fun A w ga hga hW hblk => wAdd_c _ _ _ _ ga r ps w hblk (hW.atG [0, 1] (G := [_, _]) ⟨rfl, rfl, trivial⟩ rfl ⟨rfl, rfl, rfl, rfl, trivial⟩ [] (Fo := []) trivial rfl) (hW.atG_off (by exact rfl) hga (ix := [0, 1]) (G := [_, _]) ⟨rfl, rfl, trivial⟩ (jx := []) (Fo := []) trivial) (hbnd _)) ?_
      rintro v cs L ⟨rfl, rfl, qs, hqs, rfl⟩
      refine ⟨⟨(j + 1, qs), by omega, ?_⟩, ?_, by simp only; omega⟩
      · rw [hqs, hps, ← mapOf_snoc, List.take_succ_eq_append_getElem hlj, List.map_append, List.map_cons, List.map_nil, List.append_assoc _ _ [_]]
      · refine weak_mk [0, 1, 2, 3, 4] ?_ ?_ ?_ ?_ ?_ rfl rfl
        · repeat (first | exact trivial | refine ⟨⟨_, rfl, (by first | exact .of rfl | exact .lit rfl | exact .of (by first | ((exact congrArg (fun z => SV.v (Value.int .i64 z)) hwj))) | exact .lit (by first | ((exact congrArg (fun z => SV.v (Value.int .i64 z)) hwj)))), (by first | exact trivial | exact Nat.le_of_ble_eq_true rfl | exact small1 rfl)⟩, ?_⟩)
        · repeat (first | exact trivial | refine ⟨⟨(by first | exact .head _ | exact .tail _ (.head _) | exact .tail _ (.tail _ (.head _)) | exact .tail _ (.tail _ (.tail _ (.head _))) | exact .tail _ (.tail _ (.tail _ (.tail _ (.head _)))) | exact .tail _ (.tail _ (.tail _ (.tail _ (.tail _ (.head _))))) | exact .tail _ (.tail _ (.tail _ (.tail _ (.tail _ (.tail _ (.head _)))))) | exact .tail _ (.tail _ (.tail _ (.tail _ (.tail _ (.tail _ (.tail _ (.head _))))))) | exact .tail _ (.tail _ (.tail _ (.tail _ (.tail _ (.tail _ (.tail _ (.tail _ (.head _)))))))) | exact .tail _ (.tail _ (.tail _ (.tail _ (.tail _ (.tail _ (.tail _ (.tail _ (.tail _ (.head _)))))))))), Nat.le_of_ble_eq_true rfl⟩, ?_⟩)
        · repeat (first | exact trivial | refine ⟨⟨_, rfl, (by first | exact .of rfl | exact .lit rfl | exact .of (by first | ((exact congrArg (fun z => SV.v (Value.int .i64 z)) hwj))) | exact .lit (by first | ((exact congrArg (fun z => SV.v (Value.int .i64 z)) hwj)))), (by first | exact trivial | exact Nat.le_of_ble_eq_true rfl | exact small1 rfl)⟩, ?_⟩)
        · repeat (first | exact trivial | refine ⟨⟨_, rfl⟩, ?_⟩)
        · repeat (first | exact trivial | refine ⟨.inl ⟨_, rfl, (by first | rfl | ((exact congrArg (fun z => SV.v (Value.int .i64 z)) hwj)))⟩, ?_⟩ | refine ⟨.inr ⟨Nat.le_of_ble_eq_true rfl, rfl, rfl, rfl, rfl⟩, ?_⟩)
    have hgj : (s.onces[k]).m.waits.length ≤ j := by simpa using g
    rw [List.take_of_length_le hgj] at hps
    refine CaseB.mk (fun g => ?_) (fun g => ?_)
    · have hst : (s.onces[k]).m.state = 1 := by simpa using g
      have hob := pm_len hos (s.onces[k]).m.owner
      have hoL : (evL evOwn 0 (s.pure.onces.take k)).length ≤ 1048576 := by
        have : ∀ (i : Nat) (xs : List Once), (evL evOwn i xs).length ≤ xs.length := fun i xs => by
          induction xs generalizing i with
          | nil => simp [evL]
          | cons x r ih =>
            have := ih (i + 1)
            simp only [evL, evOwn, List.length_append, List.length_cons]
            split <;> simp <;> omega
        have h2 := this 0 (s.pure.onces.take k)
        simp only [List.length_take] at h2
        omega
      obtain ⟨u, hu⟩ : ∃ u, u = (aget os (s.onces[k]).m.owner).getD LH.nil := ⟨_, rfl⟩
      have hpm : ∀ y, pm (aset os (s.onces[k]).m.owner ⟨y, u.xs ++ [(k : Int)]⟩) = addM (pm os) ((s.onces[k]).m.owner, (k : Int)) := fun y => by rw [hu]; exact pm_add os _ _ y
      have hsO := evL_succ evOwn s.pure.onces hltp
      rw [hget] at hsO
      have hfin : ∀ y, pm (aset os (s.onces[k]).m.owner ⟨y, u.xs ++ [(k : Int)]⟩) = mapOf (evL evOwn 0 (s.pure.onces.take (k + 1))) := fun y => by
        rw [hpm, hos, ← mapOf_snoc, hsO]; simp [evOwn, hst]
      rw [← hu] at hob
      refine draw_shift (Shift.rowOut 3 (s.onces[k]).m.owner rfl) ?_
      rw [← hu]
      refine draw_start tabOk (by kernel_rfl) (by kernel_rfl) (by kernel_rfl) 200 [((2, 1), .v (.int .i64 (s.onces[k]).m.owner))] [] [] ⟨⟨_, rfl, rfl, (by first | exact trivial | exact Nat.le_of_ble_eq_true rfl)⟩, trivial⟩ ⟨⟨_, rfl⟩, trivial⟩ trivial rfl ?_
      refine BothW.mk ?_ ?_
      · refine d_lookup 4 (qk := .i64) (kt := 3) (et := 23) (z := .slice none 0 0) rfl rfl rfl rfl ⟨rfl, rfl⟩ (by kernel_rfl) (by kernel_rfl) (by kernel_rfl) (u.q.val u.xs.length) (by rw [hu]; cases aget os (s.onces[k]).m.owner <;> rfl) ?_
        refine AllSl.mk fun b => ?_
        refine d_app (ti := tiOf tab) encInt 1 tabOk (ys := [(k : Int)]) rfl rfl rfl rfl rfl rfl rfl rfl rfl (by decide) ⟨rfl, rfl⟩ rfl (by first | exact rdAt 0 rfl | exact rdOwnAt 0 rfl | exact rdAt 1 rfl | exact rdOwnAt 1 rfl | exact rdAt 2 rfl | exact rdOwnAt 2 rfl | exact rdAt 3 rfl | exact rdOwnAt 3 rfl | exact rdAt 4 rfl | exact rdOwnAt 4 rfl | exact rdAt 5 rfl | exact rdOwnAt 5 rfl | exact rdAt 6 rfl | exact rdOwnAt 6 rfl | exact rdAt 7 rfl | exact rdOwnAt 7 rfl | exact rdAt 8 rfl | exact rdOwnAt 8 rfl | exact rdAt 9 rfl | exact rdOwnAt 9 rfl | exact rdAt 10 rfl | exact rdOwnAt 10 rfl | exact rdAt 11 rfl | exact rdOwnAt 11 rfl | exact rdAt 12 rfl | exact rdOwnAt 12 rfl | exact rdAt 13 rfl | exact rdOwnAt 13 rfl | exact rdAt 14 rfl | exact rdOwnAt 14 rfl | exact rdAt 15 rfl | exact rdOwnAt 15 rfl | exact rdAt 16 rfl | exact rdOwnAt 16 rfl | exact rdAt 17 rfl | exact rdOwnAt 17 rfl | exact rdAt 18 rfl | exact rdOwnAt 18 rfl | exact rdAt 19 rfl | exact rdOwnAt 19 rfl | exact rdAt 20 rfl | exact rdOwnAt 20 rfl | exact rdAt 21 rfl | exact rdOwnAt 21 rfl | exact rdAt 22 rfl | exact rdOwnAt 22 rfl | exact rdAt 23 rfl | exact rdOwnAt 23 rfl) (by first | omega | (simp; done) | (simp; omega) | (unfold maxLen; omega) | (unfold maxLen; simp; done) | (unfold maxLen; simp; omega)) (by first | omega | (simp; done) | (simp; omega) | (unfold maxLen; omega) | (unfold maxLen; simp; done) | (unfold maxLen; simp; omega)) (by simp [keepF]) (fun y => ?_)
        refine d_mapset 5 (⟨y, u.xs ++ [(k : Int)]⟩ : LH Int) (qk := .i64) (kt := 3) (et := 23) rfl rfl rfl rfl (fun _ => rfl) rfl rfl (by kernel_rfl) (by kernel_rfl) _ rfl (by simp [keepF]) ?_
        refine ⟨⟨(k + 1, ps, aset os (s.onces[k]).m.owner ⟨y, u.xs ++ [(k : Int)]⟩), by omega, ?_, hfin y⟩, ?_, by simp only; omega⟩
        · have e : evL evSem 0 s.pure.sems ++ evL evOnce 0 (s.pure.onces.take (k + 1)) = evL evSem 0 s.pure.sems ++ evL evOnce 0 (s.pure.onces.take k) ++ (s.onces[k]).m.waits.map fun x => (x, ⟨4, (k : Int), 0⟩) := by rw [hsucc]; simp [evOnce]
          show pm ps = mapOf _
          rw [e]; exact hps
        · refine weak_shift (.joinO [1, 3] (Gs := [[_], _]) ⟨.inl ⟨_, rfl, .own⟩, .inl ⟨_, rfl, .o⟩, trivial⟩ rfl (G := rI (aset os (s.onces[k]).m.owner ⟨y, u.xs ++ [(k : Int)]⟩)) (.trans (.of_eq (by simp)) (rows_perm_set _ (⟨y, u.xs ++ [(k : Int)]⟩ : LH Int) os))) ?_
          refine weak_mk [3, 4, 1, 0, 5] ?_ ?_ ?_ ?_ ?_ rfl rfl
          · repeat (first | exact trivial | refine ⟨⟨_, rfl, (by first | exact .of rfl | exact .lit rfl | exact .of (by first | ((exact congrArg (fun z => SV.v (Value.int .i64 z)) hw))) | exact .lit (by first | ((exact congrArg (fun z => SV.v (Value.int .i64 z)) hw)))), (by first | exact trivial | exact Nat.le_of_ble_eq_true rfl | exact small1 rfl)⟩, ?_⟩)
          · repeat (first | exact trivial | refine ⟨⟨(by first | exact .head _ | exact .tail _ (.head _) | exact .tail _ (.tail _ (.head _)) | exact .tail _ (.tail _ (.tail _ (.head _))) | exact .tail _ (.tail _ (.tail _ (.tail _ (.head _)))) | exact .tail _ (.tail _ (.tail _ (.tail _ (.tail _ (.head _))))) | exact .tail _ (.tail _ (.tail _ (.tail _ (.tail _ (.tail _ (.head _)))))) | exact .tail _ (.tail _ (.tail _ (.tail _ (.tail _ (.tail _ (.tail _ (.head _))))))) | exact .tail _ (.tail _ (.tail _ (.tail _ (.tail _ (.tail _ (.tail _ (.tail _ (.head _)))))))) | exact .tail _ (.tail _ (.tail _ (.tail _ (.tail _ (.tail _ (.tail _ (.tail _ (.tail _ (.head _)))))))))), Nat.le_of_ble_eq_true rfl⟩, ?_⟩)
          · repeat (first | exact trivial | refine ⟨⟨_, rfl, (by first | exact .of rfl | exact .lit rfl | exact .of (by first | ((exact congrArg (fun z => SV.v (Value.int .i64 z)) hw))) | exact .lit (by first | ((exact congrArg (fun z => SV.v (Value.int .i64 z)) hw)))), (by first | exact trivial | exact Nat.le_of_ble_eq_true rfl | exact small1 rfl)⟩, ?_⟩)
          · repeat (first | exact trivial | refine ⟨⟨_, rfl⟩, ?_⟩)
          · repeat (first | exact trivial | refine ⟨.inl ⟨_, rfl, (by first | rfl | ((exact congrArg (fun z => SV.v (Value.int .i64 z)) hw)))⟩, ?_⟩ | refine ⟨.inr ⟨Nat.le_of_ble_eq_true rfl, rfl, rfl, rfl, rfl⟩, ?_⟩)
      · refine AllSl.mk fun b => ?_
        refine d_lookup 5 (qk := .i64) (kt := 3) (et := 23) (z := .slice none 0 0) rfl rfl rfl rfl ⟨rfl, rfl⟩ (by kernel_rfl) (by kernel_rfl) (by kernel_rfl) (u.q.val u.xs.length) (by rw [hu]; cases aget os (s.onces[k]).m.owner <;> rfl) ?_
        refine d_app (ti := tiOf tab) encInt 1 tabOk (ys := [(k : Int)]) rfl rfl rfl rfl rfl rfl rfl rfl rfl (by decide) ⟨rfl, rfl⟩ rfl (by first | exact rdAt 0 rfl | exact rdOwnAt 0 rfl | exact rdAt 1 rfl | exact rdOwnAt 1 rfl | exact rdAt 2 rfl | exact rdOwnAt 2 rfl | exact rdAt 3 rfl | exact rdOwnAt 3 rfl | exact rdAt 4 rfl | exact rdOwnAt 4 rfl | exact rdAt 5 rfl | exact rdOwnAt 5 rfl | exact rdAt 6 rfl | exact rdOwnAt 6 rfl | exact rdAt 7 rfl | exact rdOwnAt 7 rfl | exact rdAt 8 rfl | exact rdOwnAt 8 rfl | exact rdAt 9 rfl | exact rdOwnAt 9 rfl | exact rdAt 10 rfl | exact rdOwnAt 10 rfl | exact rdAt 11 rfl | exact rdOwnAt 11 rfl | exact rdAt 12 rfl | exact rdOwnAt 12 rfl | exact rdAt 13 rfl | exact rdOwnAt 13 rfl | exact rdAt 14 rfl | exact rdOwnAt 14 rfl | exact rdAt 15 rfl | exact rdOwnAt 15 rfl | exact rdAt 16 rfl | exact rdOwnAt 16 rfl | exact rdAt 17 rfl | exact rdOwnAt 17 rfl | exact rdAt 18 rfl | exact rdOwnAt 18 rfl | exact rdAt 19 rfl | exact rdOwnAt 19 rfl | exact rdAt 20 rfl | exact rdOwnAt 20 rfl | exact rdAt 21 rfl | exact rdOwnAt 21 rfl | exact rdAt 22 rfl | exact rdOwnAt 22 rfl | exact rdAt 23 rfl | exact rdOwnAt 23 rfl) (by first | omega | (simp; done) | (simp; omega) | (unfold maxLen; omega) | (unfold maxLen; simp; done) | (unfold maxLen; simp; omega)) (by first | omega | (simp; done) | (simp; omega) | (unfold maxLen; omega) | (unfold maxLen; simp; done) | (unfold maxLen; simp; omega)) (by simp [keepF]) (fun y => ?_)
        refine d_mapset 5 (⟨y, u.xs ++ [(k : Int)]⟩ : LH Int) (qk := .i64) (kt := 3) (et := 23) rfl rfl rfl rfl (fun _ => rfl) rfl rfl (by kernel_rfl) (by kernel_rfl) _ rfl (by simp [keepF]) ?_
        refine ⟨⟨(k + 1, ps, aset os (s.onces[k]).m.owner ⟨y, u.xs ++ [(k : Int)]⟩), by omega, ?_, hfin y⟩, ?_, by simp only; omega⟩
        · have e : evL evSem 0 s.pure.sems ++ evL evOnce 0 (s.pure.onces.take (k + 1)) = evL evSem 0 s.pure.sems ++ evL evOnce 0 (s.pure.onces.take k) ++ (s.onces[k]).m.waits.map fun x => (x, ⟨4, (k : Int), 0⟩) := by rw [hsucc]; simp [evOnce]
          show pm ps = mapOf _
          rw [e]; exact hps
        · refine weak_shift (.joinO [1, 3] (Gs := [[_], _]) ⟨.inl ⟨_, rfl, .own⟩, .inl ⟨_, rfl, .o⟩, trivial⟩ rfl (G := rI (aset os (s.onces[k]).m.owner ⟨y, u.xs ++ [(k : Int)]⟩)) (.trans (.of_eq (by simp)) (rows_perm_set _ (⟨y, u.xs ++ [(k : Int)]⟩ : LH Int) os))) ?_
          refine weak_mk [3, 4, 1, 0, 5] ?_ ?_ ?_ ?_ ?_ rfl rfl
          · repeat (first | exact trivial | refine ⟨⟨_, rfl, (by first | exact .of rfl | exact .lit rfl | exact .of (by first | ((exact congrArg (fun z => SV.v (Value.int .i64 z)) hw))) | exact .lit (by first | ((exact congrArg (fun z => SV.v (Value.int .i64 z)) hw)))), (by first | exact trivial | exact Nat.le_of_ble_eq_true rfl | exact small1 rfl)⟩, ?_⟩)
          · repeat (first | exact trivial | refine ⟨⟨(by first | exact .head _ | exact .tail _ (.head _) | exact .tail _ (.tail _ (.head _)) | exact .tail _ (.tail _ (.tail _ (.head _))) | exact .tail _ (.tail _ (.tail _ (.tail _ (.head _)))) | exact .tail _ (.tail _ (.tail _ (.tail _ (.tail _ (.head _))))) | exact .tail _ (.tail _ (.tail _ (.tail _ (.tail _ (.tail _ (.head _)))))) | exact .tail _ (.tail _ (.tail _ (.tail _ (.tail _ (.tail _ (.tail _ (.head _))))))) | exact .tail _ (.tail _ (.tail _ (.tail _ (.tail _ (.tail _ (.tail _ (.tail _ (.head _)))))))) | exact .tail _ (.tail _ (.tail _ (.tail _ (.tail _ (.tail _ (.tail _ (.tail _ (.tail _ (.head _)))))))))), Nat.le_of_ble_eq_true rfl⟩, ?_⟩)
          · repeat (first | exact trivial | refine ⟨⟨_, rfl, (by first | exact .of rfl | exact .lit rfl | exact .of (by first | ((exact congrArg (fun z => SV.v (Value.int .i64 z)) hw))) | exact .lit (by first | ((exact congrArg (fun z => SV.v (Value.int .i64 z)) hw)))), (by first | exact trivial | exact Nat.le_of_ble_eq_true rfl | exact small1 rfl)⟩, ?_⟩)
          · repeat (first | exact trivial | refine ⟨⟨_, rfl⟩, ?_⟩)
          · repeat (first | exact trivial | refine ⟨.inl ⟨_, rfl, (by first | rfl | ((exact congrArg (fun z => SV.v (Value.int .i64 z)) hw)))⟩, ?_⟩ | refine ⟨.inr ⟨Nat.le_of_ble_eq_true rfl, rfl, rfl, rfl, rfl⟩, ?_⟩)
    have hst : ¬ (s.onces[k]).m.state = 1 := by simpa using g
    have hsO := evL_succ evOwn s.pure.onces hltp
    rw [hget] at hsO
    refine ⟨⟨(k + 1, ps, os), by omega, ?_, by rw [hsO]; simpa [evOwn, hst] using hos⟩, ?_, by simp only; omega⟩
    · have e : evL evSem 0 s.pure.sems ++ evL evOnce 0 (s.pure.onces.take (k + 1)) = evL evSem 0 s.pure.sems ++ evL evOnce 0 (s.pure.onces.take k) ++ (s.onces[k]).m.waits.map fun x => (x, ⟨4, (k : Int), 0⟩) := by rw [hsucc]; simp [evOnce]
      show pm ps = mapOf _
      rw [e]; exact hps
    · refine weak_mk [0, 1, 2, 3, 4] ?_ ?_ ?_ ?_ ?_ rfl rfl
      · repeat (first | exact trivial | refine ⟨⟨_, rfl, (by first | exact .of rfl | exact .lit rfl | exact .of (by first | ((exact congrArg (fun z => SV.v (Value.int .i64 z)) hw))) | exact .lit (by first | ((exact congrArg (fun z => SV.v (Value.int .i64 z)) hw)))), (by first | exact trivial | exact Nat.le_of_ble_eq_true rfl | exact small1 rfl)⟩, ?_⟩)
      · repeat (first | exact trivial | refine ⟨⟨(by first | exact .head _ | exact .tail _ (.head _) | exact .tail _ (.tail _ (.head _)) | exact .tail _ (.tail _ (.tail _ (.head _))) | exact .tail _ (.tail _ (.tail _ (.tail _ (.head _)))) | exact .tail _ (.tail _ (.tail _ (.tail _ (.tail _ (.head _))))) | exact .tail _ (.tail _ (.tail _ (.tail _ (.tail _ (.tail _ (.head _)))))) | exact .tail _ (.tail _ (.tail _ (.tail _ (.tail _ (.tail _ (.tail _ (.head _))))))) | exact .tail _ (.tail _ (.tail _ (.tail _ (.tail _ (.tail _ (.tail _ (.tail _ (.head _)))))))) | exact .tail _ (.tail _ (.tail _ (.tail _ (.tail _ (.tail _ (.tail _ (.tail _ (.tail _ (.head _)))))))))), Nat.le_of_ble_eq_true rfl⟩, ?_⟩)
      · repeat (first | exact trivial | refine ⟨⟨_, rfl, (by first | exact .of rfl | exact .lit rfl | exact .of (by first | ((exact congrArg (fun z => SV.v (Value.int .i64 z)) hw))) | exact .lit (by first | ((exact congrArg (fun z => SV.v (Value.int .i64 z)) hw)))), (by first | exact trivial | exact Nat.le_of_ble_eq_true rfl | exact small1 rfl)⟩, ?_⟩)
      · repeat (first | exact trivial | refine ⟨⟨_, rfl⟩, ?_⟩)
      · repeat (first | exact trivial | refine ⟨.inl ⟨_, rfl, (by first | rfl | ((exact congrArg (fun z => SV.v (Value.int .i64 z)) hw)))⟩, ?_⟩ | refine ⟨.inr ⟨Nat.le_of_ble_eq_true rfl, rfl, rfl, rfl, rfl⟩, ?_⟩)
  have hge : s.onces.length ≤ k := by simpa using g
  rw [List.take_of_length_le (by rw [len1]; exact hge)] at hps
  rw [List.take_of_length_le (by rw [len1]; exact hge)] at hos
  have len2 : s.pure.groups.length = s.groups.length := mlen _ _
  refine LoopW.mk ⟨{ p : Nat × List (Int × LH Waiting) × List (Int × LH Int) // p.1 ≤ s.groups.length ∧ pm p.2.1 = mapOf (evL evSem 0 s.pure.sems ++ evL evOnce 0 s.pure.onces ++ evL evGroup 0 (s.pure.groups.take p.1)) ∧ pm p.2.2 = mapOf (owners s.pure) },
    fun p => .mk [(1, .p 0 0), (4, .p 1 0), (5, .v (.map (some r2))), (6, .f 54 [(1, 0)]), (91, .v (s.h4.val s.groups.length)), (92, .v (.int .i64 (s.groups.length : Int))), (93, .v (.int .i64 (p.1.1 : Int)))] 2 0 [(0, 34, 9), (1, 83, 1)]
      [((0, 2), .v (s.h2.val s.sems.length)), ((0, 3), .v (s.h3.val s.onces.length)), ((0, 4), .v (s.h4.val s.groups.length)), ((0, 5), .v (s.h5.val s.barriers.length)), ((0, 6), .v (s.h6.val s.chans.length)), ((1, 0), .v (.map (some r)))] [fMW r p.1.2.1, fO (rW p.1.2.1), fMap r2 venH p.1.2.2, fO (rI p.1.2.2), fR (stateO s)],
    fun p => s.groups.length - p.1.1, ⟨(0, ps, os), Nat.zero_le _, by simpa [evL] using hps, hos⟩, ?_, ?_⟩
  · refine weak_mk [0, 1, 2, 3, 4] ?_ ?_ ?_ ?_ ?_ rfl rfl
    · repeat (first | exact trivial | refine ⟨⟨_, rfl, (by first | exact .of rfl | exact .lit rfl | exact .of (by first | (rfl)) | exact .lit (by first | (rfl))), (by first | exact trivial | exact Nat.le_of_ble_eq_true rfl | exact small1 rfl)⟩, ?_⟩)
    · repeat (first | exact trivial | refine ⟨⟨(by first | exact .head _ | exact .tail _ (.head _) | exact .tail _ (.tail _ (.head _)) | exact .tail _ (.tail _ (.tail _ (.head _))) | exact .tail _ (.tail _ (.tail _ (.tail _ (.head _)))) | exact .tail _ (.tail _ (.tail _ (.tail _ (.tail _ (.head _))))) | exact .tail _ (.tail _ (.tail _ (.tail _ (.tail _ (.tail _ (.head _)))))) | exact .tail _ (.tail _ (.tail _ (.tail _ (.tail _ (.tail _ (.tail _ (.head _))))))) | exact .tail _ (.tail _ (.tail _ (.tail _ (.tail _ (.tail _ (.tail _ (.tail _ (.head _)))))))) | exact .tail _ (.tail _ (.tail _ (.tail _ (.tail _ (.tail _ (.tail _ (.tail _ (.tail _ (.head _)))))))))), Nat.le_of_ble_eq_true rfl⟩, ?_⟩)
    · repeat (first | exact trivial | refine ⟨⟨_, rfl, (by first | exact .of rfl | exact .lit rfl | exact .of (by first | (rfl)) | exact .lit (by first | (rfl))), (by first | exact trivial | exact Nat.le_of_ble_eq_true rfl | exact small1 rfl)⟩, ?_⟩)
    · repeat (first | exact trivial | refine ⟨⟨_, rfl⟩, ?_⟩)
    · repeat (first | exact trivial | refine ⟨.inl ⟨_, rfl, (by first | rfl | (rfl))⟩, ?_⟩ | refine ⟨.inr ⟨Nat.le_of_ble_eq_true rfl, rfl, rfl, rfl, rfl⟩, ?_⟩)
  rintro ⟨⟨k, ps, os⟩, hk, hps, hos⟩
  simp only at hk hps hos
  refine CaseB.mk (fun g => ?_) (fun g => ?_)
  · have hlt : k < s.groups.length := by simpa using g
    have hltp : k < s.pure.groups.length := by rw [len2]; exact hlt
    have hget : s.pure.groups[k] = (s.groups[k]).m := by simp [StateH.pure]
    have hpre := evL_pre evGroup s.pure.groups hltp
    have hsucc := evL_succ evGroup s.pure.groups hltp
    rw [hget] at hpre hsucc
    have hw := e_succ k _ hlt (by omega)
    refine stop_idx encGroupH tabOk rfl rfl rfl rfl rfl ⟨rfl, rfl⟩ (rdVia 4 rfl (.trans (.R_R (stateO_groups s)) (.ofR nest_h))) k rfl (by first | omega | (simp; done) | (simp; omega) | (unfold maxLen; omega) | (unfold maxLen; simp; done) | (unfold maxLen; simp; omega)) (fun ad => ?_)
    refine LoopW.mk ⟨{ p : Nat × List (Int × LH Waiting) // p.1 ≤ (s.groups[k]).m.waits.length ∧ pm p.2 = mapOf (evL evSem 0 s.pure.sems ++ evL evOnce 0 s.pure.onces ++ evL evGroup 0 (s.pure.groups.take k) ++ ((s.groups[k]).m.waits.take p.1).map fun x => (x, ⟨6, (k : Int), 0⟩)) },
      fun p => .mk [(1, .p 0 0), (4, .p 1 0), (5, .v (.map (some r2))), (6, .f 54 [(1, 0)]), (91, .v (s.h4.val s.groups.length)), (92, .v (.int .i64 (s.groups.length : Int))), (93, .v (.int .i64 (k : Int))), (15, .v (.int .i64 (k : Int))), (16, .p 2 0), (99, .v ((s.groups[k]).q.val (s.groups[k]).m.waits.length)), (100, .v (.int .i64 ((s.groups[k]).m.waits.length : Int))), (101, .v (.int .i64 (p.1.1 : Int)))] 3 0 ((2, 47, 2) :: [(0, 34, 9), (1, 83, 1)])
        [((0, 2), .v (s.h2.val s.sems.length)), ((0, 3), .v (s.h3.val s.onces.length)), ((0, 4), .v (s.h4.val s.groups.length)), ((0, 5), .v (s.h5.val s.barriers.length)), ((0, 6), .v (s.h6.val s.chans.length)), ((1, 0), .v (.map (some r)))] [fMW r p.1.2, fO (rW p.1.2), fMap r2 venH os, fO (rI os), fR (stateO s)],
      fun p => (s.groups[k]).m.waits.length - p.1.1, ⟨(0, ps), Nat.zero_le _, by simpa using hps⟩, ?_, ?_⟩
    · refine weak_mk [0, 1, 2, 3, 4] ?_ ?_ ?_ ?_ ?_ rfl rfl
      · repeat (first | exact trivial | refine ⟨⟨_, rfl, (by first | exact .of rfl | exact .lit rfl | exact .of (by first | (rfl)) | exact .lit (by first | (rfl))), (by first | exact trivial | exact Nat.le_of_ble_eq_true rfl | exact small1 rfl)⟩, ?_⟩)
      · repeat (first | exact trivial | refine ⟨⟨(by first | exact .head _ | exact .tail _ (.head _) | exact .tail _ (.tail _ (.head _)) | exact .tail _ (.tail _ (.tail _ (.head _))) | exact .tail _ (.tail _ (.tail _ (.tail _ (.head _)))) | exact .tail _ (.tail _ (.tail _ (.tail _ (.tail _ (.head _))))) | exact .tail _ (.tail _ (.tail _ (.tail _ (.tail _ (.tail _ (.head _)))))) | exact .tail _ (.tail _ (.tail _ (.tail _ (.tail _ (.tail _ (.tail _ (.head _))))))) | exact .tail _ (.tail _ (.tail _ (.tail _ (.tail _ (.tail _ (.tail _ (.tail _ (.head _)))))))) | exact .tail _ (.tail _ (.tail _ (.tail _ (.tail _ (.tail _ (.tail _ (.tail _ (.tail _ (.head _)))))))))), Nat.le_of_ble_eq_true rfl⟩, ?_⟩)
      · repeat (first | exact trivial | refine ⟨⟨_, rfl, (by first | exact .of rfl | exact .lit rfl | exact .of (by first | (rfl)) | exact .lit (by first | (rfl))), (by first | exact trivial | exact Nat.le_of_ble_eq_true rfl | exact small1 rfl)⟩, ?_⟩)
      · repeat (first | exact trivial | refine ⟨⟨_, rfl⟩, ?_⟩)
      · repeat (first | exact trivial | refine ⟨.inl ⟨_, rfl, (by first | rfl | (rfl))⟩, ?_⟩ | refine ⟨.inr ⟨Nat.le_of_ble_eq_true rfl, rfl, rfl, rfl, rfl⟩, ?_⟩)
    rintro ⟨⟨j, ps⟩, hj, hps⟩
    simp only at hj hps
    refine CaseB.mk (fun g => ?_) (fun g => ?_)
    · have hlj : j < (s.groups[k]).m.waits.length := by simpa using g
      have hwj := e_succ j (s.groups[k]).m.waits.length hlj (by simp only [evGroup, List.length_map] at hpre; omega)
      have hbnd : ∀ t, ((aget ps t).getD LH.nil).xs.length ≤ 1048576 := fun t => by
        have h1 := pm_len hps t
        simp only [List.length_append, List.length_map, List.length_take] at h1
        have h2 : min j (s.groups[k]).m.waits.length ≤ (s.groups[k]).m.waits.length := Nat.min_le_right _ _
        simp only [evGroup, List.length_map] at hpre; omega
      refine stop_idx encInt tabOk rfl rfl rfl rfl rfl ⟨rfl, rfl⟩ (rdVia 4 rfl (.trans (.R_R (stateO_groups s)) (.ofR (groupsO_0 _ _ k hlt)))) j rfl (by first | omega | (simp; done) | (simp; omega) | (unfold maxLen; omega) | (unfold maxLen; simp; done) | (unfold maxLen; simp; omega)) (fun ad2 => ?_)
      refine stop_callPGc _ [0, 1] (G := [_, _]) cl54 rfl rfl rfl rfl ⟨rfl, rfl⟩ rfl rfl ⟨rfl, rfl, trivial⟩ ⟨rfl, rfl, rfl, rfl, trivial⟩ (fun A w ga hga hW hblk => wAdd_c _ _ _ _ ga r ps w hblk (hW.atG [0, 1] (G := [_, _]) ⟨rfl, rfl, trivial⟩ rfl ⟨rfl, rfl, rfl, rfl, trivial⟩ [] (Fo := []) trivial rfl) (hW.atG_off (by exact rfl) hga (ix := [0, 1]) (G := [_, _]) ⟨rfl, rfl, trivial⟩ (jx := []) (Fo := []) trivial) (hbnd _)) ?_
      rintro v cs L ⟨rfl, rfl, qs, hqs, rfl⟩
      refine ⟨⟨(j + 1, qs), by omega, ?_⟩, ?_, by simp only; omega⟩
      · rw [hqs, hps, ← mapOf_snoc, List.take_succ_eq_append_getElem hlj, List.map_append, List.map_cons, List.map_nil, List.append_assoc _ _ [_]]
      · refine weak_mk [0, 1, 2, 3, 4] ?_ ?_ ?_ ?_ ?_ rfl rfl
        · repeat (first | exact trivial | refine ⟨⟨_, rfl, (by first | exact .of rfl | exact .lit rfl | exact .of (by first | ((exact congrArg (fun z => SV.v (Value.int .i64 z)) hwj))) | exact .lit (by first | ((exact congrArg (fun z => SV.v (Value.int .i64 z)) hwj)))), (by first | exact trivial | exact Nat.le_of_ble_eq_true rfl | exact small1 rfl)⟩, ?_⟩)
        · repeat (first | exact trivial | refine ⟨⟨(by first | exact .head _ | exact .tail _ (.head _) | exact .tail _ (.tail _ (.head _)) | exact .tail _ (.tail _ (.tail _ (.head _))) | exact .tail _ (.tail _ (.tail _ (.tail _ (.head _)))) | exact .tail _ (.tail _ (.tail _ (.tail _ (.tail _ (.head _))))) | exact .tail _ (.tail _ (.tail _ (.tail _ (.tail _ (.tail _ (.head _)))))) | exact .tail _ (.tail _ (.tail _ (.tail _ (.tail _ (.tail _ (.tail _ (.head _))))))) | exact .tail _ (.tail _ (.tail _ (.tail _ (.tail _ (.tail _ (.tail _ (.tail _ (.head _)))))))) | exact .tail _ (.tail _ (.tail _ (.tail _ (.tail _ (.tail _ (.tail _ (.tail _ (.tail _ (.head _)))))))))), Nat.le_of_ble_eq_true rfl⟩, ?_⟩)
        · repeat (first | exact trivial | refine ⟨⟨_, rfl, (by first | exact .of rfl | exact .lit rfl | exact .of (by first | ((exact congrArg (fun z => SV.v (Value.int .i64 z)) hwj))) | exact .lit (by first | ((exact congrArg (fun z => SV.v (Value.int .i64 z)) hwj)))), (by first | exact trivial | exact Nat.le_of_ble_eq_true rfl | exact small1 rfl)⟩, ?_⟩)
        · repeat (first | exact trivial | refine ⟨⟨_, rfl⟩, ?_⟩)
        · repeat (first | exact trivial | refine ⟨.inl ⟨_, rfl, (by first | rfl | ((exact congrArg (fun z => SV.v (Value.int .i64 z)) hwj)))⟩, ?_⟩ | refine ⟨.inr ⟨Nat.le_of_ble_eq_true rfl, rfl, rfl, rfl, rfl⟩, ?_⟩)
    have hgj : (s.groups[k]).m.waits.length ≤ j := by simpa using g
    rw [List.take_of_length_le hgj] at hps
    refine ⟨⟨(k + 1, ps, os), by omega, ?_, hos⟩, ?_, by simp only; omega⟩
    · have e : evL evSem 0 s.pure.sems ++ evL evOnce 0 s.pure.onces ++ evL evGroup 0 (s.pure.groups.take (k + 1)) = evL evSem 0 s.pure.sems ++ evL evOnce 0 s.pure.onces ++ evL evGroup 0 (s.pure.groups.take k) ++ (s.groups[k]).m.waits.map fun x => (x, ⟨6, (k : Int), 0⟩) := by rw [hsucc]; simp [evGroup]
      show pm ps = mapOf _
      rw [e]; exact hps
    · refine weak_mk [0, 1, 2, 3, 4] ?_ ?_ ?_ ?_ ?_ rfl rfl
      · repeat (first | exact trivial | refine ⟨⟨_, rfl, (by first | exact .of rfl | exact .lit rfl | exact .of (by first | ((exact congrArg (fun z => SV.v (Value.int .i64 z)) hw))) | exact .lit (by first | ((exact congrArg (fun z => SV.v (Value.int .i64 z)) hw)))), (by first | exact trivial | exact Nat.le_of_ble_eq_true rfl | exact small1 rfl)⟩, ?_⟩)
      · repeat (first | exact trivial | refine ⟨⟨(by first | exact .head _ | exact .tail _ (.head _) | exact .tail _ (.tail _ (.head _)) | exact .tail _ (.tail _ (.tail _ (.head _))) | exact .tail _ (.tail _ (.tail _ (.tail _ (.head _)))) | exact .tail _ (.tail _ (.tail _ (.tail _ (.tail _ (.head _))))) | exact .tail _ (.tail _ (.tail _ (.tail _ (.tail _ (.tail _ (.head _)))))) | exact .tail _ (.tail _ (.tail _ (.tail _ (.tail _ (.tail _ (.tail _ (.head _))))))) | exact .tail _ (.tail _ (.tail _ (.tail _ (.tail _ (.tail _ (.tail _ (.tail _ (.head _)))))))) | exact .tail _ (.tail _ (.tail _ (.tail _ (.tail _ (.tail _ (.tail _ (.tail _ (.tail _ (.head _)))))))))), Nat.le_of_ble_eq_true rfl⟩, ?_⟩)
      · repeat (first | exact trivial | refine ⟨⟨_, rfl, (by first | exact .of rfl | exact .lit rfl | exact .of (by first | ((exact congrArg (fun z => SV.v (Value.int .i64 z)) hw))) | exact .lit (by first | ((exact congrArg (fun z => SV.v (Value.int .i64 z)) hw)))), (by first | exact trivial | exact Nat.le_of_ble_eq_true rfl | exact small1 rfl)⟩, ?_⟩)
      · repeat (first | exact trivial | refine ⟨⟨_, rfl⟩, ?_⟩)
      · repeat (first | exact trivial | refine ⟨.inl ⟨_, rfl, (by first | rfl | ((exact congrArg (fun z => SV.v (Value.int .i64 z)) hw)))⟩, ?_⟩ | refine ⟨.inr ⟨Nat.le_of_ble_eq_true rfl, rfl, rfl, rfl, rfl⟩, ?_⟩)
  have hge : s.groups.length ≤ k := by simpa using g
  rw [List.take_of_length_le (by rw [len2]; exact hge)] at hps
  have len3 : s.pure.barriers.length = s.barriers.length := mlen _ _
  refine LoopW.mk ⟨{ p : Nat × List (Int × LH Waiting) × List (Int × LH Int) // p.1 ≤ s.barriers.length ∧ pm p.2.1 = mapOf (evL evSem 0 s.pure.sems ++ evL evOnce 0 s.pure.onces ++ evL evGroup 0 s.pure.groups ++ evL evBarrier 0 (s.pure.barriers.take p.1)) ∧ pm p.2.2 = mapOf (owners s.pure) },
    fun p => .mk [(1, .p 0 0), (4, .p 1 0), (5, .v (.map (some r2))), (6, .f 54 [(1, 0)]), (112, .v (s.h5.val s.barriers.length)), (113, .v (.int .i64 (s.barriers.length : Int))), (114, .v (.int .i64 (p.1.1 : Int)))] 2 0 [(0, 34, 9), (1, 83, 1)]
      [((0, 2), .v (s.h2.val s.sems.length)), ((0, 3), .v (s.h3.val s.onces.length)), ((0, 4), .v (s.h4.val s.groups.length)), ((0, 5), .v (s.h5.val s.barriers.length)), ((0, 6), .v (s.h6.val s.chans.length)), ((1, 0), .v (.map (some r)))] [fMW r p.1.2.1, fO (rW p.1.2.1), fMap r2 venH p.1.2.2, fO (rI p.1.2.2), fR (stateO s)],
    fun p => s.barriers.length - p.1.1, ⟨(0, ps, os), Nat.zero_le _, by simpa [evL] using hps, hos⟩, ?_, ?_⟩
  · refine weak_mk [0, 1, 2, 3, 4] ?_ ?_ ?_ ?_ ?_ rfl rfl
    · repeat (first | exact trivial | refine ⟨⟨_, rfl, (by first | exact .of rfl | exact .lit rfl | exact .of (by first | (rfl)) | exact .lit (by first | (rfl))), (by first | exact trivial | exact Nat.le_of_ble_eq_true rfl | exact small1 rfl)⟩, ?_⟩)
    · repeat (first | exact trivial | refine ⟨⟨(by first | exact .head _ | exact .tail _ (.head _) | exact .tail _ (.tail _ (.head _)) | exact .tail _ (.tail _ (.tail _ (.head _))) | exact .tail _ (.tail _ (.tail _ (.tail _ (.head _)))) | exact .tail _ (.tail _ (.tail _ (.tail _ (.tail _ (.head _))))) | exact .tail _ (.tail _ (.tail _ (.tail _ (.tail _ (.tail _ (.head _)))))) | exact .tail _ (.tail _ (.tail _ (.tail _ (.tail _ (.tail _ (.tail _ (.head _))))))) | exact .tail _ (.tail _ (.tail _ (.tail _ (.tail _ (.tail _ (.tail _ (.tail _ (.head _)))))))) | exact .tail _ (.tail _ (.tail _ (.tail _ (.tail _ (.tail _ (.tail _ (.tail _ (.tail _ (.head _)))))))))), Nat.le_of_ble_eq_true rfl⟩, ?_⟩)
    · repeat (first | exact trivial | refine ⟨⟨_, rfl, (by first | exact .of rfl | exact .lit rfl | exact .of (by first | (rfl)) | exact .lit (by first | (rfl))), (by first | exact trivial | exact Nat.le_of_ble_eq_true rfl | exact small1 rfl)⟩, ?_⟩)
    · repeat (first | exact trivial | refine ⟨⟨_, rfl⟩, ?_⟩)
    · repeat (first | exact trivial | refine ⟨.inl ⟨_, rfl, (by first | rfl | (rfl))⟩, ?_⟩ | refine ⟨.inr ⟨Nat.le_of_ble_eq_true rfl, rfl, rfl, rfl, rfl⟩, ?_⟩)
  rintro ⟨⟨k, ps, os⟩, hk, hps, hos⟩
  simp only at hk hps hos
  refine CaseB.mk (fun g => ?_) (fun g => ?_)
  · have hlt : k < s.barriers.length := by simpa using g
    have hltp : k < s.pure.barriers.length := by rw [len3]; exact hlt
    have hget : s.pure.barriers[k] = (s.barriers[k]).m := by simp [StateH.pure]
    have hpre := evL_pre evBarrier s.pure.barriers hltp
    have hsucc := evL_succ evBarrier s.pure.barriers hltp
    rw [hget] at hpre hsucc
    have hw := e_succ k _ hlt (by omega)
    refine stop_idx encBarrierH tabOk rfl rfl rfl rfl rfl ⟨rfl, rfl⟩ (rdVia 4 rfl (.trans (.R_R (stateO_barriers s)) (.ofR nest_h))) k rfl (by first | omega | (simp; done) | (simp; omega) | (unfold maxLen; omega) | (unfold maxLen; simp; done) | (unfold maxLen; simp; omega)) (fun ad => ?_)
    refine LoopW.mk ⟨{ p : Nat × List (Int × LH Waiting) // p.1 ≤ (s.barriers[k]).m.waits.length ∧ pm p.2 = mapOf (evL evSem 0 s.pure.sems ++ evL evOnce 0 s.pure.onces ++ evL evGroup 0 s.pure.groups ++ evL evBarrier 0 (s.pure.barriers.take k) ++ ((s.barriers[k]).m.waits.take p.1).map fun x => (x, ⟨7, (k : Int), 0⟩)) },
      fun p => .mk [(1, .p 0 0), (4, .p 1 0), (5, .v (.map (some r2))), (6, .f 54 [(1, 0)]), (112, .v (s.h5.val s.barriers.length)), (113, .v (.int .i64 (s.barriers.length : Int))), (114, .v (.int .i64 (k : Int))), (19, .v (.int .i64 (k : Int))), (20, .p 2 0), (120, .v ((s.barriers[k]).q.val (s.barriers[k]).m.waits.length)), (121, .v (.int .i64 ((s.barriers[k]).m.waits.length : Int))), (122, .v (.int .i64 (p.1.1 : Int)))] 3 0 ((2, 49, 3) :: [(0, 34, 9), (1, 83, 1)])
        [((0, 2), .v (s.h2.val s.sems.length)), ((0, 3), .v (s.h3.val s.onces.length)), ((0, 4), .v (s.h4.val s.groups.length)), ((0, 5), .v (s.h5.val s.barriers.length)), ((0, 6), .v (s.h6.val s.chans.length)), ((1, 0), .v (.map (some r)))] [fMW r p.1.2, fO (rW p.1.2), fMap r2 venH os, fO (rI os), fR (stateO s)],
      fun p => (s.barriers[k]).m.waits.length - p.1.1, ⟨(0, ps), Nat.zero_le _, by simpa using hps⟩, ?_, ?_⟩
    · refine weak_mk [0, 1, 2, 3, 4] ?_ ?_ ?_ ?_ ?_ rfl rfl
      · repeat (first | exact trivial | refine ⟨⟨_, rfl, (by first | exact .of rfl | exact .lit rfl | exact .of (by first | (rfl)) | exact .lit (by first | (rfl))), (by first | exact trivial | exact Nat.le_of_ble_eq_true rfl | exact small1 rfl)⟩, ?_⟩)
      · repeat (first | exact trivial | refine ⟨⟨(by first | exact .head _ | exact .tail _ (.head _) | exact .tail _ (.tail _ (.head _)) | exact .tail _ (.tail _ (.tail _ (.head _))) | exact .tail _ (.tail _ (.tail _ (.tail _ (.head _)))) | exact .tail _ (.tail _ (.tail _ (.tail _ (.tail _ (.head _))))) | exact .tail _ (.tail _ (.tail _ (.tail _ (.tail _ (.tail _ (.head _)))))) | exact .tail _ (.tail _ (.tail _ (.tail _ (.tail _ (.tail _ (.tail _ (.head _))))))) | exact .tail _ (.tail _ (.tail _ (.tail _ (.tail _ (.tail _ (.tail _ (.tail _ (.head _)))))))) | exact .tail _ (.tail _ (.tail _ (.tail _ (.tail _ (.tail _ (.tail _ (.tail _ (.tail _ (.head _)))))))))), Nat.le_of_ble_eq_true rfl⟩, ?_⟩)
      · repeat (first | exact trivial | refine ⟨⟨_, rfl, (by first | exact .of rfl | exact .lit rfl | exact .of (by first | (rfl)) | exact .lit (by first | (rfl))), (by first | exact trivial | exact Nat.le_of_ble_eq_true rfl | exact small1 rfl)⟩, ?_⟩)
      · repeat (first | exact trivial | refine ⟨⟨_, rfl⟩, ?_⟩)
      · repeat (first | exact trivial | refine ⟨.inl ⟨_, rfl, (by first | rfl | (rfl))⟩, ?_⟩ | refine ⟨.inr ⟨Nat.le_of_ble_eq_true rfl, rfl, rfl, rfl, rfl⟩, ?_⟩)
    rintro ⟨⟨j, ps⟩, hj, hps⟩
    simp only at hj hps
    refine CaseB.mk (fun g => ?_) (fun g => ?_)
    · have hlj : j < (s.barriers[k]).m.waits.length := by simpa using g
      have hwj := e_succ j (s.barriers[k]).m.waits.length hlj (by simp only [evBarrier, List.length_map] at hpre; omega)
      have hbnd : ∀ t, ((aget ps t).getD LH.nil).xs.length ≤ 1048576 := fun t => by
        have h1 := pm_len hps t
        simp only [List.length_append, List.length_map, List.length_take] at h1
        have h2 : min j (s.barriers[k]).m.waits.length ≤ (s.barriers[k]).m.waits.length := Nat.min_le_right _ _
        simp only [evBarrier, List.length_map] at hpre; omega
      refine stop_idx encInt tabOk rfl rfl rfl rfl rfl ⟨rfl, rfl⟩ (rdVia 4 rfl (.trans (.R_R (stateO_barriers s)) (.ofR (barriersO_0 _ _ k hlt)))) j rfl (by first | omega | (simp; done) | (simp; omega) | (unfold maxLen; omega) | (unfold maxLen; simp; done) | (unfold maxLen; simp; omega)) (fun ad2 => ?_)
      refine stop_callPGc _ [0, 1] (G := [_, _]) cl54 rfl rfl rfl rfl ⟨rfl, rfl⟩ rfl rfl ⟨rfl, rfl, trivial⟩ ⟨rfl, rfl, rfl, rfl, trivial⟩ (fun A w ga hga hW hblk => wAdd_c _ _ _ _ ga r ps w hblk (hW.atG [0, 1] (G := [_, _]) ⟨rfl, rfl, trivial⟩ rfl ⟨rfl, rfl, rfl, rfl, trivial⟩ [] (Fo := []) trivial rfl) (hW.atG_off (by exact rfl) hga (ix := [0, 1]) (G := [_, _]) ⟨rfl, rfl, trivial⟩ (jx := []) (Fo := []) trivial) (hbnd _)) ?_
      rintro v cs L ⟨rfl, rfl, qs, hqs, rfl⟩
      refine ⟨⟨(j + 1, qs), by omega, ?_⟩, ?_, by simp only; omega⟩
      · rw [hqs, hps, ← mapOf_snoc, List.take_succ_eq_append_getElem hlj, List.map_append, List.map_cons, List.map_nil, List.append_assoc _ _ [_]]
      · refine weak_mk [0, 1, 2, 3, 4] ?_ ?_ ?_ ?_ ?_ rfl rfl
        · repeat (first | exact trivial | refine ⟨⟨_, rfl, (by first | exact .of rfl | exact .lit rfl | exact .of (by first | ((exact congrArg (fun z => SV.v (Value.int .i64 z)) hwj))) | exact .lit (by first | ((exact congrArg (fun z => SV.v (Value.int .i64 z)) hwj)))), (by first | exact trivial | exact Nat.le_of_ble_eq_true rfl | exact small1 rfl)⟩, ?_⟩)
        · repeat (first | exact trivial | refine ⟨⟨(by first | exact .head _ | exact .tail _ (.head _) | exact .tail _ (.tail _ (.head _)) | exact .tail _ (.tail _ (.tail _ (.head _))) | exact .tail _ (.tail _ (.tail _ (.tail _ (.head _)))) | exact .tail _ (.tail _ (.tail _ (.tail _ (.tail _ (.head _))))) | exact .tail _ (.tail _ (.tail _ (.tail _ (.tail _ (.tail _ (.head _)))))) | exact .tail _ (.tail _ (.tail _ (.tail _ (.tail _ (.tail _ (.tail _ (.head _))))))) | exact .tail _ (.tail _ (.tail _ (.tail _ (.tail _ (.tail _ (.tail _ (.tail _ (.head _)))))))) | exact .tail _ (.tail _ (.tail _ (.tail _ (.tail _ (.tail _ (.tail _ (.tail _ (.tail _ (.head _)))))))))), Nat.le_of_ble_eq_true rfl⟩, ?_⟩)
        · repeat (first | exact trivial | refine ⟨⟨_, rfl, (by first | exact .of rfl | exact .lit rfl | exact .of (by first | ((exact congrArg (fun z => SV.v (Value.int .i64 z)) hwj))) | exact .lit (by first | ((exact congrArg (fun z => SV.v (Value.int .i64 z)) hwj)))), (by first | exact trivial | exact Nat.le_of_ble_eq_true rfl | exact small1 rfl)⟩, ?_⟩)
        · repeat (first | exact trivial | refine ⟨⟨_, rfl⟩, ?_⟩)
        · repeat (first | exact trivial | refine ⟨.inl ⟨_, rfl, (by first | rfl | ((exact congrArg (fun z => SV.v (Value.int .i64 z)) hwj)))⟩, ?_⟩ | refine ⟨.inr ⟨Nat.le_of_ble_eq_true rfl, rfl, rfl, rfl, rfl⟩, ?_⟩)
    have hgj : (s.barriers[k]).m.waits.length ≤ j := by simpa using g
    rw [List.take_of_length_le hgj] at hps
    refine ⟨⟨(k + 1, ps, os), by omega, ?_, hos⟩, ?_, by simp only; omega⟩
    · have e : evL evSem 0 s.pure.sems ++ evL evOnce 0 s.pure.onces ++ evL evGroup 0 s.pure.groups ++ evL evBarrier 0 (s.pure.barriers.take (k + 1)) = evL evSem 0 s.pure.sems ++ evL evOnce 0 s.pure.onces ++ evL evGroup 0 s.pure.groups ++ evL evBarrier 0 (s.pure.barriers.take k) ++ (s.barriers[k]).m.waits.map fun x => (x, ⟨7, (k : Int), 0⟩) := by rw [hsucc]; simp [evBarrier]
      show pm ps = mapOf _
      rw [e]; exact hps
    · refine weak_mk [0, 1, 2, 3, 4] ?_ ?_ ?_ ?_ ?_ rfl rfl
      · repeat (first | exact trivial | refine ⟨⟨_, rfl, (by first | exact .of rfl | exact .lit rfl | exact .of (by first | ((exact congrArg (fun z => SV.v (Value.int .i64 z)) hw))) | exact .lit (by first | ((exact congrArg (fun z => SV.v (Value.int .i64 z)) hw)))), (by first | exact trivial | exact Nat.le_of_ble_eq_true rfl | exact small1 rfl)⟩, ?_⟩)
      · repeat (first | exact trivial | refine ⟨⟨(by first | exact .head _ | exact .tail _ (.head _) | exact .tail _ (.tail _ (.head _)) | exact .tail _ (.tail _ (.tail _ (.head _))) | exact .tail _ (.tail _ (.tail _ (.tail _ (.head _)))) | exact .tail _ (.tail _ (.tail _ (.tail _ (.tail _ (.head _))))) | exact .tail _ (.tail _ (.tail _ (.tail _ (.tail _ (.tail _ (.head _)))))) | exact .tail _ (.tail _ (.tail _ (.tail _ (.tail _ (.tail _ (.tail _ (.head _))))))) | exact .tail _ (.tail _ (.tail _ (.tail _ (.tail _ (.tail _ (.tail _ (.tail _ (.head _)))))))) | exact .tail _ (.tail _ (.tail _ (.tail _ (.tail _ (.tail _ (.tail _ (.tail _ (.tail _ (.head _)))))))))), Nat.le_of_ble_eq_true rfl⟩, ?_⟩)
      · repeat (first | exact trivial | refine ⟨⟨_, rfl, (by first | exact .of rfl | exact .lit rfl | exact .of (by first | ((exact congrArg (fun z => SV.v (Value.int .i64 z)) hw))) | exact .lit (by first | ((exact congrArg (fun z => SV.v (Value.int .i64 z)) hw)))), (by first | exact trivial | exact Nat.le_of_ble_eq_true rfl | exact small1 rfl)⟩, ?_⟩)
      · repeat (first | exact trivial | refine ⟨⟨_, rfl⟩, ?_⟩)
      · repeat (first | exact trivial | refine ⟨.inl ⟨_, rfl, (by first | rfl | ((exact congrArg (fun z => SV.v (Value.int .i64 z)) hw)))⟩, ?_⟩ | refine ⟨.inr ⟨Nat.le_of_ble_eq_true rfl, rfl, rfl, rfl, rfl⟩, ?_⟩)
  have hge : s.barriers.length ≤ k := by simpa using g
  rw [List.take_of_length_le (by rw [len3]; exact hge)] at hps
  have len4 : s.pure.chans.length = s.chans.length := mlen _ _
  refine LoopW.mk ⟨{ p : Nat × List (Int × LH Waiting) × List (Int × LH Int) // p.1 ≤ s.chans.length ∧ pm p.2.1 = mapOf (evL evSem 0 s.pure.sems ++ evL evOnce 0 s.pure.onces ++ evL evGroup 0 s.pure.groups ++ evL evBarrier 0 s.pure.barriers ++ evL evChan 0 (s.pure.chans.take p.1)) ∧ pm p.2.2 = mapOf (owners s.pure) },
    fun p => .mk [(1, .p 0 0), (4, .p 1 0), (5, .v (.map (some r2))), (6, .f 54 [(1, 0)]), (133, .v (s.h6.val s.chans.length)), (134, .v (.int .i64 (s.chans.length : Int))), (135, .v (.int .i64 (p.1.1 : Int)))] 2 0 [(0, 34, 9), (1, 83, 1)]
      [((0, 2), .v (s.h2.val s.sems.length)), ((0, 3), .v (s.h3.val s.onces.length)), ((0, 4), .v (s.h4.val s.groups.length)), ((0, 5), .v (s.h5.val s.barriers.length)), ((0, 6), .v (s.h6.val s.chans.length)), ((1, 0), .v (.map (some r)))] [fMW r p.1.2.1, fO (rW p.1.2.1), fMap r2 venH p.1.2.2, fO (rI p.1.2.2), fR (stateO s)],
    fun p => s.chans.length - p.1.1, ⟨(0, ps, os), Nat.zero_le _, by simpa [evL] using hps, hos⟩, ?_, ?_⟩
  · refine weak_mk [0, 1, 2, 3, 4] ?_ ?_ ?_ ?_ ?_ rfl rfl
    · repeat (first | exact trivial | refine ⟨⟨_, rfl, (by first | exact .of rfl | exact .lit rfl | exact .of (by first | (rfl)) | exact .lit (by first | (rfl))), (by first | exact trivial | exact Nat.le_of_ble_eq_true rfl | exact small1 rfl)⟩, ?_⟩)
    · repeat (first | exact trivial | refine ⟨⟨(by first | exact .head _ | exact .tail _ (.head _) | exact .tail _ (.tail _ (.head _)) | exact .tail _ (.tail _ (.tail _ (.head _))) | exact .tail _ (.tail _ (.tail _ (.tail _ (.head _)))) | exact .tail _ (.tail _ (.tail _ (.tail _ (.tail _ (.head _))))) | exact .tail _ (.tail _ (.tail _ (.tail _ (.tail _ (.tail _ (.head _)))))) | exact .tail _ (.tail _ (.tail _ (.tail _ (.tail _ (.tail _ (.tail _ (.head _))))))) | exact .tail _ (.tail _ (.tail _ (.tail _ (.tail _ (.tail _ (.tail _ (.tail _ (.head _)))))))) | exact .tail _ (.tail _ (.tail _ (.tail _ (.tail _ (.tail _ (.tail _ (.tail _ (.tail _ (.head _)))))))))), Nat.le_of_ble_eq_true rfl⟩, ?_⟩)
    · repeat (first | exact trivial | refine ⟨⟨_, rfl, (by first | exact .of rfl | exact .lit rfl | exact .of (by first | (rfl)) | exact .lit (by first | (rfl))), (by first | exact trivial | exact Nat.le_of_ble_eq_true rfl | exact small1 rfl)⟩, ?_⟩)
    · repeat (first | exact trivial | refine ⟨⟨_, rfl⟩, ?_⟩)
    · repeat (first | exact trivial | refine ⟨.inl ⟨_, rfl, (by first | rfl | (rfl))⟩, ?_⟩ | refine ⟨.inr ⟨Nat.le_of_ble_eq_true rfl, rfl, rfl, rfl, rfl⟩, ?_⟩)
  rintro ⟨⟨k, ps, os⟩, hk, hps, hos⟩
  simp only at hk hps hos
  refine CaseB.mk (fun g => ?_) (fun g => ?_)
  · have hlt : k < s.chans.length := by simpa using g
    have hltp : k < s.pure.chans.length := by rw [len4]; exact hlt
    have hget : s.pure.chans[k] = (s.chans[k]).m := by simp [StateH.pure]
    have hpre := evL_pre evChan s.pure.chans hltp
    have hsucc := evL_succ evChan s.pure.chans hltp
    rw [hget] at hpre hsucc
    have hw := e_succ k _ hlt (by omega)
    refine stop_idx encChanH tabOk rfl rfl rfl rfl rfl ⟨rfl, rfl⟩ (rdVia 4 rfl (.trans (.R_R (stateO_chans s)) (.ofR nest_h))) k rfl (by first | omega | (simp; done) | (simp; omega) | (unfold maxLen; omega) | (unfold maxLen; simp; done) | (unfold maxLen; simp; omega)) (fun ad => ?_)
    refine LoopW.mk ⟨{ p : Nat × List (Int × LH Waiting) // p.1 ≤ (s.chans[k]).m.senders.length ∧ pm p.2 = mapOf (evL evSem 0 s.pure.sems ++ evL evOnce 0 s.pure.onces ++ evL evGroup 0 s.pure.groups ++ evL evBarrier 0 s.pure.barriers ++ evL evChan 0 (s.pure.chans.take k) ++ ((s.chans[k]).m.senders.take p.1).map fun x => (x.t, ⟨8, (k : Int), x.v⟩)) },
      fun p => .mk [(1, .p 0 0), (4, .p 1 0), (5, .v (.map (some r2))), (6, .f 54 [(1, 0)]), (133, .v (s.h6.val s.chans.length)), (134, .v (.int .i64 (s.chans.length : Int))), (135, .v (.int .i64 (k : Int))), (23, .v (.int .i64 (k : Int))), (24, .p 2 0), (141, .v ((s.chans[k]).q1.val (s.chans[k]).m.senders.length)), (142, .v (.int .i64 ((s.chans[k]).m.senders.length : Int))), (143, .v (.int .i64 (p.1.1 : Int)))] 3 0 ((2, 52, 5) :: [(0, 34, 9), (1, 83, 1)])
        [((0, 2), .v (s.h2.val s.sems.length)), ((0, 3), .v (s.h3.val s.onces.length)), ((0, 4), .v (s.h4.val s.groups.length)), ((0, 5), .v (s.h5.val s.barriers.length)), ((0, 6), .v (s.h6.val s.chans.length)), ((1, 0), .v (.map (some r))), ((2, 3), .v ((s.chans[k]).q2.val (s.chans[k]).m.getters.length))] [fMW r p.1.2, fO (rW p.1.2), fMap r2 venH os, fO (rI os), fR (stateO s)],
      fun p => (s.chans[k]).m.senders.length - p.1.1, ⟨(0, ps), Nat.zero_le _, by simpa using hps⟩, ?_, ?_⟩
    · refine weak_mk [0, 1, 2, 3, 4] ?_ ?_ ?_ ?_ ?_ rfl rfl
      · repeat (first | exact trivial | refine ⟨⟨_, rfl, (by first | exact .of rfl | exact .lit rfl | exact .of (by first | (rfl)) | exact .lit (by first | (rfl))), (by first | exact trivial | exact Nat.le_of_ble_eq_true rfl | exact small1 rfl)⟩, ?_⟩)
      · repeat (first | exact trivial | refine ⟨⟨(by first | exact .head _ | exact .tail _ (.head _) | exact .tail _ (.tail _ (.head _)) | exact .tail _ (.tail _ (.tail _ (.head _))) | exact .tail _ (.tail _ (.tail _ (.tail _ (.head _)))) | exact .tail _ (.tail _ (.tail _ (.tail _ (.tail _ (.head _))))) | exact .tail _ (.tail _ (.tail _ (.tail _ (.tail _ (.tail _ (.head _)))))) | exact .tail _ (.tail _ (.tail _ (.tail _ (.tail _ (.tail _ (.tail _ (.head _))))))) | exact .tail _ (.tail _ (.tail _ (.tail _ (.tail _ (.tail _ (.tail _ (.tail _ (.head _)))))))) | exact .tail _ (.tail _ (.tail _ (.tail _ (.tail _ (.tail _ (.tail _ (.tail _ (.tail _ (.head _)))))))))), Nat.le_of_ble_eq_true rfl⟩, ?_⟩)
      · repeat (first | exact trivial | refine ⟨⟨_, rfl, (by first | exact .of rfl | exact .lit rfl | exact .of (by first | (rfl)) | exact .lit (by first | (rfl))), (by first | exact trivial | exact Nat.le_of_ble_eq_true rfl | exact small1 rfl)⟩, ?_⟩)
      · repeat (first | exact trivial | refine ⟨⟨_, rfl⟩, ?_⟩)
      · repeat (first | exact trivial | refine ⟨.inl ⟨_, rfl, (by first | rfl | (rfl))⟩, ?_⟩ | refine ⟨.inr ⟨Nat.le_of_ble_eq_true rfl, rfl, rfl, rfl, rfl⟩, ?_⟩)
    rintro ⟨⟨j, ps⟩, hj, hps⟩
    simp only at hj hps
    refine CaseB.mk (fun g => ?_) (fun g => ?_)
    · have hlj : j < (s.chans[k]).m.senders.length := by simpa using g
      have hwj := e_succ j (s.chans[k]).m.senders.length hlj (by simp only [evChan, List.length_append, List.length_map] at hpre; omega)
      have hbnd : ∀ t, ((aget ps t).getD LH.nil).xs.length ≤ 1048576 := fun t => by
        have h1 := pm_len hps t
        simp only [List.length_append, List.length_map, List.length_take] at h1
        have h2 : min j (s.chans[k]).m.senders.length ≤ (s.chans[k]).m.senders.length := Nat.min_le_right _ _
        simp only [evChan, List.length_append, List.length_map] at hpre; omega
      refine stop_idx encLet tabOk rfl rfl rfl rfl rfl ⟨rfl, rfl⟩ (rdVia 4 rfl (.trans (.R_R (stateO_chans s)) (.ofR (chansO_1 _ _ k hlt)))) j rfl (by first | omega | (simp; done) | (simp; omega) | (unfold maxLen; omega) | (unfold maxLen; simp; done) | (unfold maxLen; simp; omega)) (fun ad2 => ?_)
      refine stop_callPGc _ [0, 1] (G := [_, _]) cl54 rfl rfl rfl rfl ⟨rfl, rfl⟩ rfl rfl ⟨rfl, rfl, trivial⟩ ⟨rfl, rfl, rfl, rfl, trivial⟩ (fun A w ga hga hW hblk => wAdd_c _ _ _ _ ga r ps w hblk (hW.atG [0, 1] (G := [_, _]) ⟨rfl, rfl, trivial⟩ rfl ⟨rfl, rfl, rfl, rfl, trivial⟩ [] (Fo := []) trivial rfl) (hW.atG_off (by exact rfl) hga (ix := [0, 1]) (G := [_, _]) ⟨rfl, rfl, trivial⟩ (jx := []) (Fo := []) trivial) (hbnd _)) ?_
      rintro v cs L ⟨rfl, rfl, qs, hqs, rfl⟩
      refine ⟨⟨(j + 1, qs), by omega, ?_⟩, ?_, by simp only; omega⟩
      · rw [hqs, hps, ← mapOf_snoc, List.take_succ_eq_append_getElem hlj, List.map_append, List.map_cons, List.map_nil, List.append_assoc _ _ [_]]
      · refine weak_mk [0, 1, 2, 3, 4] ?_ ?_ ?_ ?_ ?_ rfl rfl
        · repeat (first | exact trivial | refine ⟨⟨_, rfl, (by first | exact .of rfl | exact .lit rfl | exact .of (by first | ((exact congrArg (fun z => SV.v (Value.int .i64 z)) hwj))) | exact .lit (by first | ((exact congrArg (fun z => SV.v (Value.int .i64 z)) hwj)))), (by first | exact trivial | exact Nat.le_of_ble_eq_true rfl | exact small1 rfl)⟩, ?_⟩)
        · repeat (first | exact trivial | refine ⟨⟨(by first | exact .head _ | exact .tail _ (.head _) | exact .tail _ (.tail _ (.head _)) | exact .tail _ (.tail _ (.tail _ (.head _))) | exact .tail _ (.tail _ (.tail _ (.tail _ (.head _)))) | exact .tail _ (.tail _ (.tail _ (.tail _ (.tail _ (.head _))))) | exact .tail _ (.tail _ (.tail _ (.tail _ (.tail _ (.tail _ (.head _)))))) | exact .tail _ (.tail _ (.tail _ (.tail _ (.tail _ (.tail _ (.tail _ (.head _))))))) | exact .tail _ (.tail _ (.tail _ (.tail _ (.tail _ (.tail _ (.tail _ (.tail _ (.head _)))))))) | exact .tail _ (.tail _ (.tail _ (.tail _ (.tail _ (.tail _ (.tail _ (.tail _ (.tail _ (.head _)))))))))), Nat.le_of_ble_eq_true rfl⟩, ?_⟩)
        · repeat (first | exact trivial | refine ⟨⟨_, rfl, (by first | exact .of rfl | exact .lit rfl | exact .of (by first | ((exact congrArg (fun z => SV.v (Value.int .i64 z)) hwj))) | exact .lit (by first | ((exact congrArg (fun z => SV.v (Value.int .i64 z)) hwj)))), (by first | exact trivial | exact Nat.le_of_ble_eq_true rfl | exact small1 rfl)⟩, ?_⟩)
        · repeat (first | exact trivial | refine ⟨⟨_, rfl⟩, ?_⟩)
        · repeat (first | exact trivial | refine ⟨.inl ⟨_, rfl, (by first | rfl | ((exact congrArg (fun z => SV.v (Value.int .i64 z)) hwj)))⟩, ?_⟩ | refine ⟨.inr ⟨Nat.le_of_ble_eq_true rfl, rfl, rfl, rfl, rfl⟩, ?_⟩)
    have hgj : (s.chans[k]).m.senders.length ≤ j := by simpa using g
    rw [List.take_of_length_le hgj] at hps
    refine LoopW.mk ⟨{ p : Nat × List (Int × LH Waiting) // p.1 ≤ (s.chans[k]).m.getters.length ∧ pm p.2 = mapOf ((evL evSem 0 s.pure.sems ++ evL evOnce 0 s.pure.onces ++ evL evGroup 0 s.pure.groups ++ evL evBarrier 0 s.pure.barriers ++ evL evChan 0 (s.pure.chans.take k) ++ (s.chans[k]).m.senders.map fun x => (x.t, ⟨8, (k : Int), x.v⟩)) ++ ((s.chans[k]).m.getters.take p.1).map fun x => (x, ⟨9, (k : Int), 0⟩)) },
      fun p => .mk [(1, .p 0 0), (4, .p 1 0), (5, .v (.map (some r2))), (6, .f 54 [(1, 0)]), (133, .v (s.h6.val s.chans.length)), (134, .v (.int .i64 (s.chans.length : Int))), (135, .v (.int .i64 (k : Int))), (23, .v (.int .i64 (k : Int))), (24, .p 2 0), (156, .v ((s.chans[k]).q2.val (s.chans[k]).m.getters.length)), (157, .v (.int .i64 ((s.chans[k]).m.getters.length : Int))), (158, .v (.int .i64 (p.1.1 : Int)))] 3 0 ((2, 52, 5) :: [(0, 34, 9), (1, 83, 1)])
        [((0, 2), .v (s.h2.val s.sems.length)), ((0, 3), .v (s.h3.val s.onces.length)), ((0, 4), .v (s.h4.val s.groups.length)), ((0, 5), .v (s.h5.val s.barriers.length)), ((0, 6), .v (s.h6.val s.chans.length)), ((1, 0), .v (.map (some r)))] [fMW r p.1.2, fO (rW p.1.2), fMap r2 venH os, fO (rI os), fR (stateO s)],
      fun p => (s.chans[k]).m.getters.length - p.1.1, ⟨(0, ps), Nat.zero_le _, by simpa using hps⟩, ?_, ?_⟩
    · refine weak_mk [0, 1, 2, 3, 4] ?_ ?_ ?_ ?_ ?_ rfl rfl
      · repeat (first | exact trivial | refine ⟨⟨_, rfl, (by first | exact .of rfl | exact .lit rfl | exact .of (by first | (rfl)) | exact .lit (by first | (rfl))), (by first | exact trivial | exact Nat.le_of_ble_eq_true rfl | exact small1 rfl)⟩, ?_⟩)
      · repeat (first | exact trivial | refine ⟨⟨(by first | exact .head _ | exact .tail _ (.head _) | exact .tail _ (.tail _ (.head _)) | exact .tail _ (.tail _ (.tail _ (.head _))) | exact .tail _ (.tail _ (.tail _ (.tail _ (.head _)))) | exact .tail _ (.tail _ (.tail _ (.tail _ (.tail _ (.head _))))) | exact .tail _ (.tail _ (.tail _ (.tail _ (.tail _ (.tail _ (.head _)))))) | exact .tail _ (.tail _ (.tail _ (.tail _ (.tail _ (.tail _ (.tail _ (.head _))))))) | exact .tail _ (.tail _ (.tail _ (.tail _ (.tail _ (.tail _ (.tail _ (.tail _ (.head _)))))))) | exact .tail _ (.tail _ (.tail _ (.tail _ (.tail _ (.tail _ (.tail _ (.tail _ (.tail _ (.head _)))))))))), Nat.le_of_ble_eq_true rfl⟩, ?_⟩)
      · repeat (first | exact trivial | refine ⟨⟨_, rfl, (by first | exact .of rfl | exact .lit rfl | exact .of (by first | (rfl)) | exact .lit (by first | (rfl))), (by first | exact trivial | exact Nat.le_of_ble_eq_true rfl | exact small1 rfl)⟩, ?_⟩)
      · repeat (first | exact trivial | refine ⟨⟨_, rfl⟩, ?_⟩)
      · repeat (first | exact trivial | refine ⟨.inl ⟨_, rfl, (by first | rfl | (rfl))⟩, ?_⟩ | refine ⟨.inr ⟨Nat.le_of_ble_eq_true rfl, rfl, rfl, rfl, rfl⟩, ?_⟩)
    rintro ⟨⟨j, ps⟩, hj, hps⟩
    simp only at hj hps
    refine CaseB.mk (fun g => ?_) (fun g => ?_)
    · have hlj : j < (s.chans[k]).m.getters.length := by simpa using g
      have hwj := e_succ j (s.chans[k]).m.getters.length hlj (by simp only [evChan, List.length_append, List.length_map] at hpre; omega)
      have hbnd : ∀ t, ((aget ps t).getD LH.nil).xs.length ≤ 1048576 := fun t => by
        have h1 := pm_len hps t
        simp only [List.length_append, List.length_map, List.length_take] at h1
        have h2 : min j (s.chans[k]).m.getters.length ≤ (s.chans[k]).m.getters.length := Nat.min_le_right _ _
        simp only [evChan, List.length_append, List.length_map] at hpre; omega
      refine stop_idx encInt tabOk rfl rfl rfl rfl rfl ⟨rfl, rfl⟩ (rdVia 4 rfl (.trans (.R_R (stateO_chans s)) (.ofR (chansO_2 _ _ k hlt)))) j rfl (by first | omega | (simp; done) | (simp; omega) | (unfold maxLen; omega) | (unfold maxLen; simp; done) | (unfold maxLen; simp; omega)) (fun ad2 => ?_)
      refine stop_callPGc _ [0, 1] (G := [_, _]) cl54 rfl rfl rfl rfl ⟨rfl, rfl⟩ rfl rfl ⟨rfl, rfl, trivial⟩ ⟨rfl, rfl, rfl, rfl, trivial⟩ (fun A w ga hga hW hblk => wAdd_c _ _ _ _ ga r ps w hblk (hW.atG [0, 1] (G := [_, _]) ⟨rfl, rfl, trivial⟩ rfl ⟨rfl, rfl, rfl, rfl, trivial⟩ [] (Fo := []) trivial rfl) (hW.atG_off (by exact rfl) hga (ix := [0, 1]) (G := [_, _]) ⟨rfl, rfl, trivial⟩ (jx := []) (Fo := []) trivial) (hbnd _)) ?_
      rintro v cs L ⟨rfl, rfl, qs, hqs, rfl⟩
      refine ⟨⟨(j + 1, qs), by omega, ?_⟩, ?_, by simp only; omega⟩
      · rw [hqs, hps, ← mapOf_snoc, List.take_succ_eq_append_getElem hlj, List.map_append, List.map_cons, List.map_nil, List.append_assoc _ _ [_]]
      · refine weak_mk [0, 1, 2, 3, 4] ?_ ?_ ?_ ?_ ?_ rfl rfl
        · repeat (first | exact trivial | refine ⟨⟨_, rfl, (by first | exact .of rfl | exact .lit rfl | exact .of (by first | ((exact congrArg (fun z => SV.v (Value.int .i64 z)) hwj))) | exact .lit (by first | ((exact congrArg (fun z => SV.v (Value.int .i64 z)) hwj)))), (by first | exact trivial | exact Nat.le_of_ble_eq_true rfl | exact small1 rfl)⟩, ?_⟩)
        · repeat (first | exact trivial | refine ⟨⟨(by first | exact .head _ | exact .tail _ (.head _) | exact .tail _ (.tail _ (.head _)) | exact .tail _ (.tail _ (.tail _ (.head _))) | exact .tail _ (.tail _ (.tail _ (.tail _ (.head _)))) | exact .tail _ (.tail _ (.tail _ (.tail _ (.tail _ (.head _))))) | exact .tail _ (.tail _ (.tail _ (.tail _ (.tail _ (.tail _ (.head _)))))) | exact .tail _ (.tail _ (.tail _ (.tail _ (.tail _ (.tail _ (.tail _ (.head _))))))) | exact .tail _ (.tail _ (.tail _ (.tail _ (.tail _ (.tail _ (.tail _ (.tail _ (.head _)))))))) | exact .tail _ (.tail _ (.tail _ (.tail _ (.tail _ (.tail _ (.tail _ (.tail _ (.tail _ (.head _)))))))))), Nat.le_of_ble_eq_true rfl⟩, ?_⟩)
        · repeat (first | exact trivial | refine ⟨⟨_, rfl, (by first | exact .of rfl | exact .lit rfl | exact .of (by first | ((exact congrArg (fun z => SV.v (Value.int .i64 z)) hwj))) | exact .lit (by first | ((exact congrArg (fun z => SV.v (Value.int .i64 z)) hwj)))), (by first | exact trivial | exact Nat.le_of_ble_eq_true rfl | exact small1 rfl)⟩, ?_⟩)
        · repeat (first | exact trivial | refine ⟨⟨_, rfl⟩, ?_⟩)
        · repeat (first | exact trivial | refine ⟨.inl ⟨_, rfl, (by first | rfl | ((exact congrArg (fun z => SV.v (Value.int .i64 z)) hwj)))⟩, ?_⟩ | refine ⟨.inr ⟨Nat.le_of_ble_eq_true rfl, rfl, rfl, rfl, rfl⟩, ?_⟩)
    have hgj : (s.chans[k]).m.getters.length ≤ j := by simpa using g
    rw [List.take_of_length_le hgj] at hps
    refine ⟨⟨(k + 1, ps, os), by omega, ?_, hos⟩, ?_, by simp only; omega⟩
    · have e : evL evSem 0 s.pure.sems ++ evL evOnce 0 s.pure.onces ++ evL evGroup 0 s.pure.groups ++ evL evBarrier 0 s.pure.barriers ++ evL evChan 0 (s.pure.chans.take (k + 1)) = (evL evSem 0 s.pure.sems ++ evL evOnce 0 s.pure.onces ++ evL evGroup 0 s.pure.groups ++ evL evBarrier 0 s.pure.barriers ++ evL evChan 0 (s.pure.chans.take k) ++ (s.chans[k]).m.senders.map fun x => (x.t, ⟨8, (k : Int), x.v⟩)) ++ (s.chans[k]).m.getters.map fun x => (x, ⟨9, (k : Int), 0⟩) := by rw [hsucc]; simp [evChan]
      show pm ps = mapOf _
      rw [e]; exact hps
    · refine weak_mk [0, 1, 2, 3, 4] ?_ ?_ ?_ ?_ ?_ rfl rfl
      · repeat (first | exact trivial | refine ⟨⟨_, rfl, (by first | exact .of rfl | exact .lit rfl | exact .of (by first | ((exact congrArg (fun z => SV.v (Value.int .i64 z)) hw))) | exact .lit (by first | ((exact congrArg (fun z => SV.v (Value.int .i64 z)) hw)))), (by first | exact trivial | exact Nat.le_of_ble_eq_true rfl | exact small1 rfl)⟩, ?_⟩)
      · repeat (first | exact trivial | refine ⟨⟨(by first | exact .head _ | exact .tail _ (.head _) | exact .tail _ (.tail _ (.head _)) | exact .tail _ (.tail _ (.tail _ (.head _))) | exact .tail _ (.tail _ (.tail _ (.tail _ (.head _)))) | exact .tail _ (.tail _ (.tail _ (.tail _ (.tail _ (.head _))))) | exact .tail _ (.tail _ (.tail _ (.tail _ (.tail _ (.tail _ (.head _)))))) | exact .tail _ (.tail _ (.tail _ (.tail _ (.tail _ (.tail _ (.tail _ (.head _))))))) | exact .tail _ (.tail _ (.tail _ (.tail _ (.tail _ (.tail _ (.tail _ (.tail _ (.head _)))))))) | exact .tail _ (.tail _ (.tail _ (.tail _ (.tail _ (.tail _ (.tail _ (.tail _ (.tail _ (.head _)))))))))), Nat.le_of_ble_eq_true rfl⟩, ?_⟩)
      · repeat (first | exact trivial | refine ⟨⟨_, rfl, (by first | exact .of rfl | exact .lit rfl | exact .of (by first | ((exact congrArg (fun z => SV.v (Value.int .i64 z)) hw))) | exact .lit (by first | ((exact congrArg (fun z => SV.v (Value.int .i64 z)) hw)))), (by first | exact trivial | exact Nat.le_of_ble_eq_true rfl | exact small1 rfl)⟩, ?_⟩)
      · repeat (first | exact trivial | refine ⟨⟨_, rfl⟩, ?_⟩)
      · repeat (first | exact trivial | refine ⟨.inl ⟨_, rfl, (by first | rfl | ((exact congrArg (fun z => SV.v (Value.int .i64 z)) hw)))⟩, ?_⟩ | refine ⟨.inr ⟨Nat.le_of_ble_eq_true rfl, rfl, rfl, rfl, rfl⟩, ?_⟩)
  have hge : s.chans.length ≤ k := by simpa using g
  rw [List.take_of_length_le (by rw [len4]; exact hge)] at hps
  exact retw [0, 1, 2, 3] ⟨r, r2, ps, os, rfl, hps, hos, rfl⟩ ⟨.inl ⟨_, rfl, rfl⟩, .inl ⟨_, rfl, rfl⟩, .inl ⟨_, rfl, rfl⟩, .inl ⟨_, rfl, rfl⟩, trivial⟩ rfl ⟨rfl, rfl, rfl, rfl, trivial⟩ (fun _ => rfl)

end Go.Proofs.Ytjkkoonennpceaa

namespace Go.Proofs.Ytjkkoonennpceaa

open Go Go.Sx Go.RowKit

structure Chan.Valid (m : Chan) : Prop where
  r0 : 0 ≤ m.room
  r1 : m.room ≤ 4
  it : (m.items.length : Int) ≤ m.room
  iv : ∀ x ∈ m.items, isValue x = true
  sv : ∀ l ∈ m.senders, isValue l.v = true
  di : distinct m.threads = true
  se : m.senders ≠ [] → (m.items.length : Int) = m.room ∧ m.getters = [] ∧ m.closed = false
  ge : m.getters ≠ [] → m.items = [] ∧ m.closed = false

instance (m : Chan) : Decidable m.Valid :=
  decidable_of_iff ((0 ≤ m.room ∧ m.room ≤ 4 ∧ (m.items.length : Int) ≤ m.room) ∧ (∀ x ∈ m.items, isValue x = true) ∧ (∀ l ∈ m.senders, isValue l.v = true) ∧ distinct m.threads = true ∧ (m.senders ≠ [] → (m.items.length : Int) = m.room ∧ m.getters = [] ∧ m.closed = false) ∧ (m.getters ≠ [] → m.items = [] ∧ m.closed = false))
    ⟨fun ⟨⟨a, b, c⟩, d, e, f, g, h⟩ => ⟨a, b, c, d, e, f, g, h⟩, fun ⟨a, b, c, d, e, f, g, h⟩ => ⟨⟨a, b, c⟩, d, e, f, g, h⟩⟩

def Chan.valid (m : Chan) : Bool := decide m.Valid

theorem Chan.invalid {m : Chan} (h : ¬ m.Valid) : Value.bool false = Value.bool m.valid := by rw [Chan.valid, decide_eq_false h]

theorem Chan.isvalid {m : Chan} (h : m.Valid) : Value.bool true = Value.bool m.valid := by rw [Chan.valid, decide_eq_true h]

theorem all_take_succ {α : Type} {p : α → Prop} {xs : List α} {k : Nat} (hk : k < xs.length) (h : ∀ x ∈ xs.take k, p x) (h1 : p xs[k]) : ∀ x ∈ xs.take (k + 1), p x := by
  intro x hx
  rw [List.take_succ_eq_append_getElem hk] at hx
  rcases List.mem_append.1 hx with hx | hx
  · exact h x hx
  · simp at hx; subst hx; exact h1

theorem len_pos {α : Type} {xs : List α} : decide ((xs.length : Int) > 0) = true ↔ xs ≠ [] := by
  cases xs <;> simp

set_option maxHeartbeats 2000000 in
set_option maxRecDepth 100000 in
theorem valid_c (m : Chan) (i s g : Sl) (w : World) (h : At w [slo i cInt 1 m.items, slo s cLet 2 m.senders, slo g cInt 1 m.getters]) (hb : m.small) :
    Calls Try.prog 34 #[chanV m i s g] w (Ret w fun v L => v = .bool m.valid ∧ L = []) := by
  obtain ⟨b1, b2, b3⟩ := hb
  have bT : m.threads.length ≤ 8589934592 := by simp [Chan.threads]; omega
  have hno : ∀ {P : Prop}, ¬ P → (m.Valid → P) → ∀ A, resV A [SV.lit false] = Value.bool m.valid := fun h1 h2 _ => Chan.invalid fun hv => h1 (h2 hv)
  refine calls1 Try.func34 rfl tabOk w _ rfl _ rfl _ h ⟨rfl, rfl, rfl, rfl, rfl, rfl, trivial⟩ _ (by decide) ?_
  refine CaseB.mk (fun h1 => ?_) (fun h1 => ?_)
  · exact retw [] ⟨rfl, rfl⟩ trivial rfl trivial (hno (by simp at h1; omega) Chan.Valid.r0)
  · have r0 : 0 ≤ m.room := by simp at h1; omega
    refine CaseB.mk (fun h2 => ?_) (fun h2 => ?_)
    · exact retw [] ⟨rfl, rfl⟩ trivial rfl trivial (hno (by simp at h2; omega) Chan.Valid.r1)
    · have r1 : m.room ≤ 4 := by simp at h2; omega
      refine CaseB.mk (fun h3 => ?_) (fun h3 => ?_)
      · exact retw [] ⟨rfl, rfl⟩ trivial rfl trivial (hno (by simp at h3; omega) Chan.Valid.it)
      · have it : (m.items.length : Int) ≤ m.room := by simp at h3; omega
        refine LoopW.mk ⟨{ k : Nat // k ≤ m.items.length ∧ ∀ x ∈ m.items.take k, isValue x = true },
          fun p => .mk [(1, .p 0 0), (24, .v (i.val m.items.length)), (25, .v (.int .i64 m.items.length)), (26, .v (.int .i64 p.1))] 1 0 [(0, 52, 5)] [((0, 0), .v (.int .i64 m.room)), ((0, 1), .v (i.val m.items.length)), ((0, 2), .v (s.val m.senders.length)), ((0, 3), .v (g.val m.getters.length)), ((0, 4), .v (.bool m.closed))] [slo i cInt 1 m.items, slo s cLet 2 m.senders, slo g cInt 1 m.getters],
          fun p => m.items.length - p.1, ⟨0, Nat.zero_le _, by simp⟩, ?_, ?_⟩
        · refine weak_mk [0, 1, 2] ?_ ?_ ?_ ?_ ?_ rfl rfl
          · repeat (first | exact trivial | refine ⟨⟨_, rfl, (by first | exact .of rfl | exact .lit rfl | exact .of (by first | (rfl)) | exact .lit (by first | (rfl))), (by first | exact trivial | exact Nat.le_of_ble_eq_true rfl | exact small1 rfl)⟩, ?_⟩)
          · repeat (first | exact trivial | refine ⟨⟨(by first | exact .head _ | exact .tail _ (.head _) | exact .tail _ (.tail _ (.head _)) | exact .tail _ (.tail _ (.tail _ (.head _))) | exact .tail _ (.tail _ (.tail _ (.tail _ (.head _)))) | exact .tail _ (.tail _ (.tail _ (.tail _ (.tail _ (.head _))))) | exact .tail _ (.tail _ (.tail _ (.tail _ (.tail _ (.tail _ (.head _)))))) | exact .tail _ (.tail _ (.tail _ (.tail _ (.tail _ (.tail _ (.tail _ (.head _))))))) | exact .tail _ (.tail _ (.tail _ (.tail _ (.tail _ (.tail _ (.tail _ (.tail _ (.head _)))))))) | exact .tail _ (.tail _ (.tail _ (.tail _ (.tail _ (.tail _ (.tail _ (.tail _ (.tail _ (.head _)))))))))), Nat.le_of_ble_eq_true rfl⟩, ?_⟩)
          · repeat (first | exact trivial | refine ⟨⟨_, rfl, (by first | exact .of rfl | exact .lit rfl | exact .of (by first | (rfl)) | exact .lit (by first | (rfl))), (by first | exact trivial | exact Nat.le_of_ble_eq_true rfl | exact small1 rfl)⟩, ?_⟩)
          · repeat (first | exact trivial | refine ⟨⟨_, rfl⟩, ?_⟩)
          · repeat (first | exact trivial | refine ⟨.inl ⟨_, rfl, (by first | rfl | (rfl))⟩, ?_⟩ | refine ⟨.inr ⟨Nat.le_of_ble_eq_true rfl, rfl, rfl, rfl, rfl⟩, ?_⟩)
        · rintro ⟨k, hk, ha⟩
          refine CaseB.mk (fun h => ?_) (fun h => ?_)
          · have hlt : k < m.items.length := by simpa using h
            refine stop_idx encInt tabOk rfl rfl rfl rfl rfl ⟨rfl, rfl⟩ (by first | exact rdAt 0 rfl | exact rdOwnAt 0 rfl | exact rdAt 1 rfl | exact rdOwnAt 1 rfl | exact rdAt 2 rfl | exact rdOwnAt 2 rfl | exact rdAt 3 rfl | exact rdOwnAt 3 rfl | exact rdAt 4 rfl | exact rdOwnAt 4 rfl | exact rdAt 5 rfl | exact rdOwnAt 5 rfl | exact rdAt 6 rfl | exact rdOwnAt 6 rfl | exact rdAt 7 rfl | exact rdOwnAt 7 rfl | exact rdAt 8 rfl | exact rdOwnAt 8 rfl | exact rdAt 9 rfl | exact rdOwnAt 9 rfl | exact rdAt 10 rfl | exact rdOwnAt 10 rfl | exact rdAt 11 rfl | exact rdOwnAt 11 rfl | exact rdAt 12 rfl | exact rdOwnAt 12 rfl | exact rdAt 13 rfl | exact rdOwnAt 13 rfl | exact rdAt 14 rfl | exact rdOwnAt 14 rfl | exact rdAt 15 rfl | exact rdOwnAt 15 rfl | exact rdAt 16 rfl | exact rdOwnAt 16 rfl | exact rdAt 17 rfl | exact rdOwnAt 17 rfl | exact rdAt 18 rfl | exact rdOwnAt 18 rfl | exact rdAt 19 rfl | exact rdOwnAt 19 rfl | exact rdAt 20 rfl | exact rdOwnAt 20 rfl | exact rdAt 21 rfl | exact rdOwnAt 21 rfl | exact rdAt 22 rfl | exact rdOwnAt 22 rfl | exact rdAt 23 rfl | exact rdOwnAt 23 rfl) k rfl (by first | omega | (simp; done) | (simp; omega) | (unfold maxLen; omega) | (unfold maxLen; simp; done) | (unfold maxLen; simp; omega)) (fun ad => ?_)
            refine stop_call _ cl36 rfl rfl rfl rfl ⟨rfl, rfl⟩ (fun A w hW => isValue_c _ w) ?_
            rintro v L ⟨rfl, rfl⟩
            refine CaseB.mk (fun h => ?_) (fun h => ?_)
            · exact retw [] ⟨rfl, rfl⟩ trivial rfl trivial (hno (by simpa using h) (fun hv => hv.iv _ (List.getElem_mem hlt)))
            · have hw := wrapN k _ hlt b1
              refine ⟨⟨k + 1, by omega, all_take_succ hlt ha (by simpa using h)⟩, ?_, by simp; omega⟩
              refine weak_mk [0, 1, 2] ?_ ?_ ?_ ?_ ?_ rfl rfl
              · repeat (first | exact trivial | refine ⟨⟨_, rfl, (by first | exact .of rfl | exact .lit rfl | exact .of (by first | ((exact congrArg (fun z => SV.v (Value.int .i64 z)) hw))) | exact .lit (by first | ((exact congrArg (fun z => SV.v (Value.int .i64 z)) hw)))), (by first | exact trivial | exact Nat.le_of_ble_eq_true rfl | exact small1 rfl)⟩, ?_⟩)
              · repeat (first | exact trivial | refine ⟨⟨(by first | exact .head _ | exact .tail _ (.head _) | exact .tail _ (.tail _ (.head _)) | exact .tail _ (.tail _ (.tail _ (.head _))) | exact .tail _ (.tail _ (.tail _ (.tail _ (.head _)))) | exact .tail _ (.tail _ (.tail _ (.tail _ (.tail _ (.head _))))) | exact .tail _ (.tail _ (.tail _ (.tail _ (.tail _ (.tail _ (.head _)))))) | exact .tail _ (.tail _ (.tail _ (.tail _ (.tail _ (.tail _ (.tail _ (.head _))))))) | exact .tail _ (.tail _ (.tail _ (.tail _ (.tail _ (.tail _ (.tail _ (.tail _ (.head _)))))))) | exact .tail _ (.tail _ (.tail _ (.tail _ (.tail _ (.tail _ (.tail _ (.tail _ (.tail _ (.head _)))))))))), Nat.le_of_ble_eq_true rfl⟩, ?_⟩)
              · repeat (first | exact trivial | refine ⟨⟨_, rfl, (by first | exact .of rfl | exact .lit rfl | exact .of (by first | ((exact congrArg (fun z => SV.v (Value.int .i64 z)) hw))) | exact .lit (by first | ((exact congrArg (fun z => SV.v (Value.int .i64 z)) hw)))), (by first | exact trivial | exact Nat.le_of_ble_eq_true rfl | exact small1 rfl)⟩, ?_⟩)
              · repeat (first | exact trivial | refine ⟨⟨_, rfl⟩, ?_⟩)
              · repeat (first | exact trivial | refine ⟨.inl ⟨_, rfl, (by first | rfl | ((exact congrArg (fun z => SV.v (Value.int .i64 z)) hw)))⟩, ?_⟩ | refine ⟨.inr ⟨Nat.le_of_ble_eq_true rfl, rfl, rfl, rfl, rfl⟩, ?_⟩)
          · have hge : m.items.length ≤ k := by simpa using h
            rw [List.take_of_length_le hge] at ha
            refine LoopW.mk ⟨{ k : Nat // k ≤ m.senders.length ∧ ∀ x ∈ m.senders.take k, isValue x.v = true },
              fun p => .mk [(1, .p 0 0), (35, .v (s.val m.senders.length)), (36, .v (.int .i64 m.senders.length)), (37, .v (.int .i64 p.1))] 1 0 [(0, 52, 5)] [((0, 0), .v (.int .i64 m.room)), ((0, 1), .v (i.val m.items.length)), ((0, 2), .v (s.val m.senders.length)), ((0, 3), .v (g.val m.getters.length)), ((0, 4), .v (.bool m.closed))] [slo i cInt 1 m.items, slo s cLet 2 m.senders, slo g cInt 1 m.getters],
              fun p => m.senders.length - p.1, ⟨0, Nat.zero_le _, by simp⟩, ?_, ?_⟩
            · refine weak_mk [0, 1, 2] ?_ ?_ ?_ ?_ ?_ rfl rfl
              · repeat (first | exact trivial | refine ⟨⟨_, rfl, (by first | exact .of rfl | exact .lit rfl | exact .of (by first | (rfl)) | exact .lit (by first | (rfl))), (by first | exact trivial | exact Nat.le_of_ble_eq_true rfl | exact small1 rfl)⟩, ?_⟩)
              · repeat (first | exact trivial | refine ⟨⟨(by first | exact .head _ | exact .tail _ (.head _) | exact .tail _ (.tail _ (.head _)) | exact .tail _ (.tail _ (.tail _ (.head _))) | exact .tail _ (.tail _ (.tail _ (.tail _ (.head _)))) | exact .tail _ (.tail _ (.tail _ (.tail _ (.tail _ (.head _))))) | exact .tail _ (.tail _ (.tail _ (.tail _ (.tail _ (.tail _ (.head _)))))) | exact .tail _ (.tail _ (.tail _ (.tail _ (.tail _ (.tail _ (.tail _ (.head _))))))) | exact .tail _ (.tail _ (.tail _ (.tail _ (.tail _ (.tail _ (.tail _ (.tail _ (.head _)))))))) | exact .tail _ (.tail _ (.tail _ (.tail _ (.tail _ (.tail _ (.tail _ (.tail _ (.tail _ (.head _)))))))))), Nat.le_of_ble_eq_true rfl⟩, ?_⟩)
              · repeat (first | exact trivial | refine ⟨⟨_, rfl, (by first | exact .of rfl | exact .lit rfl | exact .of (by first | (rfl)) | exact .lit (by first | (rfl))), (by first | exact trivial | exact Nat.le_of_ble_eq_true rfl | exact small1 rfl)⟩, ?_⟩)
              · repeat (first | exact trivial | refine ⟨⟨_, rfl⟩, ?_⟩)
              · repeat (first | exact trivial | refine ⟨.inl ⟨_, rfl, (by first | rfl | (rfl))⟩, ?_⟩ | refine ⟨.inr ⟨Nat.le_of_ble_eq_true rfl, rfl, rfl, rfl, rfl⟩, ?_⟩)
            · rintro ⟨k, hk, hs⟩
              refine CaseB.mk (fun h => ?_) (fun h => ?_)
              · have hlt : k < m.senders.length := by simpa using h
                refine stop_idx encLet tabOk rfl rfl rfl rfl rfl ⟨rfl, rfl⟩ (by first | exact rdAt 0 rfl | exact rdOwnAt 0 rfl | exact rdAt 1 rfl | exact rdOwnAt 1 rfl | exact rdAt 2 rfl | exact rdOwnAt 2 rfl | exact rdAt 3 rfl | exact rdOwnAt 3 rfl | exact rdAt 4 rfl | exact rdOwnAt 4 rfl | exact rdAt 5 rfl | exact rdOwnAt 5 rfl | exact rdAt 6 rfl | exact rdOwnAt 6 rfl | exact rdAt 7 rfl | exact rdOwnAt 7 rfl | exact rdAt 8 rfl | exact rdOwnAt 8 rfl | exact rdAt 9 rfl | exact rdOwnAt 9 rfl | exact rdAt 10 rfl | exact rdOwnAt 10 rfl | exact rdAt 11 rfl | exact rdOwnAt 11 rfl | exact rdAt 12 rfl | exact rdOwnAt 12 rfl | exact rdAt 13 rfl | exact rdOwnAt 13 rfl | exact rdAt 14 rfl | exact rdOwnAt 14 rfl | exact rdAt 15 rfl | exact rdOwnAt 15 rfl | exact rdAt 16 rfl | exact rdOwnAt 16 rfl | exact rdAt 17 rfl | exact rdOwnAt 17 rfl | exact rdAt 18 rfl | exact rdOwnAt 18 rfl | exact rdAt 19 rfl | exact rdOwnAt 19 rfl | exact rdAt 20 rfl | exact rdOwnAt 20 rfl | exact rdAt 21 rfl | exact rdOwnAt 21 rfl | exact rdAt 22 rfl | exact rdOwnAt 22 rfl | exact rdAt 23 rfl | exact rdOwnAt 23 rfl) k rfl (by first | omega | (simp; done) | (simp; omega) | (unfold maxLen; omega) | (unfold maxLen; simp; done) | (unfold maxLen; simp; omega)) (fun ad => ?_)
                refine stop_call _ cl36 rfl rfl rfl rfl ⟨rfl, rfl⟩ (fun A w hW => isValue_c _ w) ?_
                rintro v L ⟨rfl, rfl⟩
                refine CaseB.mk (fun h => ?_) (fun h => ?_)
                · exact retw [] ⟨rfl, rfl⟩ trivial rfl trivial (hno (by simpa using h) (fun hv => hv.sv _ (List.getElem_mem hlt)))
                · have hw := wrapN k _ hlt b2
                  refine ⟨⟨k + 1, by omega, all_take_succ (p := fun l : Letter => isValue l.v = true) hlt hs (by simpa using h)⟩, ?_, by simp; omega⟩
                  refine weak_mk [0, 1, 2] ?_ ?_ ?_ ?_ ?_ rfl rfl
                  · repeat (first | exact trivial | refine ⟨⟨_, rfl, (by first | exact .of rfl | exact .lit rfl | exact .of (by first | ((exact congrArg (fun z => SV.v (Value.int .i64 z)) hw))) | exact .lit (by first | ((exact congrArg (fun z => SV.v (Value.int .i64 z)) hw)))), (by first | exact trivial | exact Nat.le_of_ble_eq_true rfl | exact small1 rfl)⟩, ?_⟩)
                  · repeat (first | exact trivial | refine ⟨⟨(by first | exact .head _ | exact .tail _ (.head _) | exact .tail _ (.tail _ (.head _)) | exact .tail _ (.tail _ (.tail _ (.head _))) | exact .tail _ (.tail _ (.tail _ (.tail _ (.head _)))) | exact .tail _ (.tail _ (.tail _ (.tail _ (.tail _ (.head _))))) | exact .tail _ (.tail _ (.tail _ (.tail _ (.tail _ (.tail _ (.head _)))))) | exact .tail _ (.tail _ (.tail _ (.tail _ (.tail _ (.tail _ (.tail _ (.head _))))))) | exact .tail _ (.tail _ (.tail _ (.tail _ (.tail _ (.tail _ (.tail _ (.tail _ (.head _)))))))) | exact .tail _ (.tail _ (.tail _ (.tail _ (.tail _ (.tail _ (.tail _ (.tail _ (.tail _ (.head _)))))))))), Nat.le_of_ble_eq_true rfl⟩, ?_⟩)
                  · repeat (first | exact trivial | refine ⟨⟨_, rfl, (by first | exact .of rfl | exact .lit rfl | exact .of (by first | ((exact congrArg (fun z => SV.v (Value.int .i64 z)) hw))) | exact .lit (by first | ((exact congrArg (fun z => SV.v (Value.int .i64 z)) hw)))), (by first | exact trivial | exact Nat.le_of_ble_eq_true rfl | exact small1 rfl)⟩, ?_⟩)
                  · repeat (first | exact trivial | refine ⟨⟨_, rfl⟩, ?_⟩)
                  · repeat (first | exact trivial | refine ⟨.inl ⟨_, rfl, (by first | rfl | ((exact congrArg (fun z => SV.v (Value.int .i64 z)) hw)))⟩, ?_⟩ | refine ⟨.inr ⟨Nat.le_of_ble_eq_true rfl, rfl, rfl, rfl, rfl⟩, ?_⟩)
              · have hge : m.senders.length ≤ k := by simpa using h
                rw [List.take_of_length_le hge] at hs
                refine stop_call _ cl51 rfl rfl rfl rfl ⟨rfl, rfl⟩ (fun A w hW => threads_c m i s g w ⟨(by first | exact hW.rd 0 rfl | exact hW.rdOwn 0 rfl | exact hW.rd 1 rfl | exact hW.rdOwn 1 rfl | exact hW.rd 2 rfl | exact hW.rdOwn 2 rfl | exact hW.rd 3 rfl | exact hW.rdOwn 3 rfl | exact hW.rd 4 rfl | exact hW.rdOwn 4 rfl | exact hW.rd 5 rfl | exact hW.rdOwn 5 rfl | exact hW.rd 6 rfl | exact hW.rdOwn 6 rfl | exact hW.rd 7 rfl | exact hW.rdOwn 7 rfl | exact hW.rd 8 rfl | exact hW.rdOwn 8 rfl | exact hW.rd 9 rfl | exact hW.rdOwn 9 rfl | exact hW.rd 10 rfl | exact hW.rdOwn 10 rfl | exact hW.rd 11 rfl | exact hW.rdOwn 11 rfl | exact hW.rd 12 rfl | exact hW.rdOwn 12 rfl | exact hW.rd 13 rfl | exact hW.rdOwn 13 rfl | exact hW.rd 14 rfl | exact hW.rdOwn 14 rfl | exact hW.rd 15 rfl | exact hW.rdOwn 15 rfl | exact hW.rd 16 rfl | exact hW.rdOwn 16 rfl | exact hW.rd 17 rfl | exact hW.rdOwn 17 rfl | exact hW.rd 18 rfl | exact hW.rdOwn 18 rfl | exact hW.rd 19 rfl | exact hW.rdOwn 19 rfl | exact hW.rd 20 rfl | exact hW.rdOwn 20 rfl | exact hW.rd 21 rfl | exact hW.rdOwn 21 rfl | exact hW.rd 22 rfl | exact hW.rdOwn 22 rfl | exact hW.rd 23 rfl | exact hW.rdOwn 23 rfl), (by first | exact hW.rd 0 rfl | exact hW.rdOwn 0 rfl | exact hW.rd 1 rfl | exact hW.rdOwn 1 rfl | exact hW.rd 2 rfl | exact hW.rdOwn 2 rfl | exact hW.rd 3 rfl | exact hW.rdOwn 3 rfl | exact hW.rd 4 rfl | exact hW.rdOwn 4 rfl | exact hW.rd 5 rfl | exact hW.rdOwn 5 rfl | exact hW.rd 6 rfl | exact hW.rdOwn 6 rfl | exact hW.rd 7 rfl | exact hW.rdOwn 7 rfl | exact hW.rd 8 rfl | exact hW.rdOwn 8 rfl | exact hW.rd 9 rfl | exact hW.rdOwn 9 rfl | exact hW.rd 10 rfl | exact hW.rdOwn 10 rfl | exact hW.rd 11 rfl | exact hW.rdOwn 11 rfl | exact hW.rd 12 rfl | exact hW.rdOwn 12 rfl | exact hW.rd 13 rfl | exact hW.rdOwn 13 rfl | exact hW.rd 14 rfl | exact hW.rdOwn 14 rfl | exact hW.rd 15 rfl | exact hW.rdOwn 15 rfl | exact hW.rd 16 rfl | exact hW.rdOwn 16 rfl | exact hW.rd 17 rfl | exact hW.rdOwn 17 rfl | exact hW.rd 18 rfl | exact hW.rdOwn 18 rfl | exact hW.rd 19 rfl | exact hW.rdOwn 19 rfl | exact hW.rd 20 rfl | exact hW.rdOwn 20 rfl | exact hW.rd 21 rfl | exact hW.rdOwn 21 rfl | exact hW.rd 22 rfl | exact hW.rdOwn 22 rfl | exact hW.rd 23 rfl | exact hW.rdOwn 23 rfl), (by first | exact hW.rd 0 rfl | exact hW.rdOwn 0 rfl | exact hW.rd 1 rfl | exact hW.rdOwn 1 rfl | exact hW.rd 2 rfl | exact hW.rdOwn 2 rfl | exact hW.rd 3 rfl | exact hW.rdOwn 3 rfl | exact hW.rd 4 rfl | exact hW.rdOwn 4 rfl | exact hW.rd 5 rfl | exact hW.rdOwn 5 rfl | exact hW.rd 6 rfl | exact hW.rdOwn 6 rfl | exact hW.rd 7 rfl | exact hW.rdOwn 7 rfl | exact hW.rd 8 rfl | exact hW.rdOwn 8 rfl | exact hW.rd 9 rfl | exact hW.rdOwn 9 rfl | exact hW.rd 10 rfl | exact hW.rdOwn 10 rfl | exact hW.rd 11 rfl | exact hW.rdOwn 11 rfl | exact hW.rd 12 rfl | exact hW.rdOwn 12 rfl | exact hW.rd 13 rfl | exact hW.rdOwn 13 rfl | exact hW.rd 14 rfl | exact hW.rdOwn 14 rfl | exact hW.rd 15 rfl | exact hW.rdOwn 15 rfl | exact hW.rd 16 rfl | exact hW.rdOwn 16 rfl | exact hW.rd 17 rfl | exact hW.rdOwn 17 rfl | exact hW.rd 18 rfl | exact hW.rdOwn 18 rfl | exact hW.rd 19 rfl | exact hW.rdOwn 19 rfl | exact hW.rd 20 rfl | exact hW.rdOwn 20 rfl | exact hW.rd 21 rfl | exact hW.rdOwn 21 rfl | exact hW.rd 22 rfl | exact hW.rdOwn 22 rfl | exact hW.rd 23 rfl | exact hW.rdOwn 23 rfl), trivial⟩ ⟨b1, b2, b3⟩) ?_
                rintro v L ⟨y, rfl, rfl⟩
                refine stop_call _ cl50 rfl rfl rfl rfl ⟨rfl, rfl⟩ (fun A w hW => distinctThreads_c y m.threads w ⟨(by first | exact hW.rd 0 rfl | exact hW.rdOwn 0 rfl | exact hW.rd 1 rfl | exact hW.rdOwn 1 rfl | exact hW.rd 2 rfl | exact hW.rdOwn 2 rfl | exact hW.rd 3 rfl | exact hW.rdOwn 3 rfl | exact hW.rd 4 rfl | exact hW.rdOwn 4 rfl | exact hW.rd 5 rfl | exact hW.rdOwn 5 rfl | exact hW.rd 6 rfl | exact hW.rdOwn 6 rfl | exact hW.rd 7 rfl | exact hW.rdOwn 7 rfl | exact hW.rd 8 rfl | exact hW.rdOwn 8 rfl | exact hW.rd 9 rfl | exact hW.rdOwn 9 rfl | exact hW.rd 10 rfl | exact hW.rdOwn 10 rfl | exact hW.rd 11 rfl | exact hW.rdOwn 11 rfl | exact hW.rd 12 rfl | exact hW.rdOwn 12 rfl | exact hW.rd 13 rfl | exact hW.rdOwn 13 rfl | exact hW.rd 14 rfl | exact hW.rdOwn 14 rfl | exact hW.rd 15 rfl | exact hW.rdOwn 15 rfl | exact hW.rd 16 rfl | exact hW.rdOwn 16 rfl | exact hW.rd 17 rfl | exact hW.rdOwn 17 rfl | exact hW.rd 18 rfl | exact hW.rdOwn 18 rfl | exact hW.rd 19 rfl | exact hW.rdOwn 19 rfl | exact hW.rd 20 rfl | exact hW.rdOwn 20 rfl | exact hW.rd 21 rfl | exact hW.rdOwn 21 rfl | exact hW.rd 22 rfl | exact hW.rdOwn 22 rfl | exact hW.rd 23 rfl | exact hW.rdOwn 23 rfl), trivial⟩ bT) ?_
                rintro v L ⟨rfl, rfl⟩
                refine CaseB.mk (fun h => ?_) (fun h => ?_)
                · exact retw [] ⟨rfl, rfl⟩ trivial rfl trivial (hno (by simpa using h) Chan.Valid.di)
                · have hd : distinct m.threads = true := by simpa using h
                  have fin : (m.senders ≠ [] → (m.items.length : Int) = m.room ∧ m.getters = [] ∧ m.closed = false) → (m.getters ≠ [] → m.items = [] ∧ m.closed = false) → m.Valid := fun x y => ⟨r0, r1, it, ha, hs, hd, x, y⟩
                  refine CaseB.mk (fun q1 => ?_) (fun q1 => ?_)
                  · have hs1 : m.senders ≠ [] := len_pos.1 q1
                    refine CaseB.mk (fun q2 => ?_) (fun q2 => ?_)
                    · exact retw [] ⟨rfl, rfl⟩ trivial rfl trivial (fun _ => Chan.invalid (fun hv => by have := (hv.se hs1).1; simp at q2; omega))
                    · have e2 : (m.items.length : Int) = m.room := by simpa using q2
                      refine CaseB.mk (fun q3 => ?_) (fun q3 => ?_)
                      · exact retw [] ⟨rfl, rfl⟩ trivial rfl trivial (fun _ => Chan.invalid (fun hv => len_pos.1 q3 (hv.se hs1).2.1))
                      · have e3 : m.getters = [] := by
                          cases hg : m.getters with
                          | nil => rfl
                          | cons a r => rw [hg] at q3; simp at q3
                        refine CaseB.mk (fun q4 => ?_) (fun q4 => ?_)
                        · exact retw [] ⟨rfl, rfl⟩ trivial rfl trivial (fun _ => Chan.invalid (fun hv => by have := (hv.se hs1).2.2; rw [q4] at this; cases this))
                        · have hS : m.senders ≠ [] → (m.items.length : Int) = m.room ∧ m.getters = [] ∧ m.closed = false := fun _ => ⟨e2, e3, q4⟩
                          refine CaseB.mk (fun q5 => ?_) (fun q5 => ?_)
                          · have hg : m.getters = [] := by simpa using q5
                            exact retw [] ⟨rfl, rfl⟩ trivial rfl trivial (fun _ => Chan.isvalid (fin hS (fun hn => absurd hg hn)))
                          · have hg : m.getters ≠ [] := by simpa using q5
                            refine CaseB.mk (fun q6 => ?_) (fun q6 => ?_)
                            · have hi : m.items = [] := by simpa using q6
                              refine retw [] ⟨rfl, rfl⟩ trivial rfl trivial (fun _ => ?_)
                              show Value.bool (!m.closed) = _
                              cases hc : m.closed with
                              | false => exact Chan.isvalid (fin hS (fun _ => ⟨hi, hc⟩))
                              | true => exact Chan.invalid (fun hv => by have := (hv.ge hg).2; rw [hc] at this; cases this)
                            · have hi : m.items ≠ [] := by simpa using q6
                              exact retw [] ⟨rfl, rfl⟩ trivial rfl trivial (fun _ => Chan.invalid (fun hv => hi (hv.ge hg).1))
                  · have hs1 : m.senders = [] := by
                      cases hg : m.senders with
                      | nil => rfl
                      | cons a r => rw [hg] at q1; simp at q1
                    have hS : m.senders ≠ [] → (m.items.length : Int) = m.room ∧ m.getters = [] ∧ m.closed = false := fun hn => absurd hs1 hn
                    refine CaseB.mk (fun q5 => ?_) (fun q5 => ?_)
                    · have hg : m.getters = [] := by simpa using q5
                      exact retw [] ⟨rfl, rfl⟩ trivial rfl trivial (fun _ => Chan.isvalid (fin hS (fun hn => absurd hg hn)))
                    · have hg : m.getters ≠ [] := by simpa using q5
                      refine CaseB.mk (fun q6 => ?_) (fun q6 => ?_)
                      · have hi : m.items = [] := by simpa using q6
                        refine retw [] ⟨rfl, rfl⟩ trivial rfl trivial (fun _ => ?_)
                        show Value.bool (!m.closed) = _
                        cases hc : m.closed with
                        | false => exact Chan.isvalid (fin hS (fun _ => ⟨hi, hc⟩))
                        | true => exact Chan.invalid (fun hv => by have := (hv.ge hg).2; rw [hc] at this; cases this)
                      · have hi : m.items ≠ [] := by simpa using q6
                        exact retw [] ⟨rfl, rfl⟩ trivial rfl trivial (fun _ => Chan.invalid (fun hv => hi (hv.ge hg).1))

end Go.Proofs.Ytjkkoonennpceaa

namespace Go.Proofs.Ytjkkoonennpceaa

open Go Go.Sx Go.RowKit

theorem length_le_of_sub {xs ys : List Int} (h : xs.Nodup) (hs : ∀ x ∈ xs, x ∈ ys) : xs.length ≤ ys.length := by
  induction xs generalizing ys with
  | nil => simp
  | cons x r ih =>
    have hx := hs x (by simp)
    rw [List.nodup_cons] at h
    have := ih (ys := ys.erase x) h.2 (fun y hy => (List.mem_erase_of_ne (fun e => h.1 (by subst e; exact hy))).2 (hs y (by simp [hy])))
    rw [List.length_erase_of_mem hx] at this
    have : 0 < ys.length := List.length_pos_of_mem hx
    simp only [List.length_cons]
    omega

/-- Six threads, no more. -/
theorem distinct_len {xs : List Int} (h : distinct xs = true) : xs.length ≤ 6 := by
  simp only [distinct, decide_eq_true_eq] at h
  have hs : ∀ x ∈ xs, x ∈ ([0, 1, 2, 3, 4, 5] : List Int) := fun x hx => by
    have := h.2 x hx
    simp [isThread] at this
    simp
    omega
  exact length_le_of_sub h.1 hs

end Go.Proofs.Ytjkkoonennpceaa

namespace Go.Proofs.Ytjkkoonennpceaa

open Go Go.Sx Go.RowKit

structure SemOk (m : Sem) : Prop where
  l1 : 1 ≤ m.limit
  l9 : m.limit ≤ 9
  f0 : 0 ≤ m.free
  fl : m.free ≤ m.limit
  q6 : m.queue.length ≤ 6
  cnt : ∀ w ∈ m.queue, 1 ≤ w.n ∧ w.n ≤ m.limit
  dis : distinct (m.queue.map (·.t)) = true
  hd : ∀ w, m.queue[0]? = some w → m.free < w.n

def OnceOk (m : Once) : Prop := (m.state = 0 ∧ m.owner = 0 ∧ m.value = 0 ∧ m.waits = []) ∨ (m.state = 1 ∧ isThread m.owner = true ∧ m.value = 0 ∧ distinct m.waits = true ∧ m.owner ∉ m.waits) ∨ (m.state = 2 ∧ isThread m.owner = true ∧ isValue m.value = true ∧ m.waits = [])

def GroupOk (m : Group) : Prop := isValue m.count = true ∧ distinct m.waits = true ∧ (0 < m.count ∨ m.waits = [])

def BarrierOk (m : Barrier) : Prop := 1 ≤ m.parties ∧ m.parties ≤ 6 ∧ 0 ≤ m.round ∧ m.round ≤ 9999 ∧ (m.waits.length : Int) < m.parties ∧ distinct m.waits = true

theorem onceOk0 {m : Once} (h : m.state = 0) : OnceOk m ↔ m.owner = 0 ∧ m.value = 0 ∧ m.waits = [] := by simp [OnceOk, h]

theorem onceOk1 {m : Once} (h : m.state = 1) : OnceOk m ↔ isThread m.owner = true ∧ m.value = 0 ∧ distinct m.waits = true ∧ m.owner ∉ m.waits := by simp [OnceOk, h]

theorem onceOk2 {m : Once} (h : m.state = 2) : OnceOk m ↔ isThread m.owner = true ∧ isValue m.value = true ∧ m.waits = [] := by simp [OnceOk, h]

theorem onceOkN {m : Once} (h0 : ¬ m.state = 0) (h1 : ¬ m.state = 1) (h2 : ¬ m.state = 2) : ¬ OnceOk m := by simp [OnceOk, h0, h1, h2]

set_option maxHeartbeats 4000000 in
set_option maxRecDepth 100000 in
theorem onceValid_c (m : Once) (q : Sl) (w : World) (h : At w [slo q cInt 1 m.waits]) (hb : m.waits.length ≤ 1048576) :
    Calls Try.prog 35 #[onceV m q] w (Tells w (OnceOk m)) := by
  refine calls1 Try.func35 rfl tabOk w _ rfl _ rfl _ h ⟨rfl, rfl, trivial⟩ _ (by decide) ?_
  refine CaseB.mk (fun k => ?_) (fun k0 => ?_)
  · have hx := onceOk0 (m := m) (by simpa using k)
    refine CaseB.mk (fun g => ?_) (fun g => ?_)
    rotate_left
    · have q : ¬ (m.owner = 0) := by simpa using g
      exact retw [] ⟨_, rfl, tno fun e => q (hx.1 e).1, rfl⟩ trivial rfl trivial (fun _ => rfl)
    have c1 : m.owner = 0 := by simpa using g
    refine CaseB.mk (fun g => ?_) (fun g => ?_)
    rotate_left
    · have q : ¬ (m.value = 0) := by simpa using g
      exact retw [] ⟨_, rfl, tno fun e => q (hx.1 e).2.1, rfl⟩ trivial rfl trivial (fun _ => rfl)
    have c2 : m.value = 0 := by simpa using g
    exact retw [] ⟨_, rfl, by rw [hx]; simp [c1, c2], rfl⟩ trivial rfl trivial (fun _ => rfl)
  refine CaseB.mk (fun k => ?_) (fun k1 => ?_)
  · have hx := onceOk1 (m := m) (by simpa using k)
    refine stop_call _ cl52 rfl rfl rfl rfl ⟨rfl, rfl⟩ (fun A w hW => isThread_c _ w) ?_
    rintro v L ⟨rfl, rfl⟩
    refine CaseB.mk (fun g => ?_) (fun g => ?_)
    rotate_left
    · have q : ¬ (isThread m.owner = true) := by simpa using g
      exact retw [] ⟨_, rfl, tno fun e => q (hx.1 e).1, rfl⟩ trivial rfl trivial (fun _ => rfl)
    have c1 : isThread m.owner = true := g
    refine CaseB.mk (fun g => ?_) (fun g => ?_)
    rotate_left
    · have q : ¬ (m.value = 0) := by simpa using g
      exact retw [] ⟨_, rfl, tno fun e => q (hx.1 e).2.1, rfl⟩ trivial rfl trivial (fun _ => rfl)
    have c2 : m.value = 0 := by simpa using g
    refine CaseB.mk (fun g => ?_) (fun g => ?_)
    rotate_left
    · have q : ¬ (m.waits.length ≤ 6) := by have g' := of_decide_eq_false g; omega
      exact retw [] ⟨_, rfl, tno fun e => q (distinct_len (hx.1 e).2.2.1), rfl⟩ trivial rfl trivial (fun _ => rfl)
    have c6 : m.waits.length ≤ 6 := by have g' := of_decide_eq_true g; omega
    refine stop_call _ cl50 rfl rfl rfl rfl ⟨rfl, rfl⟩ (fun A w hW => distinctThreads_c q m.waits w ⟨(by first | exact hW.rd 0 rfl | exact hW.rdOwn 0 rfl | exact hW.rd 1 rfl | exact hW.rdOwn 1 rfl | exact hW.rd 2 rfl | exact hW.rdOwn 2 rfl | exact hW.rd 3 rfl | exact hW.rdOwn 3 rfl | exact hW.rd 4 rfl | exact hW.rdOwn 4 rfl | exact hW.rd 5 rfl | exact hW.rdOwn 5 rfl | exact hW.rd 6 rfl | exact hW.rdOwn 6 rfl | exact hW.rd 7 rfl | exact hW.rdOwn 7 rfl | exact hW.rd 8 rfl | exact hW.rdOwn 8 rfl | exact hW.rd 9 rfl | exact hW.rdOwn 9 rfl | exact hW.rd 10 rfl | exact hW.rdOwn 10 rfl | exact hW.rd 11 rfl | exact hW.rdOwn 11 rfl | exact hW.rd 12 rfl | exact hW.rdOwn 12 rfl | exact hW.rd 13 rfl | exact hW.rdOwn 13 rfl | exact hW.rd 14 rfl | exact hW.rdOwn 14 rfl | exact hW.rd 15 rfl | exact hW.rdOwn 15 rfl | exact hW.rd 16 rfl | exact hW.rdOwn 16 rfl | exact hW.rd 17 rfl | exact hW.rdOwn 17 rfl | exact hW.rd 18 rfl | exact hW.rdOwn 18 rfl | exact hW.rd 19 rfl | exact hW.rdOwn 19 rfl | exact hW.rd 20 rfl | exact hW.rdOwn 20 rfl | exact hW.rd 21 rfl | exact hW.rdOwn 21 rfl | exact hW.rd 22 rfl | exact hW.rdOwn 22 rfl | exact hW.rd 23 rfl | exact hW.rdOwn 23 rfl), trivial⟩ (by omega)) ?_
    rintro v L ⟨rfl, rfl⟩
    refine CaseB.mk (fun g => ?_) (fun g => ?_)
    rotate_left
    · have q : ¬ (distinct m.waits = true) := by simpa using g
      exact retw [] ⟨_, rfl, tno fun e => q (hx.1 e).2.2.1, rfl⟩ trivial rfl trivial (fun _ => rfl)
    have c3 : distinct m.waits = true := g
    refine stop_call _ cl53 rfl rfl rfl rfl ⟨rfl, rfl⟩ (fun A w hW => contains_c q m.waits m.owner w ⟨(by first | exact hW.rd 0 rfl | exact hW.rdOwn 0 rfl | exact hW.rd 1 rfl | exact hW.rdOwn 1 rfl | exact hW.rd 2 rfl | exact hW.rdOwn 2 rfl | exact hW.rd 3 rfl | exact hW.rdOwn 3 rfl | exact hW.rd 4 rfl | exact hW.rdOwn 4 rfl | exact hW.rd 5 rfl | exact hW.rdOwn 5 rfl | exact hW.rd 6 rfl | exact hW.rdOwn 6 rfl | exact hW.rd 7 rfl | exact hW.rdOwn 7 rfl | exact hW.rd 8 rfl | exact hW.rdOwn 8 rfl | exact hW.rd 9 rfl | exact hW.rdOwn 9 rfl | exact hW.rd 10 rfl | exact hW.rdOwn 10 rfl | exact hW.rd 11 rfl | exact hW.rdOwn 11 rfl | exact hW.rd 12 rfl | exact hW.rdOwn 12 rfl | exact hW.rd 13 rfl | exact hW.rdOwn 13 rfl | exact hW.rd 14 rfl | exact hW.rdOwn 14 rfl | exact hW.rd 15 rfl | exact hW.rdOwn 15 rfl | exact hW.rd 16 rfl | exact hW.rdOwn 16 rfl | exact hW.rd 17 rfl | exact hW.rdOwn 17 rfl | exact hW.rd 18 rfl | exact hW.rdOwn 18 rfl | exact hW.rd 19 rfl | exact hW.rdOwn 19 rfl | exact hW.rd 20 rfl | exact hW.rdOwn 20 rfl | exact hW.rd 21 rfl | exact hW.rdOwn 21 rfl | exact hW.rd 22 rfl | exact hW.rdOwn 22 rfl | exact hW.rd 23 rfl | exact hW.rdOwn 23 rfl), trivial⟩ (by omega)) ?_
    rintro v L ⟨rfl, rfl⟩
    exact retw [] ⟨_, rfl, by rw [hx]; simp [c1, c2, c3], rfl⟩ trivial rfl trivial (fun _ => rfl)
  refine CaseB.mk (fun k => ?_) (fun k2 => ?_)
  · have hx := onceOk2 (m := m) (by simpa using k)
    refine stop_call _ cl52 rfl rfl rfl rfl ⟨rfl, rfl⟩ (fun A w hW => isThread_c _ w) ?_
    rintro v L ⟨rfl, rfl⟩
    refine CaseB.mk (fun g => ?_) (fun g => ?_)
    rotate_left
    · have q : ¬ (isThread m.owner = true) := by simpa using g
      exact retw [] ⟨_, rfl, tno fun e => q (hx.1 e).1, rfl⟩ trivial rfl trivial (fun _ => rfl)
    have c1 : isThread m.owner = true := g
    refine stop_call _ cl36 rfl rfl rfl rfl ⟨rfl, rfl⟩ (fun A w hW => isValue_c _ w) ?_
    rintro v L ⟨rfl, rfl⟩
    refine CaseB.mk (fun g => ?_) (fun g => ?_)
    rotate_left
    · have q : ¬ (isValue m.value = true) := by simpa using g
      exact retw [] ⟨_, rfl, tno fun e => q (hx.1 e).2.1, rfl⟩ trivial rfl trivial (fun _ => rfl)
    have c2 : isValue m.value = true := g
    exact retw [] ⟨_, rfl, by rw [hx]; simp [c1, c2], rfl⟩ trivial rfl trivial (fun _ => rfl)
  exact retw [] ⟨_, rfl, tno (onceOkN (by simpa using k0) (by simpa using k1) (by simpa using k2)), rfl⟩ trivial rfl trivial (fun _ => rfl)

set_option maxRecDepth 100000 in
theorem groupValid_c (m : Group) (q : Sl) (w : World) (h : At w [slo q cInt 1 m.waits]) (hb : m.waits.length ≤ 1048576) :
    Calls Try.prog 32 #[groupV m q] w (Tells w (GroupOk m)) := by
  refine calls1 Try.func32 rfl tabOk w _ rfl _ rfl _ h ⟨rfl, rfl, trivial⟩ _ (by decide) ?_
  refine stop_call _ cl36 rfl rfl rfl rfl ⟨rfl, rfl⟩ (fun A w hW => isValue_c _ w) ?_
  rintro v L ⟨rfl, rfl⟩
  refine CaseB.mk (fun g => ?_) (fun g => ?_)
  rotate_left
  · have q : ¬ (isValue m.count = true) := by simpa using g
    exact retw [] ⟨_, rfl, tno fun e => q e.1, rfl⟩ trivial rfl trivial (fun _ => rfl)
  have c1 : isValue m.count = true := g
  refine CaseB.mk (fun g => ?_) (fun g => ?_)
  rotate_left
  · have q : ¬ (m.waits.length ≤ 6) := by have g' := of_decide_eq_false g; omega
    exact retw [] ⟨_, rfl, tno fun e => q (distinct_len e.2.1), rfl⟩ trivial rfl trivial (fun _ => rfl)
  have c6 : m.waits.length ≤ 6 := by have g' := of_decide_eq_true g; omega
  refine stop_call _ cl50 rfl rfl rfl rfl ⟨rfl, rfl⟩ (fun A w hW => distinctThreads_c q m.waits w ⟨(by first | exact hW.rd 0 rfl | exact hW.rdOwn 0 rfl | exact hW.rd 1 rfl | exact hW.rdOwn 1 rfl | exact hW.rd 2 rfl | exact hW.rdOwn 2 rfl | exact hW.rd 3 rfl | exact hW.rdOwn 3 rfl | exact hW.rd 4 rfl | exact hW.rdOwn 4 rfl | exact hW.rd 5 rfl | exact hW.rdOwn 5 rfl | exact hW.rd 6 rfl | exact hW.rdOwn 6 rfl | exact hW.rd 7 rfl | exact hW.rdOwn 7 rfl | exact hW.rd 8 rfl | exact hW.rdOwn 8 rfl | exact hW.rd 9 rfl | exact hW.rdOwn 9 rfl | exact hW.rd 10 rfl | exact hW.rdOwn 10 rfl | exact hW.rd 11 rfl | exact hW.rdOwn 11 rfl | exact hW.rd 12 rfl | exact hW.rdOwn 12 rfl | exact hW.rd 13 rfl | exact hW.rdOwn 13 rfl | exact hW.rd 14 rfl | exact hW.rdOwn 14 rfl | exact hW.rd 15 rfl | exact hW.rdOwn 15 rfl | exact hW.rd 16 rfl | exact hW.rdOwn 16 rfl | exact hW.rd 17 rfl | exact hW.rdOwn 17 rfl | exact hW.rd 18 rfl | exact hW.rdOwn 18 rfl | exact hW.rd 19 rfl | exact hW.rdOwn 19 rfl | exact hW.rd 20 rfl | exact hW.rdOwn 20 rfl | exact hW.rd 21 rfl | exact hW.rdOwn 21 rfl | exact hW.rd 22 rfl | exact hW.rdOwn 22 rfl | exact hW.rd 23 rfl | exact hW.rdOwn 23 rfl), trivial⟩ (by omega)) ?_
  rintro v L ⟨rfl, rfl⟩
  refine CaseB.mk (fun g => ?_) (fun g => ?_)
  rotate_left
  · have q : ¬ (distinct m.waits = true) := by simpa using g
    exact retw [] ⟨_, rfl, tno fun e => q e.2.1, rfl⟩ trivial rfl trivial (fun _ => rfl)
  have c2 : distinct m.waits = true := g
  refine CaseB.mk (fun g => ?_) (fun g => ?_)
  · have c3 : 0 < m.count := by have g' := of_decide_eq_true g; omega
    exact retw [] ⟨_, rfl, tyes ⟨c1, c2, .inl c3⟩, rfl⟩ trivial rfl trivial (fun _ => rfl)
  · have c3 : ¬ 0 < m.count := by have g' := of_decide_eq_false g; omega
    exact retw [] ⟨_, rfl, by simp [GroupOk, c1, c2, c3], rfl⟩ trivial rfl trivial (fun _ => rfl)

set_option maxRecDepth 100000 in
theorem barrierValid_c (m : Barrier) (q : Sl) (w : World) (h : At w [slo q cInt 1 m.waits]) (hb : m.waits.length ≤ 1048576) :
    Calls Try.prog 33 #[barrierV m q] w (Tells w (BarrierOk m)) := by
  refine calls1 Try.func33 rfl tabOk w _ rfl _ rfl _ h ⟨rfl, rfl, trivial⟩ _ (by decide) ?_
  refine CaseB.mk (fun g => ?_) (fun g => ?_)
  rotate_left
  · have q : ¬ (1 ≤ m.parties) := by have g' := of_decide_eq_false g; omega
    exact retw [] ⟨_, rfl, tno fun e => q e.1, rfl⟩ trivial rfl trivial (fun _ => rfl)
  have c1 : 1 ≤ m.parties := by have g' := of_decide_eq_true g; omega
  refine CaseB.mk (fun g => ?_) (fun g => ?_)
  rotate_left
  · have q : ¬ (m.parties ≤ 6) := by have g' := of_decide_eq_false g; omega
    exact retw [] ⟨_, rfl, tno fun e => q e.2.1, rfl⟩ trivial rfl trivial (fun _ => rfl)
  have c2 : m.parties ≤ 6 := by have g' := of_decide_eq_true g; omega
  refine CaseB.mk (fun g => ?_) (fun g => ?_)
  rotate_left
  · have q : ¬ (0 ≤ m.round) := by have g' := of_decide_eq_false g; omega
    exact retw [] ⟨_, rfl, tno fun e => q e.2.2.1, rfl⟩ trivial rfl trivial (fun _ => rfl)
  have c3 : 0 ≤ m.round := by have g' := of_decide_eq_true g; omega
  refine CaseB.mk (fun g => ?_) (fun g => ?_)
  rotate_left
  · have q : ¬ (m.round ≤ 9999) := by have g' := of_decide_eq_false g; omega
    exact retw [] ⟨_, rfl, tno fun e => q e.2.2.2.1, rfl⟩ trivial rfl trivial (fun _ => rfl)
  have c4 : m.round ≤ 9999 := by have g' := of_decide_eq_true g; omega
  refine CaseB.mk (fun g => ?_) (fun g => ?_)
  rotate_left
  · have q : ¬ ((m.waits.length : Int) < m.parties) := by have g' := of_decide_eq_false g; omega
    exact retw [] ⟨_, rfl, tno fun e => q e.2.2.2.2.1, rfl⟩ trivial rfl trivial (fun _ => rfl)
  have c5 : (m.waits.length : Int) < m.parties := by have g' := of_decide_eq_true g; omega
  refine stop_call _ cl50 rfl rfl rfl rfl ⟨rfl, rfl⟩ (fun A w hW => distinctThreads_c q m.waits w ⟨(by first | exact hW.rd 0 rfl | exact hW.rdOwn 0 rfl | exact hW.rd 1 rfl | exact hW.rdOwn 1 rfl | exact hW.rd 2 rfl | exact hW.rdOwn 2 rfl | exact hW.rd 3 rfl | exact hW.rdOwn 3 rfl | exact hW.rd 4 rfl | exact hW.rdOwn 4 rfl | exact hW.rd 5 rfl | exact hW.rdOwn 5 rfl | exact hW.rd 6 rfl | exact hW.rdOwn 6 rfl | exact hW.rd 7 rfl | exact hW.rdOwn 7 rfl | exact hW.rd 8 rfl | exact hW.rdOwn 8 rfl | exact hW.rd 9 rfl | exact hW.rdOwn 9 rfl | exact hW.rd 10 rfl | exact hW.rdOwn 10 rfl | exact hW.rd 11 rfl | exact hW.rdOwn 11 rfl | exact hW.rd 12 rfl | exact hW.rdOwn 12 rfl | exact hW.rd 13 rfl | exact hW.rdOwn 13 rfl | exact hW.rd 14 rfl | exact hW.rdOwn 14 rfl | exact hW.rd 15 rfl | exact hW.rdOwn 15 rfl | exact hW.rd 16 rfl | exact hW.rdOwn 16 rfl | exact hW.rd 17 rfl | exact hW.rdOwn 17 rfl | exact hW.rd 18 rfl | exact hW.rdOwn 18 rfl | exact hW.rd 19 rfl | exact hW.rdOwn 19 rfl | exact hW.rd 20 rfl | exact hW.rdOwn 20 rfl | exact hW.rd 21 rfl | exact hW.rdOwn 21 rfl | exact hW.rd 22 rfl | exact hW.rdOwn 22 rfl | exact hW.rd 23 rfl | exact hW.rdOwn 23 rfl), trivial⟩ (by omega)) ?_
  rintro v L ⟨rfl, rfl⟩
  exact retw [] ⟨_, rfl, by simp [BarrierOk, c1, c2, c3, c4, c5], rfl⟩ trivial rfl trivial (fun _ => rfl)

set_option maxHeartbeats 4000000 in
set_option maxRecDepth 100000 in
theorem semValid_c (m : Sem) (q : Sl) (w : World) (h : At w [slo q cWaiter 2 m.queue]) (hb : m.queue.length ≤ 1048576) :
    Calls Try.prog 31 #[semV m q] w (Tells w (SemOk m)) := by
  refine calls1 Try.func31 rfl tabOk w _ rfl _ rfl _ h ⟨rfl, rfl, trivial⟩ _ (by decide) ?_
  refine CaseB.mk (fun g => ?_) (fun g => ?_)
  · have q : ¬ (1 ≤ m.limit) := by have g' := of_decide_eq_true g; omega
    exact retw [] ⟨_, rfl, tno fun e => q e.l1, rfl⟩ trivial rfl trivial (fun _ => rfl)
  have c1 : 1 ≤ m.limit := by have g' := of_decide_eq_false g; omega
  refine CaseB.mk (fun g => ?_) (fun g => ?_)
  · have q : ¬ (m.limit ≤ 9) := by have g' := of_decide_eq_true g; omega
    exact retw [] ⟨_, rfl, tno fun e => q e.l9, rfl⟩ trivial rfl trivial (fun _ => rfl)
  have c2 : m.limit ≤ 9 := by have g' := of_decide_eq_false g; omega
  refine CaseB.mk (fun g => ?_) (fun g => ?_)
  · have q : ¬ (0 ≤ m.free) := by have g' := of_decide_eq_true g; omega
    exact retw [] ⟨_, rfl, tno fun e => q e.f0, rfl⟩ trivial rfl trivial (fun _ => rfl)
  have c3 : 0 ≤ m.free := by have g' := of_decide_eq_false g; omega
  refine CaseB.mk (fun g => ?_) (fun g => ?_)
  · have q : ¬ (m.free ≤ m.limit) := by have g' := of_decide_eq_true g; omega
    exact retw [] ⟨_, rfl, tno fun e => q e.fl, rfl⟩ trivial rfl trivial (fun _ => rfl)
  have c4 : m.free ≤ m.limit := by have g' := of_decide_eq_false g; omega
  refine CaseB.mk (fun g => ?_) (fun g => ?_)
  · have q : ¬ (m.queue.length ≤ 6) := by have g' := of_decide_eq_true g; omega
    exact retw [] ⟨_, rfl, tno fun e => q e.q6, rfl⟩ trivial rfl trivial (fun _ => rfl)
  have c5 : m.queue.length ≤ 6 := by have g' := of_decide_eq_false g; omega
  refine LoopW.mk ⟨{ p : Nat × Sl // p.1 ≤ m.queue.length ∧ ∀ w ∈ m.queue.take p.1, 1 ≤ w.n ∧ w.n ≤ m.limit },
    fun p => .mk [(1, .p 0 0), (3, .v (p.1.2.val ((m.queue.map (·.t)).take p.1.1).length)), (33, .v (q.val m.queue.length)), (34, .v (.int .i64 (m.queue.length : Int))), (35, .v (.int .i64 (p.1.1 : Int)))] 1 0 [(0, 45, 3)] [((0, 0), .v (.int .i64 m.free)), ((0, 1), .v (.int .i64 m.limit)), ((0, 2), .v (q.val m.queue.length))] [own p.1.2 3 cInt 1 ((m.queue.map (·.t)).take p.1.1), slo q cWaiter 2 m.queue],
    fun p => m.queue.length - p.1.1, ⟨(0, ⟨none, 0⟩), Nat.zero_le _, by simp⟩, ?_, ?_⟩
  · refine weak_mk [99, 0] ?_ ?_ ?_ ?_ ?_ rfl rfl
    · repeat (first | exact trivial | refine ⟨⟨_, rfl, (by first | exact .of rfl | exact .lit rfl | exact .of (by first | (rfl)) | exact .lit (by first | (rfl))), (by first | exact trivial | exact Nat.le_of_ble_eq_true rfl | exact small1 rfl)⟩, ?_⟩)
    · repeat (first | exact trivial | refine ⟨⟨(by first | exact .head _ | exact .tail _ (.head _) | exact .tail _ (.tail _ (.head _)) | exact .tail _ (.tail _ (.tail _ (.head _))) | exact .tail _ (.tail _ (.tail _ (.tail _ (.head _)))) | exact .tail _ (.tail _ (.tail _ (.tail _ (.tail _ (.head _))))) | exact .tail _ (.tail _ (.tail _ (.tail _ (.tail _ (.tail _ (.head _)))))) | exact .tail _ (.tail _ (.tail _ (.tail _ (.tail _ (.tail _ (.tail _ (.head _))))))) | exact .tail _ (.tail _ (.tail _ (.tail _ (.tail _ (.tail _ (.tail _ (.tail _ (.head _)))))))) | exact .tail _ (.tail _ (.tail _ (.tail _ (.tail _ (.tail _ (.tail _ (.tail _ (.tail _ (.head _)))))))))), Nat.le_of_ble_eq_true rfl⟩, ?_⟩)
    · repeat (first | exact trivial | refine ⟨⟨_, rfl, (by first | exact .of rfl | exact .lit rfl | exact .of (by first | (rfl)) | exact .lit (by first | (rfl))), (by first | exact trivial | exact Nat.le_of_ble_eq_true rfl | exact small1 rfl)⟩, ?_⟩)
    · repeat (first | exact trivial | refine ⟨⟨_, rfl⟩, ?_⟩)
    · repeat (first | exact trivial | refine ⟨.inl ⟨_, rfl, (by first | rfl | (rfl))⟩, ?_⟩ | refine ⟨.inr ⟨Nat.le_of_ble_eq_true rfl, rfl, rfl, rfl, rfl⟩, ?_⟩)
  rintro ⟨⟨k, a⟩, hk, hinv⟩
  simp only at hk hinv
  refine CaseB.mk (fun g => ?_) (fun g => ?_)
  · have hlt : k < m.queue.length := by simpa using g
    have hw := wrapN k _ hlt (by omega)
    refine stop_idx encWaiter tabOk rfl rfl rfl rfl rfl ⟨rfl, rfl⟩ (rdAt 1 rfl) k rfl (by first | omega | (simp; done) | (simp; omega) | (unfold maxLen; omega) | (unfold maxLen; simp; done) | (unfold maxLen; simp; omega)) (fun ad => ?_)
    refine CaseB.mk (fun g => ?_) (fun g => ?_)
    · have q : ¬ (1 ≤ (m.queue[k]).n) := by have g' := of_decide_eq_true g; omega
      exact retw [] ⟨_, rfl, tno fun e => q (e.cnt _ (List.getElem_mem hlt)).1, rfl⟩ trivial rfl trivial (fun _ => rfl)
    have d1 : 1 ≤ (m.queue[k]).n := by have g' := of_decide_eq_false g; omega
    refine CaseB.mk (fun g => ?_) (fun g => ?_)
    · have q : ¬ ((m.queue[k]).n ≤ m.limit) := by have g' := of_decide_eq_true g; omega
      exact retw [] ⟨_, rfl, tno fun e => q (e.cnt _ (List.getElem_mem hlt)).2, rfl⟩ trivial rfl trivial (fun _ => rfl)
    have d2 : (m.queue[k]).n ≤ m.limit := by have g' := of_decide_eq_false g; omega
    refine AllSl.mk fun u => ?_
    refine stop_app encInt 1 tabOk (ys := [(m.queue[k]).t]) rfl rfl rfl rfl rfl rfl rfl rfl rfl (by decide) ⟨rfl, rfl⟩ rfl (by first | exact rdAt 0 rfl | exact rdOwnAt 0 rfl | exact rdAt 1 rfl | exact rdOwnAt 1 rfl | exact rdAt 2 rfl | exact rdOwnAt 2 rfl | exact rdAt 3 rfl | exact rdOwnAt 3 rfl | exact rdAt 4 rfl | exact rdOwnAt 4 rfl | exact rdAt 5 rfl | exact rdOwnAt 5 rfl | exact rdAt 6 rfl | exact rdOwnAt 6 rfl | exact rdAt 7 rfl | exact rdOwnAt 7 rfl | exact rdAt 8 rfl | exact rdOwnAt 8 rfl | exact rdAt 9 rfl | exact rdOwnAt 9 rfl | exact rdAt 10 rfl | exact rdOwnAt 10 rfl | exact rdAt 11 rfl | exact rdOwnAt 11 rfl | exact rdAt 12 rfl | exact rdOwnAt 12 rfl | exact rdAt 13 rfl | exact rdOwnAt 13 rfl | exact rdAt 14 rfl | exact rdOwnAt 14 rfl | exact rdAt 15 rfl | exact rdOwnAt 15 rfl | exact rdAt 16 rfl | exact rdOwnAt 16 rfl | exact rdAt 17 rfl | exact rdOwnAt 17 rfl | exact rdAt 18 rfl | exact rdOwnAt 18 rfl | exact rdAt 19 rfl | exact rdOwnAt 19 rfl | exact rdAt 20 rfl | exact rdOwnAt 20 rfl | exact rdAt 21 rfl | exact rdOwnAt 21 rfl | exact rdAt 22 rfl | exact rdOwnAt 22 rfl | exact rdAt 23 rfl | exact rdOwnAt 23 rfl) (by first | omega | (simp; done) | (simp; omega) | (unfold maxLen; omega) | (unfold maxLen; simp; done) | (unfold maxLen; simp; omega)) (by first | omega | (simp; done) | (simp; omega) | (unfold maxLen; omega) | (unfold maxLen; simp; done) | (unfold maxLen; simp; omega)) (fun a2 => ?_)
    rw [map_take_succ hlt rfl rfl]
    refine ⟨⟨(k + 1, a2), by omega, fun x hx => ?_⟩, ?_, by simp only; omega⟩
    · rw [List.take_succ_eq_append_getElem hlt] at hx
      rcases List.mem_append.1 hx with hx | hx
      · exact hinv x hx
      · simp at hx; subst hx; exact ⟨d1, d2⟩
    · refine weak_mk [0, 2] ?_ ?_ ?_ ?_ ?_ rfl rfl
      · repeat (first | exact trivial | refine ⟨⟨_, rfl, (by first | exact .of rfl | exact .lit rfl | exact .of (by first | ((exact congrArg (fun z => SV.v (Value.int .i64 z)) hw))) | exact .lit (by first | ((exact congrArg (fun z => SV.v (Value.int .i64 z)) hw)))), (by first | exact trivial | exact Nat.le_of_ble_eq_true rfl | exact small1 rfl)⟩, ?_⟩)
      · repeat (first | exact trivial | refine ⟨⟨(by first | exact .head _ | exact .tail _ (.head _) | exact .tail _ (.tail _ (.head _)) | exact .tail _ (.tail _ (.tail _ (.head _))) | exact .tail _ (.tail _ (.tail _ (.tail _ (.head _)))) | exact .tail _ (.tail _ (.tail _ (.tail _ (.tail _ (.head _))))) | exact .tail _ (.tail _ (.tail _ (.tail _ (.tail _ (.tail _ (.head _)))))) | exact .tail _ (.tail _ (.tail _ (.tail _ (.tail _ (.tail _ (.tail _ (.head _))))))) | exact .tail _ (.tail _ (.tail _ (.tail _ (.tail _ (.tail _ (.tail _ (.tail _ (.head _)))))))) | exact .tail _ (.tail _ (.tail _ (.tail _ (.tail _ (.tail _ (.tail _ (.tail _ (.tail _ (.head _)))))))))), Nat.le_of_ble_eq_true rfl⟩, ?_⟩)
      · repeat (first | exact trivial | refine ⟨⟨_, rfl, (by first | exact .of rfl | exact .lit rfl | exact .of (by first | ((exact congrArg (fun z => SV.v (Value.int .i64 z)) hw))) | exact .lit (by first | ((exact congrArg (fun z => SV.v (Value.int .i64 z)) hw)))), (by first | exact trivial | exact Nat.le_of_ble_eq_true rfl | exact small1 rfl)⟩, ?_⟩)
      · repeat (first | exact trivial | refine ⟨⟨_, rfl⟩, ?_⟩)
      · repeat (first | exact trivial | refine ⟨.inl ⟨_, rfl, (by first | rfl | ((exact congrArg (fun z => SV.v (Value.int .i64 z)) hw)))⟩, ?_⟩ | refine ⟨.inr ⟨Nat.le_of_ble_eq_true rfl, rfl, rfl, rfl, rfl⟩, ?_⟩)
  have hge : m.queue.length ≤ k := by simpa using g
  rw [List.take_of_length_le hge] at hinv
  have eT : (m.queue.map (·.t)).take k = m.queue.map (·.t) := List.take_of_length_le (by simpa using hge)
  simp only [eT]
  refine draw_start tabOk (by kernel_rfl) (by kernel_rfl) (by kernel_rfl) 200 [((0, 0), .v (.int .i64 m.free)), ((0, 1), .v (.int .i64 m.limit)), ((0, 2), .v (q.val m.queue.length))] [1] [_] ⟨⟨_, rfl, rfl, (by first | exact trivial | exact Nat.le_of_ble_eq_true rfl)⟩, ⟨_, rfl, rfl, (by first | exact trivial | exact Nat.le_of_ble_eq_true rfl)⟩, ⟨_, rfl, rfl, (by first | exact trivial | exact Nat.le_of_ble_eq_true rfl)⟩, trivial⟩ ⟨⟨_, rfl⟩, ⟨_, rfl⟩, ⟨_, rfl⟩, trivial⟩ ⟨rfl, trivial⟩ rfl ?_
  refine d_call _ cl50 rfl rfl rfl rfl ⟨rfl, rfl⟩ (fun A w hW => distinctThreads_c a _ w ⟨hW.rdOwn 0 rfl, trivial⟩ (by simp; omega)) ?_
  rintro v L ⟨rfl, rfl⟩
  refine CaseB.mk (fun g => ?_) (fun g => ?_)
  rotate_left
  · have q : ¬ (distinct (m.queue.map (·.t)) = true) := by simpa using g
    exact retw [] ⟨_, rfl, tno fun e => q e.dis, rfl⟩ trivial rfl trivial (fun _ => rfl)
  have c6 : distinct (m.queue.map (·.t)) = true := g
  refine CaseB.mk (fun g => ?_) (fun g => ?_)
  · have c7 : m.queue = [] := by simpa using g
    exact retw [] ⟨_, rfl, tyes ⟨c1, c2, c3, c4, c5, hinv, c6, by rw [c7]; simp⟩, rfl⟩ trivial rfl trivial (fun _ => rfl)
  have c7 : 0 < m.queue.length := by have g' : ¬ m.queue = [] := by simpa using g
                                     exact List.length_pos_iff.2 g'
  refine d_idx (ti := tiOf tab) encWaiter tabOk rfl rfl rfl rfl rfl ⟨rfl, rfl⟩ (rdAt 0 rfl) 0 rfl (by first | omega | (simp; done) | (simp; omega) | (unfold maxLen; omega) | (unfold maxLen; simp; done) | (unfold maxLen; simp; omega)) (fun ad => ?_)
  refine retw [] ⟨_, rfl, ?_, rfl⟩ trivial rfl trivial (fun _ => rfl)
  have hh : ∀ w, m.queue[0]? = some w → w = m.queue[0] := fun w hw => by rw [List.getElem?_eq_getElem c7] at hw; injection hw with hw; exact hw.symm
  constructor
  · intro g
    have g' := of_decide_eq_true g
    exact ⟨c1, c2, c3, c4, c5, hinv, c6, fun w hw => by rw [hh w hw]; omega⟩
  · intro e
    have := e.hd _ (List.getElem?_eq_getElem c7)
    exact decide_eq_true (by omega)

end Go.Proofs.Ytjkkoonennpceaa

namespace Go.Proofs.Ytjkkoonennpceaa

open Go Go.Sx Go.RowKit

theorem neWait (x y : Waiting) (w : World) : (binOp .neq 89 (.agg (cWait x).toArray) (.agg (cWait y).toArray)).run Try.prog w = .ok (.bool (decide (x ≠ y))) w := by
  have h := neq_ints (P := Try.prog) (t := 89) (it := 3) (xs := [x.kind, x.on, x.arg]) (ys := [y.kind, y.on, y.arg]) (by kernel_rfl) (by kernel_rfl) (by kernel_rfl) rfl (by kernel_rfl) w
  have e : ([x.kind, x.on, x.arg] ≠ [y.kind, y.on, y.arg]) ↔ x ≠ y := by cases x; cases y; simp
  rw [show decide (x ≠ y) = decide ([x.kind, x.on, x.arg] ≠ [y.kind, y.on, y.arg]) from by simp only [e]]
  exact h

/-- What is told of a key. -/
def ofKey {β : Type} (es : List (Int × β)) (t : Int) : List β := (es.filter fun e => e.1 == t).map (·.2)

theorem aget_aset {β : Type} (m : List (Int × β)) (k : Int) (v : β) (t : Int) : aget (aset m k v) t = if k = t then some v else aget m t := by
  induction m with
  | nil => simp only [aset, aget]
  | cons p r ih =>
    obtain ⟨q, u⟩ := p
    simp only [aset]
    by_cases e : q = k
    · subst e
      simp only [if_true, aget]
      by_cases e2 : q = t <;> simp [e2]
    · simp only [e, if_false, aget, ih]
      by_cases e2 : q = t
      · subst e2
        have : ¬ k = q := fun h => e h.symm
        simp [this]
      · simp [e2]

theorem mapOf_get {β : Type} (es : List (Int × β)) (t : Int) : aget (mapOf es) t = if ofKey es t = [] then none else some (ofKey es t) := by
  have : ∀ (es : List (Int × β)) (m : List (Int × List β)) (f : List β), (aget m t = if f = [] then none else some f) → aget (es.foldl addM m) t = if f ++ ofKey es t = [] then none else some (f ++ ofKey es t) := fun es => by
    induction es with
    | nil => intro m f h; simpa [ofKey] using h
    | cons e r ih =>
      intro m f h
      obtain ⟨k, x⟩ := e
      simp only [List.foldl_cons]
      by_cases hk : k = t
      · subst hk
        have h1 : aget (addM m (k, x)) k = some (f ++ [x]) := by
          rw [addM, aget_aset, if_pos rfl, h]
          by_cases hf : f = []
          · simp [hf]
          · simp [hf]
        have := ih (addM m (k, x)) (f ++ [x]) (by rw [h1]; simp)
        rw [this]
        simp [ofKey]
      · have h1 : aget (addM m (k, x)) t = aget m t := by rw [addM, aget_aset, if_neg hk]
        have := ih (addM m (k, x)) f (by rw [h1]; exact h)
        rw [this]
        have e2 : ofKey ((k, x) :: r) t = ofKey r t := by simp [ofKey, hk]
        rw [e2]
  have := this es [] [] (by simp [aget])
  simpa [mapOf] using this

theorem mapOf_getD {β : Type} (es : List (Int × β)) (t : Int) : (aget (mapOf es) t).getD [] = ofKey es t := by
  rw [mapOf_get]
  by_cases h : ofKey es t = [] <;> simp [h]

theorem ofKey_nil {β : Type} {es : List (Int × β)} {t : Int} : ofKey es t = [] ↔ ∀ e ∈ es, e.1 ≠ t := by
  simp [ofKey, List.filter_eq_nil_iff]

/-- Keys come once. -/
def keyed {β : Type} (m : List (Int × β)) : Prop := (m.map (·.1)).Nodup

theorem aset_keys {β : Type} (m : List (Int × β)) (k : Int) (v : β) : (aset m k v).map (·.1) = if k ∈ m.map (·.1) then m.map (·.1) else m.map (·.1) ++ [k] := by
  induction m with
  | nil => simp [aset]
  | cons p r ih =>
    obtain ⟨q, u⟩ := p
    simp only [aset]
    by_cases e : q = k
    · simp [e]
    · have e' : ¬ k = q := fun h => e h.symm
      simp only [e, if_false, List.map_cons, ih, List.mem_cons, e', false_or]
      split <;> simp

theorem mapOf_keyed {β : Type} (es : List (Int × β)) : keyed (mapOf es) := by
  have : ∀ (es : List (Int × β)) (m : List (Int × List β)), keyed m → keyed (es.foldl addM m) := fun es => by
    induction es with
    | nil => intro m h; exact h
    | cons e r ih =>
      intro m h
      refine ih _ ?_
      simp only [keyed, addM, aset_keys] at h ⊢
      split
      · exact h
      · rename_i hn
        rw [List.nodup_append]
        exact ⟨h, by simp, fun a ha b hb => by simp at hb; subst hb; rintro rfl; exact hn ha⟩
  exact this es [] (by simp [keyed])

theorem keyed_pm {β : Type} {ps : List (Int × LH β)} : keyed (pm ps) ↔ keyed ps := by
  simp [keyed, pm, Function.comp_def]

theorem aget_none {β : Type} {m : List (Int × β)} {t : Int} : aget m t = none ↔ t ∉ m.map (·.1) := by
  induction m with
  | nil => simp [aget]
  | cons p r ih =>
    obtain ⟨q, u⟩ := p
    simp only [aget]
    by_cases e : q = t
    · simp [e]
    · have e' : ¬ t = q := fun h => e h.symm
      simp [e, e', ih]

theorem aget_in {β : Type} {m : List (Int × β)} {t : Int} {u : β} (h : aget m t = some u) : (t, u) ∈ m := by
  induction m with
  | nil => simp [aget] at h
  | cons p r ih =>
    obtain ⟨q, v⟩ := p
    simp only [aget] at h
    by_cases e : q = t
    · simp only [e, if_true, Option.some.injEq] at h
      subst h; subst e; simp
    · simp only [e, if_false] at h
      exact List.mem_cons_of_mem _ (ih h)

theorem adel_sub {β : Type} (m : List (Int × β)) (t : Int) : (adel m t).Sublist m := by
  induction m with
  | nil => exact .refl _
  | cons p r ih =>
    obtain ⟨q, v⟩ := p
    simp only [adel]
    split
    · exact List.sublist_cons_self _ _
    · exact ih.cons_cons _

theorem keyed_del {β : Type} {m : List (Int × β)} (h : keyed m) (t : Int) : keyed (adel m t) := h.sublist ((adel_sub m t).map _)

theorem aget_del {β : Type} {m : List (Int × β)} (h : keyed m) (t x : Int) : aget (adel m t) x = if x = t then none else aget m x := by
  induction m with
  | nil => simp [adel, aget]
  | cons p r ih =>
    obtain ⟨q, v⟩ := p
    have hq : q ∉ r.map (·.1) ∧ keyed r := by simpa [keyed] using h
    simp only [adel]
    by_cases e : q = t
    · subst e
      simp only [if_true]
      by_cases ex : x = q
      · subst ex; simp only [if_true]; exact aget_none.2 hq.1
      · have : ¬ q = x := fun h => ex h.symm
        simp [ex, aget, this]
    · simp only [e, if_false, aget, ih hq.2]
      by_cases ex : q = x
      · subst ex; simp [e]
      · simp [ex]

theorem nil_of_none {β : Type} {m : List (Int × β)} (h : ∀ x, aget m x = none) : m = [] := by
  cases m with
  | nil => rfl
  | cons p r =>
    have := h p.1
    simp [aget] at this

theorem rows_in {β : Type} {ty : TypeId} {enc : β → List Value} {sz : Nat} {ps : List (Int × LH β)} {t : Int} {u : LH β} (h : (t, u) ∈ ps) : RdIn (rowsM ty enc sz ps) (slo u.q enc sz u.xs) :=
  RdIn.own (o := false) (e := ty) (List.mem_flatMap.2 ⟨_, h, by simp⟩)

/-- What is left of a map when the keys from 0 up to k are taken out. -/
structure Left {β : Type} (ps qs : List (Int × LH β)) (k : Nat) : Prop where
  sub : qs.Sublist ps
  key : keyed qs
  get : ∀ x, aget qs x = if 0 ≤ x ∧ x < k then none else aget ps x

theorem Left.start {β : Type} {ps : List (Int × LH β)} (h : keyed ps) : Left ps ps 0 := ⟨.refl _, h, fun x => by rw [if_neg (by omega)]⟩

theorem Left.next {β : Type} {ps qs : List (Int × LH β)} {k : Nat} (h : Left ps qs k) : Left ps (adel qs (k : Int)) (k + 1) := by
  refine ⟨(adel_sub _ _).trans h.sub, keyed_del h.key _, fun x => ?_⟩
  rw [aget_del h.key, h.get]
  by_cases e : x = k
  · rw [if_pos e, if_pos (by omega)]
  · rw [if_neg e]
    by_cases e2 : 0 ≤ x ∧ x < k
    · rw [if_pos e2, if_pos (by omega)]
    · rw [if_neg e2, if_neg (by omega)]

theorem Left.at {β : Type} {ps qs : List (Int × LH β)} {k : Nat} (h : Left ps qs k) {es : List (Int × β)} (he : pm ps = mapOf es) : ((aget qs (k : Int)).getD LH.nil).xs = ofKey es k := by
  have h1 := h.get k
  rw [if_neg (by omega)] at h1
  have h2 := mapOf_getD es (k : Int)
  rw [← he, pm_aget] at h2
  rw [h1, ← h2]
  cases aget ps (k : Int) <;> rfl

theorem Left.done {β : Type} {ps qs : List (Int × LH β)} {k : Nat} (h : Left ps qs k) {es : List (Int × β)} (he : pm ps = mapOf es) : qs = [] ↔ ∀ e ∈ es, 0 ≤ e.1 ∧ e.1 < k := by
  constructor
  · rintro rfl e hm
    refine Classical.byContradiction fun hn => ?_
    have h1 := h.get e.1
    rw [if_neg hn] at h1
    have h2 := mapOf_get es e.1
    have h3 : ofKey es e.1 ≠ [] := fun h0 => ofKey_nil.1 h0 e hm rfl
    rw [if_neg h3, ← he, pm_aget, ← h1] at h2
    simp [aget] at h2
  · intro hall
    refine nil_of_none fun x => ?_
    rw [h.get]
    split
    · rfl
    · rename_i hn
      have h3 : ofKey es x = [] := ofKey_nil.2 fun e hm hx => hn (hx ▸ hall e hm)
      have h2 := mapOf_get es x
      rw [if_pos h3, ← he, pm_aget] at h2
      cases hq : aget ps x with
      | none => rfl
      | some u => rw [hq] at h2; simp at h2

/-- What a thread waits for that waits for its operation. -/
def want (o : Op) : Waiting := ⟨o.kind, o.on, if o.kind = 2 ∨ o.kind = 8 then o.arg else 0⟩

/-- A thread's place, status, and where it waits and what it owns. -/
def ThreadOk (ops : List Op) (at_ st : Int) (w : List Waiting) (o : List Int) : Prop :=
  0 ≤ at_ ∧ at_ ≤ ops.length ∧ ((at_ = ops.length ∧ st = 3 ∧ w = [] ∧ o = []) ∨
    ∃ op, ops[at_.toNat]? = some op ∧ ((st = 0 ∧ w = [] ∧ o = []) ∨ (st = 1 ∧ o = [] ∧ w = [want op]) ∨ (st = 2 ∧ w = [] ∧ op.kind = 4 ∧ o = [op.on])))

structure Fits (p : Prog) (s : State) : Prop where
  prog : ProgOk p
  np : s.places.length = p.threads.length
  ns : s.status.length = p.threads.length
  lsems : s.sems.length = p.sems.length
  lgroups : s.groups.length = p.groups.length
  lbarriers : s.barriers.length = p.barriers.length
  lchans : s.chans.length = p.rooms.length
  lonces : s.onces.length = 3
  lsaid : s.said.length ≤ 64
  f0 : 0 ≤ s.fault
  f4 : s.fault ≤ 4
  sems : ∀ (i : Nat) x, s.sems[i]? = some x → SemOk x ∧ p.sems[i]? = some x.limit
  groups : ∀ x ∈ s.groups, GroupOk x
  barriers : ∀ (i : Nat) x, s.barriers[i]? = some x → BarrierOk x ∧ p.barriers[i]? = some x.parties
  chans : ∀ (i : Nat) x, s.chans[i]? = some x → x.valid = true ∧ p.rooms[i]? = some x.room
  onces : ∀ x ∈ s.onces, OnceOk x
  said : ∀ v ∈ s.said, isValue v = true
  threads : ∀ (t : Nat) ops at_ st, p.threads[t]? = some ops → s.places[t]? = some at_ → s.status[t]? = some st → ThreadOk ops at_ st (ofKey (events s) t) (ofKey (owners s) t)
  ev : ∀ e ∈ events s, 0 ≤ e.1 ∧ e.1 < p.threads.length
  ow : ∀ e ∈ owners s, 0 ≤ e.1 ∧ e.1 < p.threads.length

theorem evL_len {α β : Type} {f : Nat → α → List β} {C : Nat} : ∀ {i : Nat} {xs : List α}, (∀ i x, x ∈ xs → (f i x).length ≤ C) → (evL f i xs).length ≤ xs.length * C
  | i, [], _ => by simp [evL]
  | i, x :: r, h => by
    have h1 := h i x (by simp)
    have h2 := evL_len (i := i + 1) (xs := r) fun i y hy => h i y (by simp [hy])
    have e : (r.length + 1) * C = r.length * C + C := Nat.succ_mul _ _
    simp only [evL, List.length_append, List.length_cons, e]
    omega

theorem onceOk_len {m : Once} (h : OnceOk m) : m.waits.length ≤ 6 := by
  rcases h with h | h | h
  · rw [h.2.2.2]; simp
  · exact distinct_len h.2.2.2.1
  · rw [h.2.2.2]; simp

theorem barrierOk_len {m : Barrier} (h : BarrierOk m) : m.waits.length ≤ 6 := distinct_len h.2.2.2.2.2

theorem groupOk_len {m : Group} (h : GroupOk m) : m.waits.length ≤ 6 := distinct_len h.2.1

theorem chanOk_len {m : Chan} (h : m.valid = true) : m.senders.length + m.getters.length ≤ 6 := by
  have hv : m.Valid := by simpa [Chan.valid] using h
  have := distinct_len hv.di
  simpa [Chan.threads] using this

end Go.Proofs.Ytjkkoonennpceaa

namespace Go.Proofs.Ytjkkoonennpceaa

open Go Go.Sx Go.RowKit

/-- What threads share fits a program, and is valid. -/
structure SharedOk (p : Prog) (s : State) : Prop where
  lsems : s.sems.length = p.sems.length
  lgroups : s.groups.length = p.groups.length
  lbarriers : s.barriers.length = p.barriers.length
  lchans : s.chans.length = p.rooms.length
  lonces : s.onces.length = 3
  sems : ∀ (i : Nat) x, s.sems[i]? = some x → SemOk x ∧ p.sems[i]? = some x.limit
  groups : ∀ x ∈ s.groups, GroupOk x
  barriers : ∀ (i : Nat) x, s.barriers[i]? = some x → BarrierOk x ∧ p.barriers[i]? = some x.parties
  chans : ∀ (i : Nat) x, s.chans[i]? = some x → x.valid = true ∧ p.rooms[i]? = some x.room
  onces : ∀ x ∈ s.onces, OnceOk x

theorem Fits.shared {p : Prog} {s : State} (h : Fits p s) : SharedOk p s := ⟨h.lsems, h.lgroups, h.lbarriers, h.lchans, h.lonces, h.sems, h.groups, h.barriers, h.chans, h.onces⟩

end Go.Proofs.Ytjkkoonennpceaa

namespace Go.Proofs.Ytjkkoonennpceaa

open Go Go.Sx Go.RowKit

theorem only {α : Type} {xs : List α} {n : Nat} {y : α} (h : xs[n]? = some y) {q : α → Prop} : (∃ x, xs[n]? = some x ∧ q x) ↔ q y :=
  ⟨fun ⟨x, hx, hq⟩ => by rw [h] at hx; injection hx with hx; exact hx ▸ hq, fun hq => ⟨y, h, hq⟩⟩

end Go.Proofs.Ytjkkoonennpceaa

namespace Go.Proofs.Ytjkkoonennpceaa

open Go Go.Sx Go.RowKit

/-- How often a thread comes. -/
def cnt (xs : List Int) (t : Int) : Nat := (xs.filter fun x => x == t).length

theorem evL_mem {α β : Type} {f : Nat → α → List β} {e : β} : ∀ {i : Nat} {xs : List α}, e ∈ evL f i xs → ∃ j x, xs[j]? = some x ∧ e ∈ f (i + j) x
  | i, [], h => by simp [evL] at h
  | i, x :: r, h => by
    rcases List.mem_append.1 (show e ∈ f i x ++ evL f (i + 1) r from h) with h | h
    · exact ⟨0, x, rfl, h⟩
    · obtain ⟨j, y, hy, hm⟩ := evL_mem h
      exact ⟨j + 1, y, hy, by rw [show i + (j + 1) = i + 1 + j by omega]; exact hm⟩

end Go.Proofs.Ytjkkoonennpceaa

namespace Go.Proofs.Ytjkkoonennpceaa

open Go Go.Sx Go.RowKit

theorem evL_mem2 {α β : Type} {f : Nat → α → List β} {e : β} {xs : List α} : e ∈ evL f 0 xs ↔ ∃ j x, xs[j]? = some x ∧ e ∈ f j x := by
  have : ∀ (xs : List α) (i j : Nat) (x : α), xs[j]? = some x → e ∈ f (i + j) x → e ∈ evL f i xs := by
    intro xs
    induction xs with
    | nil => intro i j x h; simp at h
    | cons y r ih =>
      intro i j x h hm
      simp only [evL, List.mem_append]
      cases j with
      | zero => simp at h; subst h; exact .inl hm
      | succ j => exact .inr (ih (i + 1) j x (by simpa using h) (by rw [show i + 1 + j = i + (j + 1) by omega]; exact hm))
  constructor
  · intro h
    obtain ⟨j, x, hx, hm⟩ := evL_mem h
    exact ⟨j, x, hx, by rwa [Nat.zero_add] at hm⟩
  · rintro ⟨j, x, hx, hm⟩
    exact this xs 0 j x hx (by rwa [Nat.zero_add])

theorem ofKey_mem {β : Type} {es : List (Int × β)} {t : Int} {x : β} : x ∈ ofKey es t ↔ (t, x) ∈ es := by
  simp only [ofKey, List.mem_map, List.mem_filter, beq_iff_eq]
  constructor
  · rintro ⟨⟨a, b⟩, ⟨h, rfl⟩, rfl⟩; exact h
  · intro h; exact ⟨_, ⟨h, rfl⟩, rfl⟩

theorem owners_mem {s : State} {t i : Int} : i ∈ ofKey (owners s) t ↔ ∃ (j : Nat) (x : Once), s.onces[j]? = some x ∧ x.state = 1 ∧ x.owner = t ∧ i = j := by
  rw [ofKey_mem, owners, evL_mem2]
  constructor
  · rintro ⟨j, x, hx, hm⟩
    simp only [evOwn] at hm
    split at hm
    · rename_i h1
      simp only [List.mem_singleton, Prod.mk.injEq] at hm
      exact ⟨j, x, hx, h1, hm.1.symm, hm.2⟩
    · cases hm
  · rintro ⟨j, x, hx, h1, rfl, rfl⟩
    exact ⟨j, x, hx, by simp [evOwn, h1]⟩

end Go.Proofs.Ytjkkoonennpceaa
