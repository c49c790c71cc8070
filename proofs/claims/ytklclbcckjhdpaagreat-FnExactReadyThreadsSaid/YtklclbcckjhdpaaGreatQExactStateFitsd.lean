/- FnExactStateFits: texts that its proof stands on, part 4. -/
import Derived.Test.YtklclbcckjhdpaaGreatQExactStateFitsc
namespace Go.Proofs.YtklclbcckjhdpaaGreat

open Go Go.Sx Go.RowKit

structure Waiting where
  kind : Int
  on : Int
  arg : Int
  deriving DecidableEq

def cWait (l : Waiting) : List Value := [.int .i64 l.kind, .int .i64 l.on, .int .i64 l.arg]

theorem encWait : Enc cWait 3 := ⟨fun _ => rfl, fun _ u hu => by simp [cWait] at hu; rcases hu with rfl | rfl | rfl <;> rfl⟩

/-- A list with its header. -/
structure LH (β : Type) where
  q : Sl
  xs : List β

def LH.nil {β : Type} : LH β := ⟨⟨none, 0⟩, []⟩

def venH {β : Type} (h : LH β) : Value := h.q.val h.xs.length

/-- The rows of a map's lists. -/
def rowsM {β : Type} (ty : TypeId) (enc : β → List Value) (sz : Nat) (ps : List (Int × LH β)) : List Fct := ps.flatMap fun p => [own p.2.q ty enc sz p.2.xs]

def pm {β : Type} (ps : List (Int × LH β)) : List (Int × List β) := ps.map fun p => (p.1, p.2.xs)

/-- One more for this key. -/
def addM {β : Type} (m : List (Int × List β)) (e : Int × β) : List (Int × List β) := aset m e.1 ((aget m e.1).getD [] ++ [e.2])

def mapOf {β : Type} (es : List (Int × β)) : List (Int × List β) := es.foldl addM []

theorem mapOf_snoc {β : Type} (es : List (Int × β)) (e : Int × β) : mapOf (es ++ [e]) = addM (mapOf es) e := by simp [mapOf]

theorem pm_aget {β : Type} (ps : List (Int × LH β)) (t : Int) : aget (pm ps) t = (aget ps t).map (·.xs) := by
  induction ps with
  | nil => rfl
  | cons p r ih =>
    obtain ⟨k, h⟩ := p
    show (if k = t then some h.xs else aget (pm r) t) = (if k = t then some h else aget r t).map (·.xs)
    by_cases e : k = t
    · simp [e]
    · simp [e, ih]

theorem pm_aset {β : Type} (ps : List (Int × LH β)) (t : Int) (h : LH β) : pm (aset ps t h) = aset (pm ps) t h.xs := by
  induction ps with
  | nil => rfl
  | cons p r ih =>
    obtain ⟨k, u⟩ := p
    show pm (if k = t then (k, h) :: r else (k, u) :: aset r t h) = (if k = t then (k, h.xs) :: pm r else (k, u.xs) :: aset (pm r) t h.xs)
    by_cases e : k = t
    · simp [e, pm]
    · rw [if_neg e, if_neg e]
      show (k, u.xs) :: pm (aset r t h) = _
      rw [ih]

theorem pm_add {β : Type} (ps : List (Int × LH β)) (t : Int) (w : β) (y : Sl) : pm (aset ps t ⟨y, ((aget ps t).getD LH.nil).xs ++ [w]⟩) = addM (pm ps) (t, w) := by
  rw [pm_aset, addM, pm_aget]
  cases aget ps t <;> rfl

theorem rows_perm_some {β : Type} {ty : TypeId} {enc : β → List Value} {sz : Nat} : ∀ {ps : List (Int × LH β)} {t : Int} {h : LH β}, aget ps t = some h → (rowsM ty enc sz ps).Perm ([own h.q ty enc sz h.xs] ++ rowsM ty enc sz (adel ps t))
  | [], t, h, e => by simp [aget] at e
  | (k, u) :: r, t, h, e => by
    simp only [aget] at e
    by_cases hk : k = t
    · simp only [hk, if_true, Option.some.injEq] at e
      subst e
      rw [show adel ((k, u) :: r) t = r from by simp [adel, hk]]
      exact .refl _
    · simp only [hk, if_false] at e
      rw [show adel ((k, u) :: r) t = (k, u) :: adel r t from by simp [adel, hk]]
      have ih := rows_perm_some (ty := ty) (enc := enc) (sz := sz) e
      show (own u.q ty enc sz u.xs :: rowsM ty enc sz r).Perm (own h.q ty enc sz h.xs :: own u.q ty enc sz u.xs :: rowsM ty enc sz (adel r t))
      exact (List.Perm.cons _ ih).trans (List.Perm.swap _ _ _)

theorem adel_of_none {β : Type} : ∀ {ps : List (Int × β)} {t : Int}, aget ps t = none → adel ps t = ps
  | [], _, _ => rfl
  | (k, u) :: r, t, e => by
    simp only [aget] at e
    by_cases hk : k = t
    · simp [hk] at e
    · simp only [hk, if_false] at e
      simp [adel, hk, adel_of_none e]

theorem rows_perm_set {β : Type} {ty : TypeId} {enc : β → List Value} {sz : Nat} (t : Int) (h : LH β) : ∀ (ps : List (Int × LH β)), ([own h.q ty enc sz h.xs] ++ rowsM ty enc sz (adel ps t)).Perm (rowsM ty enc sz (aset ps t h))
  | [] => .refl _
  | (k, u) :: r => by
    by_cases hk : k = t
    · rw [show adel ((k, u) :: r) t = r from by simp [adel, hk], show aset ((k, u) :: r) t h = (k, h) :: r from by simp [aset, hk]]
      exact .refl _
    · rw [show adel ((k, u) :: r) t = (k, u) :: adel r t from by simp [adel, hk], show aset ((k, u) :: r) t h = (k, u) :: aset r t h from by simp [aset, hk]]
      show (own h.q ty enc sz h.xs :: own u.q ty enc sz u.xs :: rowsM ty enc sz (adel r t)).Perm (own u.q ty enc sz u.xs :: rowsM ty enc sz (aset r t h))
      exact (List.Perm.swap _ _ _).trans (List.Perm.cons _ (rows_perm_set t h r))

/-- The row for this key is taken out of a map's rows: of none, the nil row. -/
theorem Shift.rowOut {FF : List Fct} {β : Type} {ty : TypeId} {enc : β → List Value} {sz : Nat} (k : Nat) {ps : List (Int × LH β)} (t : Int) (hk : FF[k]? = some (fO (rowsM ty enc sz ps))) :
    Shift FF (own ((aget ps t).getD LH.nil).q ty enc sz ((aget ps t).getD LH.nil).xs :: fO (rowsM ty enc sz (adel ps t)) :: FF.eraseIdx k) := by
  cases h : aget ps t with
  | some u => exact Shift.splitO k (L := [own u.q ty enc sz u.xs]) hk (rows_perm_some h)
  | none =>
    rw [adel_of_none h]
    intro E A n B M w hW
    have h1 := Shift.splitO k (L := []) (G' := rowsM ty enc sz ps) hk (.refl _) E A n B M w hW
    have hn : nilFact (own (LH.nil : LH β).q ty enc sz (LH.nil : LH β).xs) := ⟨rfl, rfl, rfl, rfl⟩
    obtain ⟨n1, n2, n3⟩ := nilFact_ok hn w
    refine ⟨h1.key, h1.inj, h1.mem, h1.a0, h1.n0, h1.ext, fun f hf => ?_, ?_⟩
    · rcases List.mem_cons.1 hf with rfl | hf
      · exact ⟨n1, fun b hb => (n2 b hb).elim, fun _ b hb => (n2 b hb).elim⟩
      · exact h1.fct f hf
    · rw [List.pairwise_cons]
      exact ⟨fun g _ _ b hb => (n2 b hb).elim, h1.dj⟩

abbrev fMW (r : Nat) (ps : List (Int × LH Waiting)) : Fct := fMap r venH ps

abbrev rW (ps : List (Int × LH Waiting)) : List Fct := rowsM 153 cWait 3 ps

abbrev rI (ps : List (Int × LH Int)) : List Fct := rowsM 3 cInt 1 ps

set_option maxHeartbeats 4000000 in
set_option maxRecDepth 100000 in
theorem wAdd_c (t kind on arg : Int) (g r : Nat) (ps : List (Int × LH Waiting)) (w : World) (hg : Blk w g 147 [.map (some r)]) (h : AtG w [fMW r ps, fO (rW ps)] []) (hoff : ∀ f ∈ [fMW r ps, fO (rW ps)] ++ [], ∀ b, f.foot b → b ≠ g)
    (hb : ((aget ps t).getD LH.nil).xs.length ≤ 1048576) :
    Calls Tryz.prog 170 #[.int .i64 t, .int .i64 kind, .int .i64 on, .int .i64 arg, .pointer (some ⟨g, 0, none⟩)] w
      (RetPG w g 147 1 [fMW r ps, fO (rW ps)] fun v cs L => v = .tuple #[] ∧ cs = [.map (some r)] ∧ ∃ qs : List (Int × LH Waiting), pm qs = addM (pm ps) (t, ⟨kind, on, arg⟩) ∧ L = [fMW r qs, fO (rW qs)]) := by
  refine callsPGc_fn Tryz.func170 rfl tabOk w _ rfl _ rfl _ 147 _ 1 rfl hg _ _ h hoff trivial [.int .i64 t, .int .i64 kind, .int .i64 on, .int .i64 arg] _ rfl rfl ?_
  obtain ⟨u, hu⟩ : ∃ u, u = (aget ps t).getD LH.nil := ⟨_, rfl⟩
  have hpm : ∀ y, pm (aset ps t ⟨y, u.xs ++ [⟨kind, on, arg⟩]⟩) = addM (pm ps) (t, ⟨kind, on, arg⟩) := fun y => by rw [hu]; exact pm_add ps t _ y
  refine draw_shift (Shift.rowOut 1 t rfl) ?_
  rw [← hu] at hb ⊢
  refine draw_start tabOk (by kernel_rfl) (by kernel_rfl) (by kernel_rfl) 200 [((0, 0), .v (.map (some r)))] [] [] ⟨⟨_, rfl, rfl, (by first | exact trivial | exact Nat.le_of_ble_eq_true rfl)⟩, trivial⟩ ⟨⟨_, rfl⟩, trivial⟩ trivial rfl ?_
  refine BothW.mk ?_ ?_
  · refine d_lookup 2 (qk := .i64) (kt := 3) (et := 151) (z := .slice none 0 0) rfl rfl rfl rfl ⟨rfl, rfl⟩ (by kernel_rfl) (by kernel_rfl) (by kernel_rfl) (u.q.val u.xs.length) (by rw [hu]; cases aget ps t <;> rfl) ?_
    refine AllSl.mk fun b => ?_
    refine d_app (ti := tiOf tab) encWait 1 tabOk (ys := [⟨kind, on, arg⟩]) rfl rfl rfl rfl rfl rfl rfl rfl rfl (by decide) ⟨rfl, rfl⟩ rfl (by first | exact rdAt 0 rfl | exact rdOwnAt 0 rfl | exact rdAt 1 rfl | exact rdOwnAt 1 rfl | exact rdAt 2 rfl | exact rdOwnAt 2 rfl | exact rdAt 3 rfl | exact rdOwnAt 3 rfl | exact rdAt 4 rfl | exact rdOwnAt 4 rfl | exact rdAt 5 rfl | exact rdOwnAt 5 rfl | exact rdAt 6 rfl | exact rdOwnAt 6 rfl | exact rdAt 7 rfl | exact rdOwnAt 7 rfl | exact rdAt 8 rfl | exact rdOwnAt 8 rfl | exact rdAt 9 rfl | exact rdOwnAt 9 rfl | exact rdAt 10 rfl | exact rdOwnAt 10 rfl | exact rdAt 11 rfl | exact rdOwnAt 11 rfl | exact rdAt 12 rfl | exact rdOwnAt 12 rfl | exact rdAt 13 rfl | exact rdOwnAt 13 rfl | exact rdAt 14 rfl | exact rdOwnAt 14 rfl | exact rdAt 15 rfl | exact rdOwnAt 15 rfl | exact rdAt 16 rfl | exact rdOwnAt 16 rfl | exact rdAt 17 rfl | exact rdOwnAt 17 rfl | exact rdAt 18 rfl | exact rdOwnAt 18 rfl | exact rdAt 19 rfl | exact rdOwnAt 19 rfl | exact rdAt 20 rfl | exact rdOwnAt 20 rfl | exact rdAt 21 rfl | exact rdOwnAt 21 rfl | exact rdAt 22 rfl | exact rdOwnAt 22 rfl | exact rdAt 23 rfl | exact rdOwnAt 23 rfl) (by first | omega | (simp; done) | (simp; omega) | (unfold maxLen; omega) | (unfold maxLen; simp; done) | (unfold maxLen; simp; omega)) (by first | omega | (simp; done) | (simp; omega) | (unfold maxLen; omega) | (unfold maxLen; simp; done) | (unfold maxLen; simp; omega)) (by simp [keepF]) (fun y => ?_)
    refine d_mapset 3 (⟨y, u.xs ++ [⟨kind, on, arg⟩]⟩ : LH Waiting) (qk := .i64) (kt := 3) (et := 151) rfl rfl rfl rfl (fun _ => rfl) rfl rfl (by kernel_rfl) (by kernel_rfl) _ rfl (by simp [keepF]) ?_
    refine ret_shift (.joinO [1, 3] (Gs := [[_], _]) ⟨.inl ⟨_, rfl, .own⟩, .inl ⟨_, rfl, .o⟩, trivial⟩ rfl (G := rW (aset ps t ⟨y, u.xs ++ [⟨kind, on, arg⟩]⟩)) (.trans (.of_eq (by simp)) (rows_perm_set t (⟨y, u.xs ++ [⟨kind, on, arg⟩]⟩ : LH Waiting) ps))) ?_
    exact retPG [1, 0] ⟨rfl, rfl, _, hpm y, rfl⟩ rfl rfl ⟨.inl ⟨_, rfl, rfl⟩, .inl ⟨_, rfl, rfl⟩, trivial⟩ rfl ⟨rfl, rfl, trivial⟩ (fun _ => rfl)
  · refine AllSl.mk fun b => ?_
    refine d_lookup 3 (qk := .i64) (kt := 3) (et := 151) (z := .slice none 0 0) rfl rfl rfl rfl ⟨rfl, rfl⟩ (by kernel_rfl) (by kernel_rfl) (by kernel_rfl) (u.q.val u.xs.length) (by rw [hu]; cases aget ps t <;> rfl) ?_
    refine d_app (ti := tiOf tab) encWait 1 tabOk (ys := [⟨kind, on, arg⟩]) rfl rfl rfl rfl rfl rfl rfl rfl rfl (by decide) ⟨rfl, rfl⟩ rfl (by first | exact rdAt 0 rfl | exact rdOwnAt 0 rfl | exact rdAt 1 rfl | exact rdOwnAt 1 rfl | exact rdAt 2 rfl | exact rdOwnAt 2 rfl | exact rdAt 3 rfl | exact rdOwnAt 3 rfl | exact rdAt 4 rfl | exact rdOwnAt 4 rfl | exact rdAt 5 rfl | exact rdOwnAt 5 rfl | exact rdAt 6 rfl | exact rdOwnAt 6 rfl | exact rdAt 7 rfl | exact rdOwnAt 7 rfl | exact rdAt 8 rfl | exact rdOwnAt 8 rfl | exact rdAt 9 rfl | exact rdOwnAt 9 rfl | exact rdAt 10 rfl | exact rdOwnAt 10 rfl | exact rdAt 11 rfl | exact rdOwnAt 11 rfl | exact rdAt 12 rfl | exact rdOwnAt 12 rfl | exact rdAt 13 rfl | exact rdOwnAt 13 rfl | exact rdAt 14 rfl | exact rdOwnAt 14 rfl | exact rdAt 15 rfl | exact rdOwnAt 15 rfl | exact rdAt 16 rfl | exact rdOwnAt 16 rfl | exact rdAt 17 rfl | exact rdOwnAt 17 rfl | exact rdAt 18 rfl | exact rdOwnAt 18 rfl | exact rdAt 19 rfl | exact rdOwnAt 19 rfl | exact rdAt 20 rfl | exact rdOwnAt 20 rfl | exact rdAt 21 rfl | exact rdOwnAt 21 rfl | exact rdAt 22 rfl | exact rdOwnAt 22 rfl | exact rdAt 23 rfl | exact rdOwnAt 23 rfl) (by first | omega | (simp; done) | (simp; omega) | (unfold maxLen; omega) | (unfold maxLen; simp; done) | (unfold maxLen; simp; omega)) (by first | omega | (simp; done) | (simp; omega) | (unfold maxLen; omega) | (unfold maxLen; simp; done) | (unfold maxLen; simp; omega)) (by simp [keepF]) (fun y => ?_)
    refine d_mapset 3 (⟨y, u.xs ++ [⟨kind, on, arg⟩]⟩ : LH Waiting) (qk := .i64) (kt := 3) (et := 151) rfl rfl rfl rfl (fun _ => rfl) rfl rfl (by kernel_rfl) (by kernel_rfl) _ rfl (by simp [keepF]) ?_
    refine ret_shift (.joinO [1, 3] (Gs := [[_], _]) ⟨.inl ⟨_, rfl, .own⟩, .inl ⟨_, rfl, .o⟩, trivial⟩ rfl (G := rW (aset ps t ⟨y, u.xs ++ [⟨kind, on, arg⟩]⟩)) (.trans (.of_eq (by simp)) (rows_perm_set t (⟨y, u.xs ++ [⟨kind, on, arg⟩]⟩ : LH Waiting) ps))) ?_
    exact retPG [1, 0] ⟨rfl, rfl, _, hpm y, rfl⟩ rfl rfl ⟨.inl ⟨_, rfl, rfl⟩, .inl ⟨_, rfl, rfl⟩, trivial⟩ rfl ⟨rfl, rfl, trivial⟩ (fun _ => rfl)

end Go.Proofs.YtklclbcckjhdpaaGreat

namespace Go.Proofs.YtklclbcckjhdpaaGreat

open Go Go.Sx Go.RowKit

/-- What each thing tells, in their order. -/
def evL {α β : Type} (f : Nat → α → List β) : Nat → List α → List β
  | _, [] => []
  | i, x :: r => f i x ++ evL f (i + 1) r

theorem evL_append {α β : Type} (f : Nat → α → List β) : ∀ (i : Nat) (xs ys : List α), evL f i (xs ++ ys) = evL f i xs ++ evL f (i + xs.length) ys
  | i, [], ys => by simp [evL]
  | i, x :: r, ys => by
    simp only [List.cons_append, evL, List.length_cons, evL_append f (i + 1) r ys, List.append_assoc]
    rw [show i + 1 + r.length = i + (r.length + 1) by omega]

theorem evL_succ {α β : Type} (f : Nat → α → List β) (xs : List α) {k : Nat} (hk : k < xs.length) : evL f 0 (xs.take (k + 1)) = evL f 0 (xs.take k) ++ f k xs[k] := by
  rw [List.take_succ_eq_append_getElem hk, evL_append]
  simp only [evL, List.append_nil, Nat.zero_add, List.length_take]
  rw [Nat.min_eq_left (by omega)]

theorem evL_pre {α β : Type} (f : Nat → α → List β) (xs : List α) {k : Nat} (hk : k < xs.length) : (evL f 0 (xs.take k)).length + (f k xs[k]).length ≤ (evL f 0 xs).length := by
  have h := evL_append f 0 (xs.take (k + 1)) (xs.drop (k + 1))
  rw [List.take_append_drop] at h
  rw [h, List.length_append, evL_succ f xs hk, List.length_append]
  omega

def evSem (i : Nat) (x : Sem) : List (Int × Waiting) := x.queue.map fun w => (w.t, ⟨2, (i : Int), w.n⟩)

def evOnce (i : Nat) (x : Once) : List (Int × Waiting) := x.waits.map fun t => (t, ⟨4, (i : Int), 0⟩)

def evGroup (i : Nat) (x : Group) : List (Int × Waiting) := x.waits.map fun t => (t, ⟨6, (i : Int), 0⟩)

def evBarrier (i : Nat) (x : Barrier) : List (Int × Waiting) := x.waits.map fun t => (t, ⟨7, (i : Int), 0⟩)

def evChan (i : Nat) (x : Chan) : List (Int × Waiting) := (x.senders.map fun l => (l.t, ⟨8, (i : Int), l.v⟩)) ++ x.getters.map fun t => (t, ⟨9, (i : Int), 0⟩)

def evOwn (i : Nat) (x : Once) : List (Int × Int) := if x.state = 1 then [(x.owner, (i : Int))] else []

/-- Which threads wait, and for what. -/
def events (s : State) : List (Int × Waiting) := evL evSem 0 s.sems ++ evL evOnce 0 s.onces ++ evL evGroup 0 s.groups ++ evL evBarrier 0 s.barriers ++ evL evChan 0 s.chans

/-- Which threads own a once that runs. -/
def owners (s : State) : List (Int × Int) := evL evOwn 0 s.onces

theorem addM_len {β : Type} (m : List (Int × List β)) (e : Int × β) (t : Int) : ((aget (addM m e) t).getD []).length ≤ ((aget m t).getD []).length + 1 := by
  obtain ⟨k, x⟩ := e
  simp only [addM]
  generalize hu : (aget m k).getD [] = u
  have : ∀ m : List (Int × List β), (aget m k).getD [] = u → ((aget (aset m k (u ++ [x])) t).getD []).length ≤ ((aget m t).getD []).length + 1 := fun m => by
    induction m with
    | nil =>
      intro h
      have hu0 : u = [] := by simpa [aget] using h.symm
      subst hu0
      simp only [aset, aget]
      by_cases e : k = t <;> simp [e]
    | cons p r ih =>
      intro h
      obtain ⟨q, v⟩ := p
      simp only [aset, aget] at h ⊢
      by_cases e : q = k
      · subst e
        simp only [if_true, Option.getD_some] at h
        subst h
        simp only [if_true, aget]
        by_cases e2 : q = t
        · simp [e2]
        · simp [e2]
      · simp only [e, if_false] at h ⊢
        simp only [aget]
        by_cases e2 : q = t
        · simp [e2]
        · simp only [e2, if_false]
          exact ih h
  exact this m hu

theorem mapOf_len {β : Type} (es : List (Int × β)) (t : Int) : ((aget (mapOf es) t).getD []).length ≤ es.length := by
  have : ∀ (es : List (Int × β)) (m : List (Int × List β)), ((aget (es.foldl addM m) t).getD []).length ≤ ((aget m t).getD []).length + es.length := fun es => by
    induction es with
    | nil => intro m; simp
    | cons e r ih =>
      intro m
      have h1 := ih (addM m e)
      have h2 := addM_len m e t
      simp only [List.foldl_cons, List.length_cons]
      omega
  have := this es []
  simpa [mapOf, aget] using this

theorem pm_len {β : Type} {ps : List (Int × LH β)} {es : List (Int × β)} (h : pm ps = mapOf es) (t : Int) : ((aget ps t).getD LH.nil).xs.length ≤ es.length := by
  have h1 := mapOf_len es t
  rw [← h, pm_aget] at h1
  cases hq : aget ps t with
  | none => simp [LH.nil]
  | some u => rw [hq] at h1; simpa using h1

set_option maxHeartbeats 40000000 in
set_option maxRecDepth 100000 in
theorem waitingsOf_c (s : StateH) (w : World) (h : At w [fR (stateO s)]) (hN : (events s.pure).length ≤ 1048576) (hl : s.sems.length ≤ 1048576 ∧ s.onces.length ≤ 1048576 ∧ s.groups.length ≤ 1048576 ∧ s.barriers.length ≤ 1048576 ∧ s.chans.length ≤ 1048576) :
    Calls Tryz.prog 107 #[stateV s] w (Ret w fun v L => ∃ (r r2 : Nat) (ps : List (Int × LH Waiting)) (os : List (Int × LH Int)), v = .tuple #[.map (some r), .map (some r2)] ∧ pm ps = mapOf (events s.pure) ∧ pm os = mapOf (owners s.pure) ∧ L = [fMW r ps, fO (rW ps), fMap r2 venH os, fO (rI os)]) := by
  obtain ⟨l0, l1, l2, l3, l4⟩ := hl
  have hN' := hN
  simp only [events, List.length_append] at hN'
  have mlen : ∀ {α β : Type} (f : α → β) (xs : List α), (xs.map f).length = xs.length := fun f xs => by simp
  refine calls1 Tryz.func107 rfl tabOk w _ rfl _ rfl _ h ⟨rfl, rfl, trivial⟩ _ (by decide) ?_
  refine stop_makeMap (venH (β := Waiting)) rfl ⟨rfl, rfl⟩ (fun r => ?_)
  refine stop_makeMap (venH (β := Int)) rfl ⟨rfl, rfl⟩ (fun r2 => ?_)

  have hE0 : ∃ E : List (Int × Waiting), E = [] := ⟨[], rfl⟩
  have len0 : s.pure.sems.length = s.sems.length := mlen _ _
  refine LoopW.mk ⟨{ p : Nat × List (Int × LH Waiting) × List (Int × LH Int) // p.1 ≤ s.sems.length ∧ pm p.2.1 = mapOf (([] : List (Int × Waiting)) ++ evL evSem 0 (s.pure.sems.take p.1)) ∧ pm p.2.2 = mapOf ([] : List (Int × Int)) },
    fun p => .mk [(1, .p 0 0), (4, .p 1 0), (5, .v (.map (some r2))), (6, .f 170 [(1, 0)]), (33, .v (s.h2.val s.sems.length)), (34, .v (.int .i64 (s.sems.length : Int))), (35, .v (.int .i64 (p.1.1 : Int)))] 2 0 [(0, 41, 9), (1, 147, 1)]
      [((0, 2), .v (s.h2.val s.sems.length)), ((0, 3), .v (s.h3.val s.onces.length)), ((0, 4), .v (s.h4.val s.groups.length)), ((0, 5), .v (s.h5.val s.barriers.length)), ((0, 6), .v (s.h6.val s.chans.length)), ((1, 0), .v (.map (some r)))] [fMW r p.1.2.1, fO (rW p.1.2.1), fMap r2 venH p.1.2.2, fO (rI p.1.2.2), fR (stateO s)],
    fun p => s.sems.length - p.1.1, ⟨(0, [], []), Nat.zero_le _, rfl, rfl⟩, ?_, ?_⟩
  · refine weak_shift (.joinO [] (Gs := []) trivial rfl (G := rI []) (.refl _)) ?_
    refine weak_shift (.joinO [] (Gs := []) trivial rfl (G := rW []) (.refl _)) ?_
    refine weak_mk [3, 0, 2, 1, 4] ?_ ?_ ?_ ?_ ?_ rfl rfl
    · repeat (first | exact trivial | refine ⟨⟨_, rfl, (by first | exact .of rfl | exact .lit rfl | exact .of (by first | (rfl)) | exact .lit (by first | (rfl))), (by first | exact trivial | exact Nat.le_of_ble_eq_true rfl | exact small1 rfl)⟩, ?_⟩)
    · repeat (first | exact trivial | refine ⟨⟨(by first | exact .head _ | exact .tail _ (.head _) | exact .tail _ (.tail _ (.head _)) | exact .tail _ (.tail _ (.tail _ (.head _))) | exact .tail _ (.tail _ (.tail _ (.tail _ (.head _)))) | exact .tail _ (.tail _ (.tail _ (.tail _ (.tail _ (.head _))))) | exact .tail _ (.tail _ (.tail _ (.tail _ (.tail _ (.tail _ (.head _)))))) | exact .tail _ (.tail _ (.tail _ (.tail _ (.tail _ (.tail _ (.tail _ (.head _))))))) | exact .tail _ (.tail _ (.tail _ (.tail _ (.tail _ (.tail _ (.tail _ (.tail _ (.head _)))))))) | exact .tail _ (.tail _ (.tail _ (.tail _ (.tail _ (.tail _ (.tail _ (.tail _ (.tail _ (.head _)))))))))), Nat.le_of_ble_eq_true rfl⟩, ?_⟩)
    · repeat (first | exact trivial | refine ⟨⟨_, rfl, (by first | exact .of rfl | exact .lit rfl | exact .of (by first | (rfl)) | exact .lit (by first | (rfl))), (by first | exact trivial | exact Nat.le_of_ble_eq_true rfl | exact small1 rfl)⟩, ?_⟩)
    · repeat (first | exact trivial | refine ⟨⟨_, rfl⟩, ?_⟩)
    · repeat (first | exact trivial | refine ⟨.inl ⟨_, rfl, (by first | rfl | (rfl))⟩, ?_⟩ | refine ⟨.inr ⟨Nat.le_of_ble_eq_true rfl, rfl, rfl, rfl, rfl⟩, ?_⟩)
  rintro ⟨⟨k, ps, os⟩, hk, hps, hos⟩
  simp only at hk hps hos
  refine CaseB.mk (fun g => ?_) (fun g => ?_)
  · have hlt : k < s.sems.length := by simpa using g
    have hltp : k < s.pure.sems.length := by rw [len0]; exact hlt
    have hget : s.pure.sems[k] = (s.sems[k]).m := by simp [StateH.pure]
    have hpre := evL_pre evSem s.pure.sems hltp
    have hsucc := evL_succ evSem s.pure.sems hltp
    rw [hget] at hpre hsucc
    have hw := e_succ k _ hlt (by omega)
    refine stop_idx encSemH tabOk rfl rfl rfl rfl rfl ⟨rfl, rfl⟩ (rdVia 4 rfl (.trans (.R_R (stateO_sems s)) (.ofR nest_h))) k rfl (by first | omega | (simp; done) | (simp; omega) | (unfold maxLen; omega) | (unfold maxLen; simp; done) | (unfold maxLen; simp; omega)) (fun ad => ?_)
    refine LoopW.mk ⟨{ p : Nat × List (Int × LH Waiting) // p.1 ≤ (s.sems[k]).m.queue.length ∧ pm p.2 = mapOf (([] : List (Int × Waiting)) ++ evL evSem 0 (s.pure.sems.take k) ++ ((s.sems[k]).m.queue.take p.1).map fun x => (x.t, ⟨2, (k : Int), x.n⟩)) },
      fun p => .mk [(1, .p 0 0), (4, .p 1 0), (5, .v (.map (some r2))), (6, .f 170 [(1, 0)]), (33, .v (s.h2.val s.sems.length)), (34, .v (.int .i64 (s.sems.length : Int))), (35, .v (.int .i64 (k : Int))), (7, .v (.int .i64 (k : Int))), (8, .p 2 0), (41, .v ((s.sems[k]).q.val (s.sems[k]).m.queue.length)), (42, .v (.int .i64 ((s.sems[k]).m.queue.length : Int))), (43, .v (.int .i64 (p.1.1 : Int)))] 3 0 ((2, 95, 3) :: [(0, 41, 9), (1, 147, 1)])
        [((0, 2), .v (s.h2.val s.sems.length)), ((0, 3), .v (s.h3.val s.onces.length)), ((0, 4), .v (s.h4.val s.groups.length)), ((0, 5), .v (s.h5.val s.barriers.length)), ((0, 6), .v (s.h6.val s.chans.length)), ((1, 0), .v (.map (some r)))] [fMW r p.1.2, fO (rW p.1.2), fMap r2 venH os, fO (rI os), fR (stateO s)],
      fun p => (s.sems[k]).m.queue.length - p.1.1, ⟨(0, ps), Nat.zero_le _, by simpa using hps⟩, ?_, ?_⟩
    · refine weak_mk [0, 1, 2, 3, 4] ?_ ?_ ?_ ?_ ?_ rfl rfl
      · repeat (first | exact trivial | refine ⟨⟨_, rfl, (by first | exact .of rfl | exact .lit rfl | exact .of (by first | (rfl)) | exact .lit (by first | (rfl))), (by first | exact trivial | exact Nat.le_of_ble_eq_true rfl | exact small1 rfl)⟩, ?_⟩)
      · repeat (first | exact trivial | refine ⟨⟨(by first | exact .head _ | exact .tail _ (.head _) | exact .tail _ (.tail _ (.head _)) | exact .tail _ (.tail _ (.tail _ (.head _))) | exact .tail _ (.tail _ (.tail _ (.tail _ (.head _)))) | exact .tail _ (.tail _ (.tail _ (.tail _ (.tail _ (.head _))))) | exact .tail _ (.tail _ (.tail _ (.tail _ (.tail _ (.tail _ (.head _)))))) | exact .tail _ (.tail _ (.tail _ (.tail _ (.tail _ (.tail _ (.tail _ (.head _))))))) | exact .tail _ (.tail _ (.tail _ (.tail _ (.tail _ (.tail _ (.tail _ (.tail _ (.head _)))))))) | exact .tail _ (.tail _ (.tail _ (.tail _ (.tail _ (.tail _ (.tail _ (.tail _ (.tail _ (.head _)))))))))), Nat.le_of_ble_eq_true rfl⟩, ?_⟩)
      · repeat (first | exact trivial | refine ⟨⟨_, rfl, (by first | exact .of rfl | exact .lit rfl | exact .of (by first | (rfl)) | exact .lit (by first | (rfl))), (by first | exact trivial | exact Nat.le_of_ble_eq_true rfl | exact small1 rfl)⟩, ?_⟩)
      · repeat (first | exact trivial | refine ⟨⟨_, rfl⟩, ?_⟩)
      · repeat (first | exact trivial | refine ⟨.inl ⟨_, rfl, (by first | rfl | (rfl))⟩, ?_⟩ | refine ⟨.inr ⟨Nat.le_of_ble_eq_true rfl, rfl, rfl, rfl, rfl⟩, ?_⟩)
    rintro ⟨⟨j, ps⟩, hj, hps⟩
    simp only at hj hps
    refine CaseB.mk (fun g => ?_) (fun g => ?_)
    · have hlj : j < (s.sems[k]).m.queue.length := by simpa using g
      have hwj := e_succ j (s.sems[k]).m.queue.length hlj (by simp only [evSem, List.length_map] at hpre; omega)
      have hbnd : ∀ t, ((aget ps t).getD LH.nil).xs.length ≤ 1048576 := fun t => by
        have h1 := pm_len hps t
        simp only [List.length_append, List.length_map, List.length_take, List.length_nil] at h1
        have h2 : min j (s.sems[k]).m.queue.length ≤ (s.sems[k]).m.queue.length := Nat.min_le_right _ _
        simp only [evSem, List.length_map] at hpre; omega
      refine stop_idx encWaiter tabOk rfl rfl rfl rfl rfl ⟨rfl, rfl⟩ (rdVia 4 rfl (.trans (.R_R (stateO_sems s)) (.ofR (semsO_0 _ _ k hlt)))) j rfl (by first | omega | (simp; done) | (simp; omega) | (unfold maxLen; omega) | (unfold maxLen; simp; done) | (unfold maxLen; simp; omega)) (fun ad2 => ?_)
      refine stop_callPGc _ [0, 1] (G := [_, _]) cl170 rfl rfl rfl rfl ⟨rfl, rfl⟩ rfl rfl ⟨rfl, rfl, trivial⟩ ⟨rfl, rfl, rfl, rfl, trivial⟩ (fun A w ga hga hW hblk => wAdd_c _ _ _ _ ga r ps w hblk (hW.atG [0, 1] (G := [_, _]) ⟨rfl, rfl, trivial⟩ rfl ⟨rfl, rfl, rfl, rfl, trivial⟩ [] (Fo := []) trivial rfl) (hW.atG_off (by exact rfl) hga (ix := [0, 1]) (G := [_, _]) ⟨rfl, rfl, trivial⟩ (jx := []) (Fo := []) trivial) (hbnd _)) ?_
      rintro v cs L ⟨rfl, rfl, qs, hqs, rfl⟩
      refine ⟨⟨(j + 1, qs), by omega, ?_⟩, ?_, by simp only; omega⟩
      · rw [hqs, hps, ← mapOf_snoc, List.take_succ_eq_append_getElem hlj, List.map_append, List.map_cons, List.map_nil, List.append_assoc _ _ [_]]
      · refine weak_mk [0, 1, 2, 3, 4] ?_ ?_ ?_ ?_ ?_ rfl rfl
        · repeat (first | exact trivial | refine ⟨⟨_, rfl, (by first | exact .of rfl | exact .lit rfl | exact .of (by first | ((exact congrArg (fun z => SV.v (Value.int .i64 z)) hwj))) | exact .lit (by first | ((exact congrArg (fun z => SV.v (Value.int .i64 z)) hwj)))), (by first | exact trivial | exact Nat.le_of_ble_eq_true rfl | exact small1 rfl)⟩, ?_⟩)
        · repeat (first | exact trivial | refine ⟨⟨(by first | exact .head _ | exact .tail _ (.head _) | exact .tail _ (.tail _ (.head _)) | exact .tail _ (.tail _ (.tail _ (.head _))) | exact .tail _ (.tail _ (.tail _ (.tail _ (.head _)))) | exact .tail _ (.tail _ (.tail _ (.tail _ (.tail _ (.head _))))) | exact .tail _ (.tail _ (.tail _ (.tail _ (.tail _ (.tail _ (.head _)))))) | exact .tail _ (.tail _ (.tail _ (.tail _ (.tail _ (.tail _ (.tail _ (.head _))))))) | exact .tail _ (.tail _ (.tail _ (.tail _ (.tail _ (.tail _ (.tail _ (.tail _ (.head _)))))))) | exact .tail _ (.tail _ (.tail _ (.tail _ (.tail _ (.tail _ (.tail _ (.tail _ (.tail _ (.head _)))))))))), Nat.le_of_ble_eq_true rfl⟩, ?_⟩)
        · repeat (first | exact trivial | refine ⟨⟨_, rfl, (by first | exact .of rfl | exact .lit rfl | exact .of (by first | ((exact congrArg (fun z => SV.v (Value.int .i64 z)) hwj))) | exact .lit (by first | ((exact congrArg (fun z => SV.v (Value.int .i64 z)) hwj)))), (by first | exact trivial | exact Nat.le_of_ble_eq_true rfl | exact small1 rfl)⟩, ?_⟩)
        · repeat (first | exact trivial | refine ⟨⟨_, rfl⟩, ?_⟩)
        · repeat (first | exact trivial | refine ⟨.inl ⟨_, rfl, (by first | rfl | ((exact congrArg (fun z => SV.v (Value.int .i64 z)) hwj)))⟩, ?_⟩ | refine ⟨.inr ⟨Nat.le_of_ble_eq_true rfl, rfl, rfl, rfl, rfl⟩, ?_⟩)
    have hgj : (s.sems[k]).m.queue.length ≤ j := by simpa using g
    rw [List.take_of_length_le hgj] at hps
    refine ⟨⟨(k + 1, ps, os), by omega, ?_, hos⟩, ?_, by simp only; omega⟩
    · have e : ([] : List (Int × Waiting)) ++ evL evSem 0 (s.pure.sems.take (k + 1)) = ([] : List (Int × Waiting)) ++ evL evSem 0 (s.pure.sems.take k) ++ (s.sems[k]).m.queue.map fun x => (x.t, ⟨2, (k : Int), x.n⟩) := by rw [hsucc]; simp [evSem]
      show pm ps = mapOf _
      rw [e]; exact hps
    · refine weak_mk [0, 1, 2, 3, 4] ?_ ?_ ?_ ?_ ?_ rfl rfl
      · repeat (first | exact trivial | refine ⟨⟨_, rfl, (by first | exact .of rfl | exact .lit rfl | exact .of (by first | ((exact congrArg (fun z => SV.v (Value.int .i64 z)) hw))) | exact .lit (by first | ((exact congrArg (fun z => SV.v (Value.int .i64 z)) hw)))), (by first | exact trivial | exact Nat.le_of_ble_eq_true rfl | exact small1 rfl)⟩, ?_⟩)
      · repeat (first | exact trivial | refine ⟨⟨(by first | exact .head _ | exact .tail _ (.head _) | exact .tail _ (.tail _ (.head _)) | exact .tail _ (.tail _ (.tail _ (.head _))) | exact .tail _ (.tail _ (.tail _ (.tail _ (.head _)))) | exact .tail _ (.tail _ (.tail _ (.tail _ (.tail _ (.head _))))) | exact .tail _ (.tail _ (.tail _ (.tail _ (.tail _ (.tail _ (.head _)))))) | exact .tail _ (.tail _ (.tail _ (.tail _ (.tail _ (.tail _ (.tail _ (.head _))))))) | exact .tail _ (.tail _ (.tail _ (.tail _ (.tail _ (.tail _ (.tail _ (.tail _ (.head _)))))))) | exact .tail _ (.tail _ (.tail _ (.tail _ (.tail _ (.tail _ (.tail _ (.tail _ (.tail _ (.head _)))))))))), Nat.le_of_ble_eq_true rfl⟩, ?_⟩)
      · repeat (first | exact trivial | refine ⟨⟨_, rfl, (by first | exact .of rfl | exact .lit rfl | exact .of (by first | ((exact congrArg (fun z => SV.v (Value.int .i64 z)) hw))) | exact .lit (by first | ((exact congrArg (fun z => SV.v (Value.int .i64 z)) hw)))), (by first | exact trivial | exact Nat.le_of_ble_eq_true rfl | exact small1 rfl)⟩, ?_⟩)
      · repeat (first | exact trivial | refine ⟨⟨_, rfl⟩, ?_⟩)
      · repeat (first | exact trivial | refine ⟨.inl ⟨_, rfl, (by first | rfl | ((exact congrArg (fun z => SV.v (Value.int .i64 z)) hw)))⟩, ?_⟩ | refine ⟨.inr ⟨Nat.le_of_ble_eq_true rfl, rfl, rfl, rfl, rfl⟩, ?_⟩)
  have hge : s.sems.length ≤ k := by simpa using g
  rw [List.take_of_length_le (by rw [len0]; exact hge)] at hps
  rw [List.nil_append] at hps
  have len1 : s.pure.onces.length = s.onces.length := mlen _ _
  refine LoopW.mk ⟨{ p : Nat × List (Int × LH Waiting) × List (Int × LH Int) // p.1 ≤ s.onces.length ∧ pm p.2.1 = mapOf (evL evSem 0 s.pure.sems ++ evL evOnce 0 (s.pure.onces.take p.1)) ∧ pm p.2.2 = mapOf (evL evOwn 0 (s.pure.onces.take p.1)) },
    fun p => .mk [(1, .p 0 0), (4, .p 1 0), (5, .v (.map (some r2))), (6, .f 170 [(1, 0)]), (57, .v (s.h3.val s.onces.length)), (58, .v (.int .i64 (s.onces.length : Int))), (59, .v (.int .i64 (p.1.1 : Int)))] 2 0 [(0, 41, 9), (1, 147, 1)]
      [((0, 2), .v (s.h2.val s.sems.length)), ((0, 3), .v (s.h3.val s.onces.length)), ((0, 4), .v (s.h4.val s.groups.length)), ((0, 5), .v (s.h5.val s.barriers.length)), ((0, 6), .v (s.h6.val s.chans.length)), ((1, 0), .v (.map (some r)))] [fMW r p.1.2.1, fO (rW p.1.2.1), fMap r2 venH p.1.2.2, fO (rI p.1.2.2), fR (stateO s)],
    fun p => s.onces.length - p.1.1, ⟨(0, ps, os), Nat.zero_le _, by simpa [evL] using hps, by simpa [evL] using hos⟩, ?_, ?_⟩
  · refine weak_mk [0, 1, 2, 3, 4] ?_ ?_ ?_ ?_ ?_ rfl rfl
    · repeat (first | exact trivial | refine ⟨⟨_, rfl, (by first | exact .of rfl | exact .lit rfl | exact .of (by first | (rfl)) | exact .lit (by first | (rfl))), (by first | exact trivial | exact Nat.le_of_ble_eq_true rfl | exact small1 rfl)⟩, ?_⟩)
    · repeat (first | exact trivial | refine ⟨⟨(by first | exact .head _ | exact .tail _ (.head _) | exact .tail _ (.tail _ (.head _)) | exact .tail _ (.tail _ (.tail _ (.head _))) | exact .tail _ (.tail _ (.tail _ (.tail _ (.head _)))) | exact .tail _ (.tail _ (.tail _ (.tail _ (.tail _ (.head _))))) | exact .tail _ (.tail _ (.tail _ (.tail _ (.tail _ (.tail _ (.head _)))))) | exact .tail _ (.tail _ (.tail _ (.tail _ (.tail _ (.tail _ (.tail _ (.head _))))))) | exact .tail _ (.tail _ (.tail _ (.tail _ (.tail _ (.tail _ (.tail _ (.tail _ (.head _)))))))) | exact .tail _ (.tail _ (.tail _ (.tail _ (.tail _ (.tail _ (.tail _ (.tail _ (.tail _ (.head _)))))))))), Nat.le_of_ble_eq_true rfl⟩, ?_⟩)
    · repeat (first | exact trivial | refine ⟨⟨_, rfl, (by first | exact .of rfl | exact .lit rfl | exact .of (by first | (rfl)) | exact .lit (by first | (rfl))), (by first | exact trivial | exact Nat.le_of_ble_eq_true rfl | exact small1 rfl)⟩, ?_⟩)
    · repeat (first | exact trivial | refine ⟨⟨_, rfl⟩, ?_⟩)
    · repeat (first | exact trivial | refine ⟨.inl ⟨_, rfl, (by first | rfl | (rfl))⟩, ?_⟩ | refine ⟨.inr ⟨Nat.le_of_ble_eq_true rfl, rfl, rfl, rfl, rfl⟩, ?_⟩)
  rintro ⟨⟨k, ps, os⟩, hk, hps, hos⟩
  simp only at hk hps hos
  refine CaseB.mk (fun g => ?_) (fun g => ?_)
  · have hlt : k < s.onces.length := by simpa using g
    have hltp : k < s.pure.onces.length := by rw [len1]; exact hlt
    have hget : s.pure.onces[k] = (s.onces[k]).m := by simp [StateH.pure]
    have hpre := evL_pre evOnce s.pure.onces hltp
    have hsucc := evL_succ evOnce s.pure.onces hltp
    rw [hget] at hpre hsucc
    have hw := e_succ k _ hlt (by omega)
    refine stop_idx encOnceH tabOk rfl rfl rfl rfl rfl ⟨rfl, rfl⟩ (rdVia 4 rfl (.trans (.R_R (stateO_onces s)) (.ofR nest_h))) k rfl (by first | omega | (simp; done) | (simp; omega) | (unfold maxLen; omega) | (unfold maxLen; simp; done) | (unfold maxLen; simp; omega)) (fun ad => ?_)
    refine LoopW.mk ⟨{ p : Nat × List (Int × LH Waiting) // p.1 ≤ (s.onces[k]).m.waits.length ∧ pm p.2 = mapOf (evL evSem 0 s.pure.sems ++ evL evOnce 0 (s.pure.onces.take k) ++ ((s.onces[k]).m.waits.take p.1).map fun x => (x, ⟨4, (k : Int), 0⟩)) },
      fun p => .mk [(1, .p 0 0), (4, .p 1 0), (5, .v (.map (some r2))), (6, .f 170 [(1, 0)]), (57, .v (s.h3.val s.onces.length)), (58, .v (.int .i64 (s.onces.length : Int))), (59, .v (.int .i64 (k : Int))), (11, .v (.int .i64 (k : Int))), (12, .p 2 0), (65, .v ((s.onces[k]).q.val (s.onces[k]).m.waits.length)), (66, .v (.int .i64 ((s.onces[k]).m.waits.length : Int))), (67, .v (.int .i64 (p.1.1 : Int)))] 3 0 ((2, 102, 4) :: [(0, 41, 9), (1, 147, 1)])
        [((0, 2), .v (s.h2.val s.sems.length)), ((0, 3), .v (s.h3.val s.onces.length)), ((0, 4), .v (s.h4.val s.groups.length)), ((0, 5), .v (s.h5.val s.barriers.length)), ((0, 6), .v (s.h6.val s.chans.length)), ((1, 0), .v (.map (some r))), ((2, 0), .v (.int .i64 (s.onces[k]).m.state)), ((2, 1), .v (.int .i64 (s.onces[k]).m.owner))] [fMW r p.1.2, fO (rW p.1.2), fMap r2 venH os, fO (rI os), fR (stateO s)],
      fun p => (s.onces[k]).m.waits.length - p.1.1, ⟨(0, ps), Nat.zero_le _, by simpa using hps⟩, ?_, ?_⟩
    · refine weak_mk [0, 1, 2, 3, 4] ?_ ?_ ?_ ?_ ?_ rfl rfl
      · repeat (first | exact trivial | refine ⟨⟨_, rfl, (by first | exact .of rfl | exact .lit rfl | exact .of (by first | (rfl)) | exact .lit (by first | (rfl))), (by first | exact trivial | exact Nat.le_of_ble_eq_true rfl | exact small1 rfl)⟩, ?_⟩)
      · repeat (first | exact trivial | refine ⟨⟨(by first | exact .head _ | exact .tail _ (.head _) | exact .tail _ (.tail _ (.head _)) | exact .tail _ (.tail _ (.tail _ (.head _))) | exact .tail _ (.tail _ (.tail _ (.tail _ (.head _)))) | exact .tail _ (.tail _ (.tail _ (.tail _ (.tail _ (.head _))))) | exact .tail _ (.tail _ (.tail _ (.tail _ (.tail _ (.tail _ (.head _)))))) | exact .tail _ (.tail _ (.tail _ (.tail _ (.tail _ (.tail _ (.tail _ (.head _))))))) | exact .tail _ (.tail _ (.tail _ (.tail _ (.tail _ (.tail _ (.tail _ (.tail _ (.head _)))))))) | exact .tail _ (.tail _ (.tail _ (.tail _ (.tail _ (.tail _ (.tail _ (.tail _ (.tail _ (.head _)))))))))), Nat.le_of_ble_eq_true rfl⟩, ?_⟩)
      · repeat (first | exact trivial | refine ⟨⟨_, rfl, (by first | exact .of rfl | exact .lit rfl | exact .of (by first | (rfl)) | exact .lit (by first | (rfl))), (by first | exact trivial | exact Nat.le_of_ble_eq_true rfl | exact small1 rfl)⟩, ?_⟩)
      · repeat (first | exact trivial | refine ⟨⟨_, rfl⟩, ?_⟩)
      · repeat (first | exact trivial | refine ⟨.inl ⟨_, rfl, (by first | rfl | (rfl))⟩, ?_⟩ | refine ⟨.inr ⟨Nat.le_of_ble_eq_true rfl, rfl, rfl, rfl, rfl⟩, ?_⟩)
    rintro ⟨⟨j, ps⟩, hj, hps⟩
    simp only at hj hps
    refine CaseB.mk (fun g => ?_) (fun g => ?_)
    · have hlj : j < (s.onces[k]).m.waits.length := by simpa using g
      have hwj := e_succ j (s.onces[k]).m.waits.length hlj (by simp only [evOnce, List.length_map] at hpre; omega)
      have hbnd : ∀ t, ((aget ps t).getD LH.nil).xs.length ≤ 1048576 := fun t => by
        have h1 := pm_len hps t
        simp only [List.length_append, List.length_map, List.length_take] at h1
        have h2 : min j (s.onces[k]).m.waits.length ≤ (s.onces[k]).m.waits.length := Nat.min_le_right _ _
        simp only [evOnce, List.length_map] at hpre; omega
      refine stop_idx encInt tabOk rfl rfl rfl rfl rfl ⟨rfl, rfl⟩ (rdVia 4 rfl (.trans (.R_R (stateO_onces s)) (.ofR (oncesO_0 _ _ k hlt)))) j rfl (by first | omega | (simp; done) | (simp; omega) | (unfold maxLen; omega) | (unfold maxLen; simp; done) | (unfold maxLen; simp; omega)) (fun ad2 => ?_)
      refine stop_callPGc _ [0, 1] (G := [_, _]) cl170 rfl rfl rfl rfl ⟨rfl, rfl⟩ rfl rfl ⟨rfl, rfl, trivial⟩ ⟨rfl, rfl, rfl, rfl, trivial⟩ (fun A w ga hga hW hblk => wAdd_c _ _ _ _ ga r ps w hblk (hW.atG [0, 1] (G := [_, _]) ⟨rfl, rfl, trivial⟩ rfl ⟨rfl, rfl, rfl, rfl, trivial⟩ [] (Fo := []) trivial rfl) (hW.atG_off (by exact rfl) hga (ix := [0, 1]) (G := [_, _]) ⟨rfl, rfl, trivial⟩ (jx := []) (Fo := []) trivial) (hbnd _)) ?_
      rintro v cs L ⟨rfl, rfl, qs, hqs, rfl⟩
      refine ⟨⟨(j + 1, qs), by omega, ?_⟩, ?_, by simp only; omega⟩
      · rw [hqs, hps, ← mapOf_snoc, List.take_succ_eq_append_getElem hlj, List.map_append, List.map_cons, List.map_nil, List.append_assoc _ _ [_]]
      · refine weak_mk [0, 1, 2, 3, 4] ?_ ?_ ?_ ?_ ?_ rfl rfl
        · repeat (first | exact trivial | refine ⟨⟨_, rfl, (by first | exact .of rfl | exact .lit rfl | exact .of (by first | ((exact congrArg (fun z => SV.v (Value.int .i64 z)) hwj))) | exact .lit (by first | ((exact congrArg (fun z => SV.v (Value.int .i64 z)) hwj)))), (by first | exact trivial | exact Nat.le_of_ble_eq_true rfl | exact small1 rfl)⟩, ?_⟩)
        · repeat (first | exact trivial | refine ⟨⟨(by first | exact .head _ | exact .tail _ (.head _) | exact .tail _ (.tail _ (.head _)) | exact .tail _ (.tail _ (.tail _ (.head _))) | exact .tail _ (.tail _ (.tail _ (.tail _ (.head _)))) | exact .tail _ (.tail _ (.tail _ (.tail _ (.tail _ (.head _))))) | exact .tail _ (.tail _ (.tail _ (.tail _ (.tail _ (.tail _ (.head _)))))) | exact .tail _ (.tail _ (.tail _ (.tail _ (.tail _ (.tail _ (.tail _ (.head _))))))) | exact .tail _ (.tail _ (.tail _ (.tail _ (.tail _ (.tail _ (.tail _ (.tail _ (.head _)))))))) | exact .tail _ (.tail _ (.tail _ (.tail _ (.tail _ (.tail _ (.tail _ (.tail _ (.tail _ (.head _)))))))))), Nat.le_of_ble_eq_true rfl⟩, ?_⟩)
        · repeat (first | exact trivial | refine ⟨⟨_, rfl, (by first | exact .of rfl | exact .lit rfl | exact .of (by first | ((exact congrArg (fun z => SV.v (Value.int .i64 z)) hwj))) | exact .lit (by first | ((exact congrArg (fun z => SV.v (Value.int .i64 z)) hwj)))), (by first | exact trivial | exact Nat.le_of_ble_eq_true rfl | exact small1 rfl)⟩, ?_⟩)
        · repeat (first | exact trivial | refine ⟨⟨_, rfl⟩, ?_⟩)
        · repeat (first | exact trivial | refine ⟨.inl ⟨_, rfl, (by first | rfl | ((exact congrArg (fun z => SV.v (Value.int .i64 z)) hwj)))⟩, ?_⟩ | refine ⟨.inr ⟨Nat.le_of_ble_eq_true rfl, rfl, rfl, rfl, rfl⟩, ?_⟩)
    have hgj : (s.onces[k]).m.waits.length ≤ j := by simpa using g
    rw [List.take_of_length_le hgj] at hps
    refine CaseB.mk (fun g => ?_) (fun g => ?_)
    · have hst : (s.onces[k]).m.state = 1 := by simpa using g
      have hob := pm_len hos (s.onces[k]).m.owner
      have hoL : (evL evOwn 0 (s.pure.onces.take k)).length ≤ 1048576 := by
        have : ∀ (i : Nat) (xs : List Once), (evL evOwn i xs).length ≤ xs.length := fun i xs => by
          induction xs generalizing i with
          | nil => simp [evL]
          | cons x r ih =>
            have := ih (i + 1)
            simp only [evL, evOwn, List.length_append, List.length_cons]
            split <;> simp <;> omega
        have h2 := this 0 (s.pure.onces.take k)
        simp only [List.length_take] at h2
        omega
      obtain ⟨u, hu⟩ : ∃ u, u = (aget os (s.onces[k]).m.owner).getD LH.nil := ⟨_, rfl⟩
      have hpm : ∀ y, pm (aset os (s.onces[k]).m.owner ⟨y, u.xs ++ [(k : Int)]⟩) = addM (pm os) ((s.onces[k]).m.owner, (k : Int)) := fun y => by rw [hu]; exact pm_add os _ _ y
      have hsO := evL_succ evOwn s.pure.onces hltp
      rw [hget] at hsO
      have hfin : ∀ y, pm (aset os (s.onces[k]).m.owner ⟨y, u.xs ++ [(k : Int)]⟩) = mapOf (evL evOwn 0 (s.pure.onces.take (k + 1))) := fun y => by
        rw [hpm, hos, ← mapOf_snoc, hsO]; simp [evOwn, hst]
      rw [← hu] at hob
      refine draw_shift (Shift.rowOut 3 (s.onces[k]).m.owner rfl) ?_
      rw [← hu]
      refine draw_start tabOk (by kernel_rfl) (by kernel_rfl) (by kernel_rfl) 200 [((2, 1), .v (.int .i64 (s.onces[k]).m.owner))] [] [] ⟨⟨_, rfl, rfl, (by first | exact trivial | exact Nat.le_of_ble_eq_true rfl)⟩, trivial⟩ ⟨⟨_, rfl⟩, trivial⟩ trivial rfl ?_
      refine BothW.mk ?_ ?_
      · refine d_lookup 4 (qk := .i64) (kt := 3) (et := 22) (z := .slice none 0 0) rfl rfl rfl rfl ⟨rfl, rfl⟩ (by kernel_rfl) (by kernel_rfl) (by kernel_rfl) (u.q.val u.xs.length) (by rw [hu]; cases aget os (s.onces[k]).m.owner <;> rfl) ?_
        refine AllSl.mk fun b => ?_
        refine d_app (ti := tiOf tab) encInt 1 tabOk (ys := [(k : Int)]) rfl rfl rfl rfl rfl rfl rfl rfl rfl (by decide) ⟨rfl, rfl⟩ rfl (by first | exact rdAt 0 rfl | exact rdOwnAt 0 rfl | exact rdAt 1 rfl | exact rdOwnAt 1 rfl | exact rdAt 2 rfl | exact rdOwnAt 2 rfl | exact rdAt 3 rfl | exact rdOwnAt 3 rfl | exact rdAt 4 rfl | exact rdOwnAt 4 rfl | exact rdAt 5 rfl | exact rdOwnAt 5 rfl | exact rdAt 6 rfl | exact rdOwnAt 6 rfl | exact rdAt 7 rfl | exact rdOwnAt 7 rfl | exact rdAt 8 rfl | exact rdOwnAt 8 rfl | exact rdAt 9 rfl | exact rdOwnAt 9 rfl | exact rdAt 10 rfl | exact rdOwnAt 10 rfl | exact rdAt 11 rfl | exact rdOwnAt 11 rfl | exact rdAt 12 rfl | exact rdOwnAt 12 rfl | exact rdAt 13 rfl | exact rdOwnAt 13 rfl | exact rdAt 14 rfl | exact rdOwnAt 14 rfl | exact rdAt 15 rfl | exact rdOwnAt 15 rfl | exact rdAt 16 rfl | exact rdOwnAt 16 rfl | exact rdAt 17 rfl | exact rdOwnAt 17 rfl | exact rdAt 18 rfl | exact rdOwnAt 18 rfl | exact rdAt 19 rfl | exact rdOwnAt 19 rfl | exact rdAt 20 rfl | exact rdOwnAt 20 rfl | exact rdAt 21 rfl | exact rdOwnAt 21 rfl | exact rdAt 22 rfl | exact rdOwnAt 22 rfl | exact rdAt 23 rfl | exact rdOwnAt 23 rfl) (by first | omega | (simp; done) | (simp; omega) | (unfold maxLen; omega) | (unfold maxLen; simp; done) | (unfold maxLen; simp; omega)) (by first | omega | (simp; done) | (simp; omega) | (unfold maxLen; omega) | (unfold maxLen; simp; done) | (unfold maxLen; simp; omega)) (by simp [keepF]) (fun y => ?_)
        refine d_mapset 5 (⟨y, u.xs ++ [(k : Int)]⟩ : LH Int) (qk := .i64) (kt := 3) (et := 22) rfl rfl rfl rfl (fun _ => rfl) rfl rfl (by kernel_rfl) (by kernel_rfl) _ rfl (by simp [keepF]) ?_
        refine ⟨⟨(k + 1, ps, aset os (s.onces[k]).m.owner ⟨y, u.xs ++ [(k : Int)]⟩), by omega, ?_, hfin y⟩, ?_, by simp only; omega⟩
        · have e : evL evSem 0 s.pure.sems ++ evL evOnce 0 (s.pure.onces.take (k + 1)) = evL evSem 0 s.pure.sems ++ evL evOnce 0 (s.pure.onces.take k) ++ (s.onces[k]).m.waits.map fun x => (x, ⟨4, (k : Int), 0⟩) := by rw [hsucc]; simp [evOnce]
          show pm ps = mapOf _
          rw [e]; exact hps
        · refine weak_shift (.joinO [1, 3] (Gs := [[_], _]) ⟨.inl ⟨_, rfl, .own⟩, .inl ⟨_, rfl, .o⟩, trivial⟩ rfl (G := rI (aset os (s.onces[k]).m.owner ⟨y, u.xs ++ [(k : Int)]⟩)) (.trans (.of_eq (by simp)) (rows_perm_set _ (⟨y, u.xs ++ [(k : Int)]⟩ : LH Int) os))) ?_
          refine weak_mk [3, 4, 1, 0, 5] ?_ ?_ ?_ ?_ ?_ rfl rfl
          · repeat (first | exact trivial | refine ⟨⟨_, rfl, (by first | exact .of rfl | exact .lit rfl | exact .of (by first | ((exact congrArg (fun z => SV.v (Value.int .i64 z)) hw))) | exact .lit (by first | ((exact congrArg (fun z => SV.v (Value.int .i64 z)) hw)))), (by first | exact trivial | exact Nat.le_of_ble_eq_true rfl | exact small1 rfl)⟩, ?_⟩)
          · repeat (first | exact trivial | refine ⟨⟨(by first | exact .head _ | exact .tail _ (.head _) | exact .tail _ (.tail _ (.head _)) | exact .tail _ (.tail _ (.tail _ (.head _))) | exact .tail _ (.tail _ (.tail _ (.tail _ (.head _)))) | exact .tail _ (.tail _ (.tail _ (.tail _ (.tail _ (.head _))))) | exact .tail _ (.tail _ (.tail _ (.tail _ (.tail _ (.tail _ (.head _)))))) | exact .tail _ (.tail _ (.tail _ (.tail _ (.tail _ (.tail _ (.tail _ (.head _))))))) | exact .tail _ (.tail _ (.tail _ (.tail _ (.tail _ (.tail _ (.tail _ (.tail _ (.head _)))))))) | exact .tail _ (.tail _ (.tail _ (.tail _ (.tail _ (.tail _ (.tail _ (.tail _ (.tail _ (.head _)))))))))), Nat.le_of_ble_eq_true rfl⟩, ?_⟩)
          · repeat (first | exact trivial | refine ⟨⟨_, rfl, (by first | exact .of rfl | exact .lit rfl | exact .of (by first | ((exact congrArg (fun z => SV.v (Value.int .i64 z)) hw))) | exact .lit (by first | ((exact congrArg (fun z => SV.v (Value.int .i64 z)) hw)))), (by first | exact trivial | exact Nat.le_of_ble_eq_true rfl | exact small1 rfl)⟩, ?_⟩)
          · repeat (first | exact trivial | refine ⟨⟨_, rfl⟩, ?_⟩)
          · repeat (first | exact trivial | refine ⟨.inl ⟨_, rfl, (by first | rfl | ((exact congrArg (fun z => SV.v (Value.int .i64 z)) hw)))⟩, ?_⟩ | refine ⟨.inr ⟨Nat.le_of_ble_eq_true rfl, rfl, rfl, rfl, rfl⟩, ?_⟩)
      · refine AllSl.mk fun b => ?_
        refine d_lookup 5 (qk := .i64) (kt := 3) (et := 22) (z := .slice none 0 0) rfl rfl rfl rfl ⟨rfl, rfl⟩ (by kernel_rfl) (by kernel_rfl) (by kernel_rfl) (u.q.val u.xs.length) (by rw [hu]; cases aget os (s.onces[k]).m.owner <;> rfl) ?_
        refine d_app (ti := tiOf tab) encInt 1 tabOk (ys := [(k : Int)]) rfl rfl rfl rfl rfl rfl rfl rfl rfl (by decide) ⟨rfl, rfl⟩ rfl (by first | exact rdAt 0 rfl | exact rdOwnAt 0 rfl | exact rdAt 1 rfl | exact rdOwnAt 1 rfl | exact rdAt 2 rfl | exact rdOwnAt 2 rfl | exact rdAt 3 rfl | exact rdOwnAt 3 rfl | exact rdAt 4 rfl | exact rdOwnAt 4 rfl | exact rdAt 5 rfl | exact rdOwnAt 5 rfl | exact rdAt 6 rfl | exact rdOwnAt 6 rfl | exact rdAt 7 rfl | exact rdOwnAt 7 rfl | exact rdAt 8 rfl | exact rdOwnAt 8 rfl | exact rdAt 9 rfl | exact rdOwnAt 9 rfl | exact rdAt 10 rfl | exact rdOwnAt 10 rfl | exact rdAt 11 rfl | exact rdOwnAt 11 rfl | exact rdAt 12 rfl | exact rdOwnAt 12 rfl | exact rdAt 13 rfl | exact rdOwnAt 13 rfl | exact rdAt 14 rfl | exact rdOwnAt 14 rfl | exact rdAt 15 rfl | exact rdOwnAt 15 rfl | exact rdAt 16 rfl | exact rdOwnAt 16 rfl | exact rdAt 17 rfl | exact rdOwnAt 17 rfl | exact rdAt 18 rfl | exact rdOwnAt 18 rfl | exact rdAt 19 rfl | exact rdOwnAt 19 rfl | exact rdAt 20 rfl | exact rdOwnAt 20 rfl | exact rdAt 21 rfl | exact rdOwnAt 21 rfl | exact rdAt 22 rfl | exact rdOwnAt 22 rfl | exact rdAt 23 rfl | exact rdOwnAt 23 rfl) (by first | omega | (simp; done) | (simp; omega) | (unfold maxLen; omega) | (unfold maxLen; simp; done) | (unfold maxLen; simp; omega)) (by first | omega | (simp; done) | (simp; omega) | (unfold maxLen; omega) | (unfold maxLen; simp; done) | (unfold maxLen; simp; omega)) (by simp [keepF]) (fun y => ?_)
        refine d_mapset 5 (⟨y, u.xs ++ [(k : Int)]⟩ : LH Int) (qk := .i64) (kt := 3) (et := 22) rfl rfl rfl rfl (fun _ => rfl) rfl rfl (by kernel_rfl) (by kernel_rfl) _ rfl (by simp [keepF]) ?_
        refine ⟨⟨(k + 1, ps, aset os (s.onces[k]).m.owner ⟨y, u.xs ++ [(k : Int)]⟩), by omega, ?_, hfin y⟩, ?_, by simp only; omega⟩
        · have e : evL evSem 0 s.pure.sems ++ evL evOnce 0 (s.pure.onces.take (k + 1)) = evL evSem 0 s.pure.sems ++ evL evOnce 0 (s.pure.onces.take k) ++ (s.onces[k]).m.waits.map fun x => (x, ⟨4, (k : Int), 0⟩) := by rw [hsucc]; simp [evOnce]
          show pm ps = mapOf _
          rw [e]; exact hps
        · refine weak_shift (.joinO [1, 3] (Gs := [[_], _]) ⟨.inl ⟨_, rfl, .own⟩, .inl ⟨_, rfl, .o⟩, trivial⟩ rfl (G := rI (aset os (s.onces[k]).m.owner ⟨y, u.xs ++ [(k : Int)]⟩)) (.trans (.of_eq (by simp)) (rows_perm_set _ (⟨y, u.xs ++ [(k : Int)]⟩ : LH Int) os))) ?_
          refine weak_mk [3, 4, 1, 0, 5] ?_ ?_ ?_ ?_ ?_ rfl rfl
          · repeat (first | exact trivial | refine ⟨⟨_, rfl, (by first | exact .of rfl | exact .lit rfl | exact .of (by first | ((exact congrArg (fun z => SV.v (Value.int .i64 z)) hw))) | exact .lit (by first | ((exact congrArg (fun z => SV.v (Value.int .i64 z)) hw)))), (by first | exact trivial | exact Nat.le_of_ble_eq_true rfl | exact small1 rfl)⟩, ?_⟩)
          · repeat (first | exact trivial | refine ⟨⟨(by first | exact .head _ | exact .tail _ (.head _) | exact .tail _ (.tail _ (.head _)) | exact .tail _ (.tail _ (.tail _ (.head _))) | exact .tail _ (.tail _ (.tail _ (.tail _ (.head _)))) | exact .tail _ (.tail _ (.tail _ (.tail _ (.tail _ (.head _))))) | exact .tail _ (.tail _ (.tail _ (.tail _ (.tail _ (.tail _ (.head _)))))) | exact .tail _ (.tail _ (.tail _ (.tail _ (.tail _ (.tail _ (.tail _ (.head _))))))) | exact .tail _ (.tail _ (.tail _ (.tail _ (.tail _ (.tail _ (.tail _ (.tail _ (.head _)))))))) | exact .tail _ (.tail _ (.tail _ (.tail _ (.tail _ (.tail _ (.tail _ (.tail _ (.tail _ (.head _)))))))))), Nat.le_of_ble_eq_true rfl⟩, ?_⟩)
          · repeat (first | exact trivial | refine ⟨⟨_, rfl, (by first | exact .of rfl | exact .lit rfl | exact .of (by first | ((exact congrArg (fun z => SV.v (Value.int .i64 z)) hw))) | exact .lit (by first | ((exact congrArg (fun z => SV.v (Value.int .i64 z)) hw)))), (by first | exact trivial | exact Nat.le_of_ble_eq_true rfl | exact small1 rfl)⟩, ?_⟩)
          · repeat (first | exact trivial | refine ⟨⟨_, rfl⟩, ?_⟩)
          · repeat (first | exact trivial | refine ⟨.inl ⟨_, rfl, (by first | rfl | ((exact congrArg (fun z => SV.v (Value.int .i64 z)) hw)))⟩, ?_⟩ | refine ⟨.inr ⟨Nat.le_of_ble_eq_true rfl, rfl, rfl, rfl, rfl⟩, ?_⟩)
    have hst : ¬ (s.onces[k]).m.state = 1 := by simpa using g
    have hsO := evL_succ evOwn s.pure.onces hltp
    rw [hget] at hsO
    refine ⟨⟨(k + 1, ps, os), by omega, ?_, by rw [hsO]; simpa [evOwn, hst] using hos⟩, ?_, by simp only; omega⟩
    · have e : evL evSem 0 s.pure.sems ++ evL evOnce 0 (s.pure.onces.take (k + 1)) = evL evSem 0 s.pure.sems ++ evL evOnce 0 (s.pure.onces.take k) ++ (s.onces[k]).m.waits.map fun x => (x, ⟨4, (k : Int), 0⟩) := by rw [hsucc]; simp [evOnce]
      show pm ps = mapOf _
      rw [e]; exact hps
    · refine weak_mk [0, 1, 2, 3, 4] ?_ ?_ ?_ ?_ ?_ rfl rfl
      · repeat (first | exact trivial | refine ⟨⟨_, rfl, (by first | exact .of rfl | exact .lit rfl | exact .of (by first | ((exact congrArg (fun z => SV.v (Value.int .i64 z)) hw))) | exact .lit (by first | ((exact congrArg (fun z => SV.v (Value.int .i64 z)) hw)))), (by first | exact trivial | exact Nat.le_of_ble_eq_true rfl | exact small1 rfl)⟩, ?_⟩)
      · repeat (first | exact trivial | refine ⟨⟨(by first | exact .head _ | exact .tail _ (.head _) | exact .tail _ (.tail _ (.head _)) | exact .tail _ (.tail _ (.tail _ (.head _))) | exact .tail _ (.tail _ (.tail _ (.tail _ (.head _)))) | exact .tail _ (.tail _ (.tail _ (.tail _ (.tail _ (.head _))))) | exact .tail _ (.tail _ (.tail _ (.tail _ (.tail _ (.tail _ (.head _)))))) | exact .tail _ (.tail _ (.tail _ (.tail _ (.tail _ (.tail _ (.tail _ (.head _))))))) | exact .tail _ (.tail _ (.tail _ (.tail _ (.tail _ (.tail _ (.tail _ (.tail _ (.head _)))))))) | exact .tail _ (.tail _ (.tail _ (.tail _ (.tail _ (.tail _ (.tail _ (.tail _ (.tail _ (.head _)))))))))), Nat.le_of_ble_eq_true rfl⟩, ?_⟩)
      · repeat (first | exact trivial | refine ⟨⟨_, rfl, (by first | exact .of rfl | exact .lit rfl | exact .of (by first | ((exact congrArg (fun z => SV.v (Value.int .i64 z)) hw))) | exact .lit (by first | ((exact congrArg (fun z => SV.v (Value.int .i64 z)) hw)))), (by first | exact trivial | exact Nat.le_of_ble_eq_true rfl | exact small1 rfl)⟩, ?_⟩)
      · repeat (first | exact trivial | refine ⟨⟨_, rfl⟩, ?_⟩)
      · repeat (first | exact trivial | refine ⟨.inl ⟨_, rfl, (by first | rfl | ((exact congrArg (fun z => SV.v (Value.int .i64 z)) hw)))⟩, ?_⟩ | refine ⟨.inr ⟨Nat.le_of_ble_eq_true rfl, rfl, rfl, rfl, rfl⟩, ?_⟩)
  have hge : s.onces.length ≤ k := by simpa using g
  rw [List.take_of_length_le (by rw [len1]; exact hge)] at hps
  rw [List.take_of_length_le (by rw [len1]; exact hge)] at hos
  have len2 : s.pure.groups.length = s.groups.length := mlen _ _
  refine LoopW.mk ⟨{ p : Nat × List (Int × LH Waiting) × List (Int × LH Int) // p.1 ≤ s.groups.length ∧ pm p.2.1 = mapOf (evL evSem 0 s.pure.sems ++ evL evOnce 0 s.pure.onces ++ evL evGroup 0 (s.pure.groups.take p.1)) ∧ pm p.2.2 = mapOf (owners s.pure) },
    fun p => .mk [(1, .p 0 0), (4, .p 1 0), (5, .v (.map (some r2))), (6, .f 170 [(1, 0)]), (91, .v (s.h4.val s.groups.length)), (92, .v (.int .i64 (s.groups.length : Int))), (93, .v (.int .i64 (p.1.1 : Int)))] 2 0 [(0, 41, 9), (1, 147, 1)]
      [((0, 2), .v (s.h2.val s.sems.length)), ((0, 3), .v (s.h3.val s.onces.length)), ((0, 4), .v (s.h4.val s.groups.length)), ((0, 5), .v (s.h5.val s.barriers.length)), ((0, 6), .v (s.h6.val s.chans.length)), ((1, 0), .v (.map (some r)))] [fMW r p.1.2.1, fO (rW p.1.2.1), fMap r2 venH p.1.2.2, fO (rI p.1.2.2), fR (stateO s)],
    fun p => s.groups.length - p.1.1, ⟨(0, ps, os), Nat.zero_le _, by simpa [evL] using hps, hos⟩, ?_, ?_⟩
  · refine weak_mk [0, 1, 2, 3, 4] ?_ ?_ ?_ ?_ ?_ rfl rfl
    · repeat (first | exact trivial | refine ⟨⟨_, rfl, (by first | exact .of rfl | exact .lit rfl | exact .of (by first | (rfl)) | exact .lit (by first | (rfl))), (by first | exact trivial | exact Nat.le_of_ble_eq_true rfl | exact small1 rfl)⟩, ?_⟩)
    · repeat (first | exact trivial | refine ⟨⟨(by first | exact .head _ | exact .tail _ (.head _) | exact .tail _ (.tail _ (.head _)) | exact .tail _ (.tail _ (.tail _ (.head _))) | exact .tail _ (.tail _ (.tail _ (.tail _ (.head _)))) | exact .tail _ (.tail _ (.tail _ (.tail _ (.tail _ (.head _))))) | exact .tail _ (.tail _ (.tail _ (.tail _ (.tail _ (.tail _ (.head _)))))) | exact .tail _ (.tail _ (.tail _ (.tail _ (.tail _ (.tail _ (.tail _ (.head _))))))) | exact .tail _ (.tail _ (.tail _ (.tail _ (.tail _ (.tail _ (.tail _ (.tail _ (.head _)))))))) | exact .tail _ (.tail _ (.tail _ (.tail _ (.tail _ (.tail _ (.tail _ (.tail _ (.tail _ (.head _)))))))))), Nat.le_of_ble_eq_true rfl⟩, ?_⟩)
    · repeat (first | exact trivial | refine ⟨⟨_, rfl, (by first | exact .of rfl | exact .lit rfl | exact .of (by first | (rfl)) | exact .lit (by first | (rfl))), (by first | exact trivial | exact Nat.le_of_ble_eq_true rfl | exact small1 rfl)⟩, ?_⟩)
    · repeat (first | exact trivial | refine ⟨⟨_, rfl⟩, ?_⟩)
    · repeat (first | exact trivial | refine ⟨.inl ⟨_, rfl, (by first | rfl | (rfl))⟩, ?_⟩ | refine ⟨.inr ⟨Nat.le_of_ble_eq_true rfl, rfl, rfl, rfl, rfl⟩, ?_⟩)
  rintro ⟨⟨k, ps, os⟩, hk, hps, hos⟩
  simp only at hk hps hos
  refine CaseB.mk (fun g => ?_) (fun g => ?_)
  · have hlt : k < s.groups.length := by simpa using g
    have hltp : k < s.pure.groups.length := by rw [len2]; exact hlt
    have hget : s.pure.groups[k] = (s.groups[k]).m := by simp [StateH.pure]
    have hpre := evL_pre evGroup s.pure.groups hltp
    have hsucc := evL_succ evGroup s.pure.groups hltp
    rw [hget] at hpre hsucc
    have hw := e_succ k _ hlt (by omega)
    refine stop_idx encGroupH tabOk rfl rfl rfl rfl rfl ⟨rfl, rfl⟩ (rdVia 4 rfl (.trans (.R_R (stateO_groups s)) (.ofR nest_h))) k rfl (by first | omega | (simp; done) | (simp; omega) | (unfold maxLen; omega) | (unfold maxLen; simp; done) | (unfold maxLen; simp; omega)) (fun ad => ?_)
    refine LoopW.mk ⟨{ p : Nat × List (Int × LH Waiting) // p.1 ≤ (s.groups[k]).m.waits.length ∧ pm p.2 = mapOf (evL evSem 0 s.pure.sems ++ evL evOnce 0 s.pure.onces ++ evL evGroup 0 (s.pure.groups.take k) ++ ((s.groups[k]).m.waits.take p.1).map fun x => (x, ⟨6, (k : Int), 0⟩)) },
      fun p => .mk [(1, .p 0 0), (4, .p 1 0), (5, .v (.map (some r2))), (6, .f 170 [(1, 0)]), (91, .v (s.h4.val s.groups.length)), (92, .v (.int .i64 (s.groups.length : Int))), (93, .v (.int .i64 (k : Int))), (15, .v (.int .i64 (k : Int))), (16, .p 2 0), (99, .v ((s.groups[k]).q.val (s.groups[k]).m.waits.length)), (100, .v (.int .i64 ((s.groups[k]).m.waits.length : Int))), (101, .v (.int .i64 (p.1.1 : Int)))] 3 0 ((2, 108, 2) :: [(0, 41, 9), (1, 147, 1)])
        [((0, 2), .v (s.h2.val s.sems.length)), ((0, 3), .v (s.h3.val s.onces.length)), ((0, 4), .v (s.h4.val s.groups.length)), ((0, 5), .v (s.h5.val s.barriers.length)), ((0, 6), .v (s.h6.val s.chans.length)), ((1, 0), .v (.map (some r)))] [fMW r p.1.2, fO (rW p.1.2), fMap r2 venH os, fO (rI os), fR (stateO s)],
      fun p => (s.groups[k]).m.waits.length - p.1.1, ⟨(0, ps), Nat.zero_le _, by simpa using hps⟩, ?_, ?_⟩
    · refine weak_mk [0, 1, 2, 3, 4] ?_ ?_ ?_ ?_ ?_ rfl rfl
      · repeat (first | exact trivial | refine ⟨⟨_, rfl, (by first | exact .of rfl | exact .lit rfl | exact .of (by first | (rfl)) | exact .lit (by first | (rfl))), (by first | exact trivial | exact Nat.le_of_ble_eq_true rfl | exact small1 rfl)⟩, ?_⟩)
      · repeat (first | exact trivial | refine ⟨⟨(by first | exact .head _ | exact .tail _ (.head _) | exact .tail _ (.tail _ (.head _)) | exact .tail _ (.tail _ (.tail _ (.head _))) | exact .tail _ (.tail _ (.tail _ (.tail _ (.head _)))) | exact .tail _ (.tail _ (.tail _ (.tail _ (.tail _ (.head _))))) | exact .tail _ (.tail _ (.tail _ (.tail _ (.tail _ (.tail _ (.head _)))))) | exact .tail _ (.tail _ (.tail _ (.tail _ (.tail _ (.tail _ (.tail _ (.head _))))))) | exact .tail _ (.tail _ (.tail _ (.tail _ (.tail _ (.tail _ (.tail _ (.tail _ (.head _)))))))) | exact .tail _ (.tail _ (.tail _ (.tail _ (.tail _ (.tail _ (.tail _ (.tail _ (.tail _ (.head _)))))))))), Nat.le_of_ble_eq_true rfl⟩, ?_⟩)
      · repeat (first | exact trivial | refine ⟨⟨_, rfl, (by first | exact .of rfl | exact .lit rfl | exact .of (by first | (rfl)) | exact .lit (by first | (rfl))), (by first | exact trivial | exact Nat.le_of_ble_eq_true rfl | exact small1 rfl)⟩, ?_⟩)
      · repeat (first | exact trivial | refine ⟨⟨_, rfl⟩, ?_⟩)
      · repeat (first | exact trivial | refine ⟨.inl ⟨_, rfl, (by first | rfl | (rfl))⟩, ?_⟩ | refine ⟨.inr ⟨Nat.le_of_ble_eq_true rfl, rfl, rfl, rfl, rfl⟩, ?_⟩)
    rintro ⟨⟨j, ps⟩, hj, hps⟩
    simp only at hj hps
    refine CaseB.mk (fun g => ?_) (fun g => ?_)
    · have hlj : j < (s.groups[k]).m.waits.length := by simpa using g
      have hwj := e_succ j (s.groups[k]).m.waits.length hlj (by simp only [evGroup, List.length_map] at hpre; omega)
      have hbnd : ∀ t, ((aget ps t).getD LH.nil).xs.length ≤ 1048576 := fun t => by
        have h1 := pm_len hps t
        simp only [List.length_append, List.length_map, List.length_take] at h1
        have h2 : min j (s.groups[k]).m.waits.length ≤ (s.groups[k]).m.waits.length := Nat.min_le_right _ _
        simp only [evGroup, List.length_map] at hpre; omega
      refine stop_idx encInt tabOk rfl rfl rfl rfl rfl ⟨rfl, rfl⟩ (rdVia 4 rfl (.trans (.R_R (stateO_groups s)) (.ofR (groupsO_0 _ _ k hlt)))) j rfl (by first | omega | (simp; done) | (simp; omega) | (unfold maxLen; omega) | (unfold maxLen; simp; done) | (unfold maxLen; simp; omega)) (fun ad2 => ?_)
      refine stop_callPGc _ [0, 1] (G := [_, _]) cl170 rfl rfl rfl rfl ⟨rfl, rfl⟩ rfl rfl ⟨rfl, rfl, trivial⟩ ⟨rfl, rfl, rfl, rfl, trivial⟩ (fun A w ga hga hW hblk => wAdd_c _ _ _ _ ga r ps w hblk (hW.atG [0, 1] (G := [_, _]) ⟨rfl, rfl, trivial⟩ rfl ⟨rfl, rfl, rfl, rfl, trivial⟩ [] (Fo := []) trivial rfl) (hW.atG_off (by exact rfl) hga (ix := [0, 1]) (G := [_, _]) ⟨rfl, rfl, trivial⟩ (jx := []) (Fo := []) trivial) (hbnd _)) ?_
      rintro v cs L ⟨rfl, rfl, qs, hqs, rfl⟩
      refine ⟨⟨(j + 1, qs), by omega, ?_⟩, ?_, by simp only; omega⟩
      · rw [hqs, hps, ← mapOf_snoc, List.take_succ_eq_append_getElem hlj, List.map_append, List.map_cons, List.map_nil, List.append_assoc _ _ [_]]
      · refine weak_mk [0, 1, 2, 3, 4] ?_ ?_ ?_ ?_ ?_ rfl rfl
        · repeat (first | exact trivial | refine ⟨⟨_, rfl, (by first | exact .of rfl | exact .lit rfl | exact .of (by first | ((exact congrArg (fun z => SV.v (Value.int .i64 z)) hwj))) | exact .lit (by first | ((exact congrArg (fun z => SV.v (Value.int .i64 z)) hwj)))), (by first | exact trivial | exact Nat.le_of_ble_eq_true rfl | exact small1 rfl)⟩, ?_⟩)
        · repeat (first | exact trivial | refine ⟨⟨(by first | exact .head _ | exact .tail _ (.head _) | exact .tail _ (.tail _ (.head _)) | exact .tail _ (.tail _ (.tail _ (.head _))) | exact .tail _ (.tail _ (.tail _ (.tail _ (.head _)))) | exact .tail _ (.tail _ (.tail _ (.tail _ (.tail _ (.head _))))) | exact .tail _ (.tail _ (.tail _ (.tail _ (.tail _ (.tail _ (.head _)))))) | exact .tail _ (.tail _ (.tail _ (.tail _ (.tail _ (.tail _ (.tail _ (.head _))))))) | exact .tail _ (.tail _ (.tail _ (.tail _ (.tail _ (.tail _ (.tail _ (.tail _ (.head _)))))))) | exact .tail _ (.tail _ (.tail _ (.tail _ (.tail _ (.tail _ (.tail _ (.tail _ (.tail _ (.head _)))))))))), Nat.le_of_ble_eq_true rfl⟩, ?_⟩)
        · repeat (first | exact trivial | refine ⟨⟨_, rfl, (by first | exact .of rfl | exact .lit rfl | exact .of (by first | ((exact congrArg (fun z => SV.v (Value.int .i64 z)) hwj))) | exact .lit (by first | ((exact congrArg (fun z => SV.v (Value.int .i64 z)) hwj)))), (by first | exact trivial | exact Nat.le_of_ble_eq_true rfl | exact small1 rfl)⟩, ?_⟩)
        · repeat (first | exact trivial | refine ⟨⟨_, rfl⟩, ?_⟩)
        · repeat (first | exact trivial | refine ⟨.inl ⟨_, rfl, (by first | rfl | ((exact congrArg (fun z => SV.v (Value.int .i64 z)) hwj)))⟩, ?_⟩ | refine ⟨.inr ⟨Nat.le_of_ble_eq_true rfl, rfl, rfl, rfl, rfl⟩, ?_⟩)
    have hgj : (s.groups[k]).m.waits.length ≤ j := by simpa using g
    rw [List.take_of_length_le hgj] at hps
    refine ⟨⟨(k + 1, ps, os), by omega, ?_, hos⟩, ?_, by simp only; omega⟩
    · have e : evL evSem 0 s.pure.sems ++ evL evOnce 0 s.pure.onces ++ evL evGroup 0 (s.pure.groups.take (k + 1)) = evL evSem 0 s.pure.sems ++ evL evOnce 0 s.pure.onces ++ evL evGroup 0 (s.pure.groups.take k) ++ (s.groups[k]).m.waits.map fun x => (x, ⟨6, (k : Int), 0⟩) := by rw [hsucc]; simp [evGroup]
      show pm ps = mapOf _
      rw [e]; exact hps
    · refine weak_mk [0, 1, 2, 3, 4] ?_ ?_ ?_ ?_ ?_ rfl rfl
      · repeat (first | exact trivial | refine ⟨⟨_, rfl, (by first | exact .of rfl | exact .lit rfl | exact .of (by first | ((exact congrArg (fun z => SV.v (Value.int .i64 z)) hw))) | exact .lit (by first | ((exact congrArg (fun z => SV.v (Value.int .i64 z)) hw)))), (by first | exact trivial | exact Nat.le_of_ble_eq_true rfl | exact small1 rfl)⟩, ?_⟩)
      · repeat (first | exact trivial | refine ⟨⟨(by first | exact .head _ | exact .tail _ (.head _) | exact .tail _ (.tail _ (.head _)) | exact .tail _ (.tail _ (.tail _ (.head _))) | exact .tail _ (.tail _ (.tail _ (.tail _ (.head _)))) | exact .tail _ (.tail _ (.tail _ (.tail _ (.tail _ (.head _))))) | exact .tail _ (.tail _ (.tail _ (.tail _ (.tail _ (.tail _ (.head _)))))) | exact .tail _ (.tail _ (.tail _ (.tail _ (.tail _ (.tail _ (.tail _ (.head _))))))) | exact .tail _ (.tail _ (.tail _ (.tail _ (.tail _ (.tail _ (.tail _ (.tail _ (.head _)))))))) | exact .tail _ (.tail _ (.tail _ (.tail _ (.tail _ (.tail _ (.tail _ (.tail _ (.tail _ (.head _)))))))))), Nat.le_of_ble_eq_true rfl⟩, ?_⟩)
      · repeat (first | exact trivial | refine ⟨⟨_, rfl, (by first | exact .of rfl | exact .lit rfl | exact .of (by first | ((exact congrArg (fun z => SV.v (Value.int .i64 z)) hw))) | exact .lit (by first | ((exact congrArg (fun z => SV.v (Value.int .i64 z)) hw)))), (by first | exact trivial | exact Nat.le_of_ble_eq_true rfl | exact small1 rfl)⟩, ?_⟩)
      · repeat (first | exact trivial | refine ⟨⟨_, rfl⟩, ?_⟩)
      · repeat (first | exact trivial | refine ⟨.inl ⟨_, rfl, (by first | rfl | ((exact congrArg (fun z => SV.v (Value.int .i64 z)) hw)))⟩, ?_⟩ | refine ⟨.inr ⟨Nat.le_of_ble_eq_true rfl, rfl, rfl, rfl, rfl⟩, ?_⟩)
  have hge : s.groups.length ≤ k := by simpa using g
  rw [List.take_of_length_le (by rw [len2]; exact hge)] at hps
  have len3 : s.pure.barriers.length = s.barriers.length := mlen _ _
  refine LoopW.mk ⟨{ p : Nat × List (Int × LH Waiting) × List (Int × LH Int) // p.1 ≤ s.barriers.length ∧ pm p.2.1 = mapOf (evL evSem 0 s.pure.sems ++ evL evOnce 0 s.pure.onces ++ evL evGroup 0 s.pure.groups ++ evL evBarrier 0 (s.pure.barriers.take p.1)) ∧ pm p.2.2 = mapOf (owners s.pure) },
    fun p => .mk [(1, .p 0 0), (4, .p 1 0), (5, .v (.map (some r2))), (6, .f 170 [(1, 0)]), (112, .v (s.h5.val s.barriers.length)), (113, .v (.int .i64 (s.barriers.length : Int))), (114, .v (.int .i64 (p.1.1 : Int)))] 2 0 [(0, 41, 9), (1, 147, 1)]
      [((0, 2), .v (s.h2.val s.sems.length)), ((0, 3), .v (s.h3.val s.onces.length)), ((0, 4), .v (s.h4.val s.groups.length)), ((0, 5), .v (s.h5.val s.barriers.length)), ((0, 6), .v (s.h6.val s.chans.length)), ((1, 0), .v (.map (some r)))] [fMW r p.1.2.1, fO (rW p.1.2.1), fMap r2 venH p.1.2.2, fO (rI p.1.2.2), fR (stateO s)],
    fun p => s.barriers.length - p.1.1, ⟨(0, ps, os), Nat.zero_le _, by simpa [evL] using hps, hos⟩, ?_, ?_⟩
  · refine weak_mk [0, 1, 2, 3, 4] ?_ ?_ ?_ ?_ ?_ rfl rfl
    · repeat (first | exact trivial | refine ⟨⟨_, rfl, (by first | exact .of rfl | exact .lit rfl | exact .of (by first | (rfl)) | exact .lit (by first | (rfl))), (by first | exact trivial | exact Nat.le_of_ble_eq_true rfl | exact small1 rfl)⟩, ?_⟩)
    · repeat (first | exact trivial | refine ⟨⟨(by first | exact .head _ | exact .tail _ (.head _) | exact .tail _ (.tail _ (.head _)) | exact .tail _ (.tail _ (.tail _ (.head _))) | exact .tail _ (.tail _ (.tail _ (.tail _ (.head _)))) | exact .tail _ (.tail _ (.tail _ (.tail _ (.tail _ (.head _))))) | exact .tail _ (.tail _ (.tail _ (.tail _ (.tail _ (.tail _ (.head _)))))) | exact .tail _ (.tail _ (.tail _ (.tail _ (.tail _ (.tail _ (.tail _ (.head _))))))) | exact .tail _ (.tail _ (.tail _ (.tail _ (.tail _ (.tail _ (.tail _ (.tail _ (.head _)))))))) | exact .tail _ (.tail _ (.tail _ (.tail _ (.tail _ (.tail _ (.tail _ (.tail _ (.tail _ (.head _)))))))))), Nat.le_of_ble_eq_true rfl⟩, ?_⟩)
    · repeat (first | exact trivial | refine ⟨⟨_, rfl, (by first | exact .of rfl | exact .lit rfl | exact .of (by first | (rfl)) | exact .lit (by first | (rfl))), (by first | exact trivial | exact Nat.le_of_ble_eq_true rfl | exact small1 rfl)⟩, ?_⟩)
    · repeat (first | exact trivial | refine ⟨⟨_, rfl⟩, ?_⟩)
    · repeat (first | exact trivial | refine ⟨.inl ⟨_, rfl, (by first | rfl | (rfl))⟩, ?_⟩ | refine ⟨.inr ⟨Nat.le_of_ble_eq_true rfl, rfl, rfl, rfl, rfl⟩, ?_⟩)
  rintro ⟨⟨k, ps, os⟩, hk, hps, hos⟩
  simp only at hk hps hos
  refine CaseB.mk (fun g => ?_) (fun g => ?_)
  · have hlt : k < s.barriers.length := by simpa using g
    have hltp : k < s.pure.barriers.length := by rw [len3]; exact hlt
    have hget : s.pure.barriers[k] = (s.barriers[k]).m := by simp [StateH.pure]
    have hpre := evL_pre evBarrier s.pure.barriers hltp
    have hsucc := evL_succ evBarrier s.pure.barriers hltp
    rw [hget] at hpre hsucc
    have hw := e_succ k _ hlt (by omega)
    refine stop_idx encBarrierH tabOk rfl rfl rfl rfl rfl ⟨rfl, rfl⟩ (rdVia 4 rfl (.trans (.R_R (stateO_barriers s)) (.ofR nest_h))) k rfl (by first | omega | (simp; done) | (simp; omega) | (unfold maxLen; omega) | (unfold maxLen; simp; done) | (unfold maxLen; simp; omega)) (fun ad => ?_)
    refine LoopW.mk ⟨{ p : Nat × List (Int × LH Waiting) // p.1 ≤ (s.barriers[k]).m.waits.length ∧ pm p.2 = mapOf (evL evSem 0 s.pure.sems ++ evL evOnce 0 s.pure.onces ++ evL evGroup 0 s.pure.groups ++ evL evBarrier 0 (s.pure.barriers.take k) ++ ((s.barriers[k]).m.waits.take p.1).map fun x => (x, ⟨7, (k : Int), 0⟩)) },
      fun p => .mk [(1, .p 0 0), (4, .p 1 0), (5, .v (.map (some r2))), (6, .f 170 [(1, 0)]), (112, .v (s.h5.val s.barriers.length)), (113, .v (.int .i64 (s.barriers.length : Int))), (114, .v (.int .i64 (k : Int))), (19, .v (.int .i64 (k : Int))), (20, .p 2 0), (120, .v ((s.barriers[k]).q.val (s.barriers[k]).m.waits.length)), (121, .v (.int .i64 ((s.barriers[k]).m.waits.length : Int))), (122, .v (.int .i64 (p.1.1 : Int)))] 3 0 ((2, 114, 3) :: [(0, 41, 9), (1, 147, 1)])
        [((0, 2), .v (s.h2.val s.sems.length)), ((0, 3), .v (s.h3.val s.onces.length)), ((0, 4), .v (s.h4.val s.groups.length)), ((0, 5), .v (s.h5.val s.barriers.length)), ((0, 6), .v (s.h6.val s.chans.length)), ((1, 0), .v (.map (some r)))] [fMW r p.1.2, fO (rW p.1.2), fMap r2 venH os, fO (rI os), fR (stateO s)],
      fun p => (s.barriers[k]).m.waits.length - p.1.1, ⟨(0, ps), Nat.zero_le _, by simpa using hps⟩, ?_, ?_⟩
    · refine weak_mk [0, 1, 2, 3, 4] ?_ ?_ ?_ ?_ ?_ rfl rfl
      · repeat (first | exact trivial | refine ⟨⟨_, rfl, (by first | exact .of rfl | exact .lit rfl | exact .of (by first | (rfl)) | exact .lit (by first | (rfl))), (by first | exact trivial | exact Nat.le_of_ble_eq_true rfl | exact small1 rfl)⟩, ?_⟩)
      · repeat (first | exact trivial | refine ⟨⟨(by first | exact .head _ | exact .tail _ (.head _) | exact .tail _ (.tail _ (.head _)) | exact .tail _ (.tail _ (.tail _ (.head _))) | exact .tail _ (.tail _ (.tail _ (.tail _ (.head _)))) | exact .tail _ (.tail _ (.tail _ (.tail _ (.tail _ (.head _))))) | exact .tail _ (.tail _ (.tail _ (.tail _ (.tail _ (.tail _ (.head _)))))) | exact .tail _ (.tail _ (.tail _ (.tail _ (.tail _ (.tail _ (.tail _ (.head _))))))) | exact .tail _ (.tail _ (.tail _ (.tail _ (.tail _ (.tail _ (.tail _ (.tail _ (.head _)))))))) | exact .tail _ (.tail _ (.tail _ (.tail _ (.tail _ (.tail _ (.tail _ (.tail _ (.tail _ (.head _)))))))))), Nat.le_of_ble_eq_true rfl⟩, ?_⟩)
      · repeat (first | exact trivial | refine ⟨⟨_, rfl, (by first | exact .of rfl | exact .lit rfl | exact .of (by first | (rfl)) | exact .lit (by first | (rfl))), (by first | exact trivial | exact Nat.le_of_ble_eq_true rfl | exact small1 rfl)⟩, ?_⟩)
      · repeat (first | exact trivial | refine ⟨⟨_, rfl⟩, ?_⟩)
      · repeat (first | exact trivial | refine ⟨.inl ⟨_, rfl, (by first | rfl | (rfl))⟩, ?_⟩ | refine ⟨.inr ⟨Nat.le_of_ble_eq_true rfl, rfl, rfl, rfl, rfl⟩, ?_⟩)
    rintro ⟨⟨j, ps⟩, hj, hps⟩
    simp only at hj hps
    refine CaseB.mk (fun g => ?_) (fun g => ?_)
    · have hlj : j < (s.barriers[k]).m.waits.length := by simpa using g
      have hwj := e_succ j (s.barriers[k]).m.waits.length hlj (by simp only [evBarrier, List.length_map] at hpre; omega)
      have hbnd : ∀ t, ((aget ps t).getD LH.nil).xs.length ≤ 1048576 := fun t => by
        have h1 := pm_len hps t
        simp only [List.length_append, List.length_map, List.length_take] at h1
        have h2 : min j (s.barriers[k]).m.waits.length ≤ (s.barriers[k]).m.waits.length := Nat.min_le_right _ _
        simp only [evBarrier, List.length_map] at hpre; omega
      refine stop_idx encInt tabOk rfl rfl rfl rfl rfl ⟨rfl, rfl⟩ (rdVia 4 rfl (.trans (.R_R (stateO_barriers s)) (.ofR (barriersO_0 _ _ k hlt)))) j rfl (by first | omega | (simp; done) | (simp; omega) | (unfold maxLen; omega) | (unfold maxLen; simp; done) | (unfold maxLen; simp; omega)) (fun ad2 => ?_)
      refine stop_callPGc _ [0, 1] (G := [_, _]) cl170 rfl rfl rfl rfl ⟨rfl, rfl⟩ rfl rfl ⟨rfl, rfl, trivial⟩ ⟨rfl, rfl, rfl, rfl, trivial⟩ (fun A w ga hga hW hblk => wAdd_c _ _ _ _ ga r ps w hblk (hW.atG [0, 1] (G := [_, _]) ⟨rfl, rfl, trivial⟩ rfl ⟨rfl, rfl, rfl, rfl, trivial⟩ [] (Fo := []) trivial rfl) (hW.atG_off (by exact rfl) hga (ix := [0, 1]) (G := [_, _]) ⟨rfl, rfl, trivial⟩ (jx := []) (Fo := []) trivial) (hbnd _)) ?_
      rintro v cs L ⟨rfl, rfl, qs, hqs, rfl⟩
      refine ⟨⟨(j + 1, qs), by omega, ?_⟩, ?_, by simp only; omega⟩
      · rw [hqs, hps, ← mapOf_snoc, List.take_succ_eq_append_getElem hlj, List.map_append, List.map_cons, List.map_nil, List.append_assoc _ _ [_]]
      · refine weak_mk [0, 1, 2, 3, 4] ?_ ?_ ?_ ?_ ?_ rfl rfl
        · repeat (first | exact trivial | refine ⟨⟨_, rfl, (by first | exact .of rfl | exact .lit rfl | exact .of (by first | ((exact congrArg (fun z => SV.v (Value.int .i64 z)) hwj))) | exact .lit (by first | ((exact congrArg (fun z => SV.v (Value.int .i64 z)) hwj)))), (by first | exact trivial | exact Nat.le_of_ble_eq_true rfl | exact small1 rfl)⟩, ?_⟩)
        · repeat (first | exact trivial | refine ⟨⟨(by first | exact .head _ | exact .tail _ (.head _) | exact .tail _ (.tail _ (.head _)) | exact .tail _ (.tail _ (.tail _ (.head _))) | exact .tail _ (.tail _ (.tail _ (.tail _ (.head _)))) | exact .tail _ (.tail _ (.tail _ (.tail _ (.tail _ (.head _))))) | exact .tail _ (.tail _ (.tail _ (.tail _ (.tail _ (.tail _ (.head _)))))) | exact .tail _ (.tail _ (.tail _ (.tail _ (.tail _ (.tail _ (.tail _ (.head _))))))) | exact .tail _ (.tail _ (.tail _ (.tail _ (.tail _ (.tail _ (.tail _ (.tail _ (.head _)))))))) | exact .tail _ (.tail _ (.tail _ (.tail _ (.tail _ (.tail _ (.tail _ (.tail _ (.tail _ (.head _)))))))))), Nat.le_of_ble_eq_true rfl⟩, ?_⟩)
        · repeat (first | exact trivial | refine ⟨⟨_, rfl, (by first | exact .of rfl | exact .lit rfl | exact .of (by first | ((exact congrArg (fun z => SV.v (Value.int .i64 z)) hwj))) | exact .lit (by first | ((exact congrArg (fun z => SV.v (Value.int .i64 z)) hwj)))), (by first | exact trivial | exact Nat.le_of_ble_eq_true rfl | exact small1 rfl)⟩, ?_⟩)
        · repeat (first | exact trivial | refine ⟨⟨_, rfl⟩, ?_⟩)
        · repeat (first | exact trivial | refine ⟨.inl ⟨_, rfl, (by first | rfl | ((exact congrArg (fun z => SV.v (Value.int .i64 z)) hwj)))⟩, ?_⟩ | refine ⟨.inr ⟨Nat.le_of_ble_eq_true rfl, rfl, rfl, rfl, rfl⟩, ?_⟩)
    have hgj : (s.barriers[k]).m.waits.length ≤ j := by simpa using g
    rw [List.take_of_length_le hgj] at hps
    refine ⟨⟨(k + 1, ps, os), by omega, ?_, hos⟩, ?_, by simp only; omega⟩
    · have e : evL evSem 0 s.pure.sems ++ evL evOnce 0 s.pure.onces ++ evL evGroup 0 s.pure.groups ++ evL evBarrier 0 (s.pure.barriers.take (k + 1)) = evL evSem 0 s.pure.sems ++ evL evOnce 0 s.pure.onces ++ evL evGroup 0 s.pure.groups ++ evL evBarrier 0 (s.pure.barriers.take k) ++ (s.barriers[k]).m.waits.map fun x => (x, ⟨7, (k : Int), 0⟩) := by rw [hsucc]; simp [evBarrier]
      show pm ps = mapOf _
      rw [e]; exact hps
    · refine weak_mk [0, 1, 2, 3, 4] ?_ ?_ ?_ ?_ ?_ rfl rfl
      · repeat (first | exact trivial | refine ⟨⟨_, rfl, (by first | exact .of rfl | exact .lit rfl | exact .of (by first | ((exact congrArg (fun z => SV.v (Value.int .i64 z)) hw))) | exact .lit (by first | ((exact congrArg (fun z => SV.v (Value.int .i64 z)) hw)))), (by first | exact trivial | exact Nat.le_of_ble_eq_true rfl | exact small1 rfl)⟩, ?_⟩)
      · repeat (first | exact trivial | refine ⟨⟨(by first | exact .head _ | exact .tail _ (.head _) | exact .tail _ (.tail _ (.head _)) | exact .tail _ (.tail _ (.tail _ (.head _))) | exact .tail _ (.tail _ (.tail _ (.tail _ (.head _)))) | exact .tail _ (.tail _ (.tail _ (.tail _ (.tail _ (.head _))))) | exact .tail _ (.tail _ (.tail _ (.tail _ (.tail _ (.tail _ (.head _)))))) | exact .tail _ (.tail _ (.tail _ (.tail _ (.tail _ (.tail _ (.tail _ (.head _))))))) | exact .tail _ (.tail _ (.tail _ (.tail _ (.tail _ (.tail _ (.tail _ (.tail _ (.head _)))))))) | exact .tail _ (.tail _ (.tail _ (.tail _ (.tail _ (.tail _ (.tail _ (.tail _ (.tail _ (.head _)))))))))), Nat.le_of_ble_eq_true rfl⟩, ?_⟩)
      · repeat (first | exact trivial | refine ⟨⟨_, rfl, (by first | exact .of rfl | exact .lit rfl | exact .of (by first | ((exact congrArg (fun z => SV.v (Value.int .i64 z)) hw))) | exact .lit (by first | ((exact congrArg (fun z => SV.v (Value.int .i64 z)) hw)))), (by first | exact trivial | exact Nat.le_of_ble_eq_true rfl | exact small1 rfl)⟩, ?_⟩)
      · repeat (first | exact trivial | refine ⟨⟨_, rfl⟩, ?_⟩)
      · repeat (first | exact trivial | refine ⟨.inl ⟨_, rfl, (by first | rfl | ((exact congrArg (fun z => SV.v (Value.int .i64 z)) hw)))⟩, ?_⟩ | refine ⟨.inr ⟨Nat.le_of_ble_eq_true rfl, rfl, rfl, rfl, rfl⟩, ?_⟩)
  have hge : s.barriers.length ≤ k := by simpa using g
  rw [List.take_of_length_le (by rw [len3]; exact hge)] at hps
  have len4 : s.pure.chans.length = s.chans.length := mlen _ _
  refine LoopW.mk ⟨{ p : Nat × List (Int × LH Waiting) × List (Int × LH Int) // p.1 ≤ s.chans.length ∧ pm p.2.1 = mapOf (evL evSem 0 s.pure.sems ++ evL evOnce 0 s.pure.onces ++ evL evGroup 0 s.pure.groups ++ evL evBarrier 0 s.pure.barriers ++ evL evChan 0 (s.pure.chans.take p.1)) ∧ pm p.2.2 = mapOf (owners s.pure) },
    fun p => .mk [(1, .p 0 0), (4, .p 1 0), (5, .v (.map (some r2))), (6, .f 170 [(1, 0)]), (133, .v (s.h6.val s.chans.length)), (134, .v (.int .i64 (s.chans.length : Int))), (135, .v (.int .i64 (p.1.1 : Int)))] 2 0 [(0, 41, 9), (1, 147, 1)]
      [((0, 2), .v (s.h2.val s.sems.length)), ((0, 3), .v (s.h3.val s.onces.length)), ((0, 4), .v (s.h4.val s.groups.length)), ((0, 5), .v (s.h5.val s.barriers.length)), ((0, 6), .v (s.h6.val s.chans.length)), ((1, 0), .v (.map (some r)))] [fMW r p.1.2.1, fO (rW p.1.2.1), fMap r2 venH p.1.2.2, fO (rI p.1.2.2), fR (stateO s)],
    fun p => s.chans.length - p.1.1, ⟨(0, ps, os), Nat.zero_le _, by simpa [evL] using hps, hos⟩, ?_, ?_⟩
  · refine weak_mk [0, 1, 2, 3, 4] ?_ ?_ ?_ ?_ ?_ rfl rfl
    · repeat (first | exact trivial | refine ⟨⟨_, rfl, (by first | exact .of rfl | exact .lit rfl | exact .of (by first | (rfl)) | exact .lit (by first | (rfl))), (by first | exact trivial | exact Nat.le_of_ble_eq_true rfl | exact small1 rfl)⟩, ?_⟩)
    · repeat (first | exact trivial | refine ⟨⟨(by first | exact .head _ | exact .tail _ (.head _) | exact .tail _ (.tail _ (.head _)) | exact .tail _ (.tail _ (.tail _ (.head _))) | exact .tail _ (.tail _ (.tail _ (.tail _ (.head _)))) | exact .tail _ (.tail _ (.tail _ (.tail _ (.tail _ (.head _))))) | exact .tail _ (.tail _ (.tail _ (.tail _ (.tail _ (.tail _ (.head _)))))) | exact .tail _ (.tail _ (.tail _ (.tail _ (.tail _ (.tail _ (.tail _ (.head _))))))) | exact .tail _ (.tail _ (.tail _ (.tail _ (.tail _ (.tail _ (.tail _ (.tail _ (.head _)))))))) | exact .tail _ (.tail _ (.tail _ (.tail _ (.tail _ (.tail _ (.tail _ (.tail _ (.tail _ (.head _)))))))))), Nat.le_of_ble_eq_true rfl⟩, ?_⟩)
    · repeat (first | exact trivial | refine ⟨⟨_, rfl, (by first | exact .of rfl | exact .lit rfl | exact .of (by first | (rfl)) | exact .lit (by first | (rfl))), (by first | exact trivial | exact Nat.le_of_ble_eq_true rfl | exact small1 rfl)⟩, ?_⟩)
    · repeat (first | exact trivial | refine ⟨⟨_, rfl⟩, ?_⟩)
    · repeat (first | exact trivial | refine ⟨.inl ⟨_, rfl, (by first | rfl | (rfl))⟩, ?_⟩ | refine ⟨.inr ⟨Nat.le_of_ble_eq_true rfl, rfl, rfl, rfl, rfl⟩, ?_⟩)
  rintro ⟨⟨k, ps, os⟩, hk, hps, hos⟩
  simp only at hk hps hos
  refine CaseB.mk (fun g => ?_) (fun g => ?_)
  · have hlt : k < s.chans.length := by simpa using g
    have hltp : k < s.pure.chans.length := by rw [len4]; exact hlt
    have hget : s.pure.chans[k] = (s.chans[k]).m := by simp [StateH.pure]
    have hpre := evL_pre evChan s.pure.chans hltp
    have hsucc := evL_succ evChan s.pure.chans hltp
    rw [hget] at hpre hsucc
    have hw := e_succ k _ hlt (by omega)
    refine stop_idx encChanH tabOk rfl rfl rfl rfl rfl ⟨rfl, rfl⟩ (rdVia 4 rfl (.trans (.R_R (stateO_chans s)) (.ofR nest_h))) k rfl (by first | omega | (simp; done) | (simp; omega) | (unfold maxLen; omega) | (unfold maxLen; simp; done) | (unfold maxLen; simp; omega)) (fun ad => ?_)
    refine LoopW.mk ⟨{ p : Nat × List (Int × LH Waiting) // p.1 ≤ (s.chans[k]).m.senders.length ∧ pm p.2 = mapOf (evL evSem 0 s.pure.sems ++ evL evOnce 0 s.pure.onces ++ evL evGroup 0 s.pure.groups ++ evL evBarrier 0 s.pure.barriers ++ evL evChan 0 (s.pure.chans.take k) ++ ((s.chans[k]).m.senders.take p.1).map fun x => (x.t, ⟨8, (k : Int), x.v⟩)) },
      fun p => .mk [(1, .p 0 0), (4, .p 1 0), (5, .v (.map (some r2))), (6, .f 170 [(1, 0)]), (133, .v (s.h6.val s.chans.length)), (134, .v (.int .i64 (s.chans.length : Int))), (135, .v (.int .i64 (k : Int))), (23, .v (.int .i64 (k : Int))), (24, .p 2 0), (141, .v ((s.chans[k]).q1.val (s.chans[k]).m.senders.length)), (142, .v (.int .i64 ((s.chans[k]).m.senders.length : Int))), (143, .v (.int .i64 (p.1.1 : Int)))] 3 0 ((2, 119, 5) :: [(0, 41, 9), (1, 147, 1)])
        [((0, 2), .v (s.h2.val s.sems.length)), ((0, 3), .v (s.h3.val s.onces.length)), ((0, 4), .v (s.h4.val s.groups.length)), ((0, 5), .v (s.h5.val s.barriers.length)), ((0, 6), .v (s.h6.val s.chans.length)), ((1, 0), .v (.map (some r))), ((2, 3), .v ((s.chans[k]).q2.val (s.chans[k]).m.getters.length))] [fMW r p.1.2, fO (rW p.1.2), fMap r2 venH os, fO (rI os), fR (stateO s)],
      fun p => (s.chans[k]).m.senders.length - p.1.1, ⟨(0, ps), Nat.zero_le _, by simpa using hps⟩, ?_, ?_⟩
    · refine weak_mk [0, 1, 2, 3, 4] ?_ ?_ ?_ ?_ ?_ rfl rfl
      · repeat (first | exact trivial | refine ⟨⟨_, rfl, (by first | exact .of rfl | exact .lit rfl | exact .of (by first | (rfl)) | exact .lit (by first | (rfl))), (by first | exact trivial | exact Nat.le_of_ble_eq_true rfl | exact small1 rfl)⟩, ?_⟩)
      · repeat (first | exact trivial | refine ⟨⟨(by first | exact .head _ | exact .tail _ (.head _) | exact .tail _ (.tail _ (.head _)) | exact .tail _ (.tail _ (.tail _ (.head _))) | exact .tail _ (.tail _ (.tail _ (.tail _ (.head _)))) | exact .tail _ (.tail _ (.tail _ (.tail _ (.tail _ (.head _))))) | exact .tail _ (.tail _ (.tail _ (.tail _ (.tail _ (.tail _ (.head _)))))) | exact .tail _ (.tail _ (.tail _ (.tail _ (.tail _ (.tail _ (.tail _ (.head _))))))) | exact .tail _ (.tail _ (.tail _ (.tail _ (.tail _ (.tail _ (.tail _ (.tail _ (.head _)))))))) | exact .tail _ (.tail _ (.tail _ (.tail _ (.tail _ (.tail _ (.tail _ (.tail _ (.tail _ (.head _)))))))))), Nat.le_of_ble_eq_true rfl⟩, ?_⟩)
      · repeat (first | exact trivial | refine ⟨⟨_, rfl, (by first | exact .of rfl | exact .lit rfl | exact .of (by first | (rfl)) | exact .lit (by first | (rfl))), (by first | exact trivial | exact Nat.le_of_ble_eq_true rfl | exact small1 rfl)⟩, ?_⟩)
      · repeat (first | exact trivial | refine ⟨⟨_, rfl⟩, ?_⟩)
      · repeat (first | exact trivial | refine ⟨.inl ⟨_, rfl, (by first | rfl | (rfl))⟩, ?_⟩ | refine ⟨.inr ⟨Nat.le_of_ble_eq_true rfl, rfl, rfl, rfl, rfl⟩, ?_⟩)
    rintro ⟨⟨j, ps⟩, hj, hps⟩
    simp only at hj hps
    refine CaseB.mk (fun g => ?_) (fun g => ?_)
    · have hlj : j < (s.chans[k]).m.senders.length := by simpa using g
      have hwj := e_succ j (s.chans[k]).m.senders.length hlj (by simp only [evChan, List.length_append, List.length_map] at hpre; omega)
      have hbnd : ∀ t, ((aget ps t).getD LH.nil).xs.length ≤ 1048576 := fun t => by
        have h1 := pm_len hps t
        simp only [List.length_append, List.length_map, List.length_take] at h1
        have h2 : min j (s.chans[k]).m.senders.length ≤ (s.chans[k]).m.senders.length := Nat.min_le_right _ _
        simp only [evChan, List.length_append, List.length_map] at hpre; omega
      refine stop_idx encLet tabOk rfl rfl rfl rfl rfl ⟨rfl, rfl⟩ (rdVia 4 rfl (.trans (.R_R (stateO_chans s)) (.ofR (chansO_1 _ _ k hlt)))) j rfl (by first | omega | (simp; done) | (simp; omega) | (unfold maxLen; omega) | (unfold maxLen; simp; done) | (unfold maxLen; simp; omega)) (fun ad2 => ?_)
      refine stop_callPGc _ [0, 1] (G := [_, _]) cl170 rfl rfl rfl rfl ⟨rfl, rfl⟩ rfl rfl ⟨rfl, rfl, trivial⟩ ⟨rfl, rfl, rfl, rfl, trivial⟩ (fun A w ga hga hW hblk => wAdd_c _ _ _ _ ga r ps w hblk (hW.atG [0, 1] (G := [_, _]) ⟨rfl, rfl, trivial⟩ rfl ⟨rfl, rfl, rfl, rfl, trivial⟩ [] (Fo := []) trivial rfl) (hW.atG_off (by exact rfl) hga (ix := [0, 1]) (G := [_, _]) ⟨rfl, rfl, trivial⟩ (jx := []) (Fo := []) trivial) (hbnd _)) ?_
      rintro v cs L ⟨rfl, rfl, qs, hqs, rfl⟩
      refine ⟨⟨(j + 1, qs), by omega, ?_⟩, ?_, by simp only; omega⟩
      · rw [hqs, hps, ← mapOf_snoc, List.take_succ_eq_append_getElem hlj, List.map_append, List.map_cons, List.map_nil, List.append_assoc _ _ [_]]
      · refine weak_mk [0, 1, 2, 3, 4] ?_ ?_ ?_ ?_ ?_ rfl rfl
        · repeat (first | exact trivial | refine ⟨⟨_, rfl, (by first | exact .of rfl | exact .lit rfl | exact .of (by first | ((exact congrArg (fun z => SV.v (Value.int .i64 z)) hwj))) | exact .lit (by first | ((exact congrArg (fun z => SV.v (Value.int .i64 z)) hwj)))), (by first | exact trivial | exact Nat.le_of_ble_eq_true rfl | exact small1 rfl)⟩, ?_⟩)
        · repeat (first | exact trivial | refine ⟨⟨(by first | exact .head _ | exact .tail _ (.head _) | exact .tail _ (.tail _ (.head _)) | exact .tail _ (.tail _ (.tail _ (.head _))) | exact .tail _ (.tail _ (.tail _ (.tail _ (.head _)))) | exact .tail _ (.tail _ (.tail _ (.tail _ (.tail _ (.head _))))) | exact .tail _ (.tail _ (.tail _ (.tail _ (.tail _ (.tail _ (.head _)))))) | exact .tail _ (.tail _ (.tail _ (.tail _ (.tail _ (.tail _ (.tail _ (.head _))))))) | exact .tail _ (.tail _ (.tail _ (.tail _ (.tail _ (.tail _ (.tail _ (.tail _ (.head _)))))))) | exact .tail _ (.tail _ (.tail _ (.tail _ (.tail _ (.tail _ (.tail _ (.tail _ (.tail _ (.head _)))))))))), Nat.le_of_ble_eq_true rfl⟩, ?_⟩)
        · repeat (first | exact trivial | refine ⟨⟨_, rfl, (by first | exact .of rfl | exact .lit rfl | exact .of (by first | ((exact congrArg (fun z => SV.v (Value.int .i64 z)) hwj))) | exact .lit (by first | ((exact congrArg (fun z => SV.v (Value.int .i64 z)) hwj)))), (by first | exact trivial | exact Nat.le_of_ble_eq_true rfl | exact small1 rfl)⟩, ?_⟩)
        · repeat (first | exact trivial | refine ⟨⟨_, rfl⟩, ?_⟩)
        · repeat (first | exact trivial | refine ⟨.inl ⟨_, rfl, (by first | rfl | ((exact congrArg (fun z => SV.v (Value.int .i64 z)) hwj)))⟩, ?_⟩ | refine ⟨.inr ⟨Nat.le_of_ble_eq_true rfl, rfl, rfl, rfl, rfl⟩, ?_⟩)
    have hgj : (s.chans[k]).m.senders.length ≤ j := by simpa using g
    rw [List.take_of_length_le hgj] at hps
    refine LoopW.mk ⟨{ p : Nat × List (Int × LH Waiting) // p.1 ≤ (s.chans[k]).m.getters.length ∧ pm p.2 = mapOf ((evL evSem 0 s.pure.sems ++ evL evOnce 0 s.pure.onces ++ evL evGroup 0 s.pure.groups ++ evL evBarrier 0 s.pure.barriers ++ evL evChan 0 (s.pure.chans.take k) ++ (s.chans[k]).m.senders.map fun x => (x.t, ⟨8, (k : Int), x.v⟩)) ++ ((s.chans[k]).m.getters.take p.1).map fun x => (x, ⟨9, (k : Int), 0⟩)) },
      fun p => .mk [(1, .p 0 0), (4, .p 1 0), (5, .v (.map (some r2))), (6, .f 170 [(1, 0)]), (133, .v (s.h6.val s.chans.length)), (134, .v (.int .i64 (s.chans.length : Int))), (135, .v (.int .i64 (k : Int))), (23, .v (.int .i64 (k : Int))), (24, .p 2 0), (156, .v ((s.chans[k]).q2.val (s.chans[k]).m.getters.length)), (157, .v (.int .i64 ((s.chans[k]).m.getters.length : Int))), (158, .v (.int .i64 (p.1.1 : Int)))] 3 0 ((2, 119, 5) :: [(0, 41, 9), (1, 147, 1)])
        [((0, 2), .v (s.h2.val s.sems.length)), ((0, 3), .v (s.h3.val s.onces.length)), ((0, 4), .v (s.h4.val s.groups.length)), ((0, 5), .v (s.h5.val s.barriers.length)), ((0, 6), .v (s.h6.val s.chans.length)), ((1, 0), .v (.map (some r)))] [fMW r p.1.2, fO (rW p.1.2), fMap r2 venH os, fO (rI os), fR (stateO s)],
      fun p => (s.chans[k]).m.getters.length - p.1.1, ⟨(0, ps), Nat.zero_le _, by simpa using hps⟩, ?_, ?_⟩
    · refine weak_mk [0, 1, 2, 3, 4] ?_ ?_ ?_ ?_ ?_ rfl rfl
      · repeat (first | exact trivial | refine ⟨⟨_, rfl, (by first | exact .of rfl | exact .lit rfl | exact .of (by first | (rfl)) | exact .lit (by first | (rfl))), (by first | exact trivial | exact Nat.le_of_ble_eq_true rfl | exact small1 rfl)⟩, ?_⟩)
      · repeat (first | exact trivial | refine ⟨⟨(by first | exact .head _ | exact .tail _ (.head _) | exact .tail _ (.tail _ (.head _)) | exact .tail _ (.tail _ (.tail _ (.head _))) | exact .tail _ (.tail _ (.tail _ (.tail _ (.head _)))) | exact .tail _ (.tail _ (.tail _ (.tail _ (.tail _ (.head _))))) | exact .tail _ (.tail _ (.tail _ (.tail _ (.tail _ (.tail _ (.head _)))))) | exact .tail _ (.tail _ (.tail _ (.tail _ (.tail _ (.tail _ (.tail _ (.head _))))))) | exact .tail _ (.tail _ (.tail _ (.tail _ (.tail _ (.tail _ (.tail _ (.tail _ (.head _)))))))) | exact .tail _ (.tail _ (.tail _ (.tail _ (.tail _ (.tail _ (.tail _ (.tail _ (.tail _ (.head _)))))))))), Nat.le_of_ble_eq_true rfl⟩, ?_⟩)
      · repeat (first | exact trivial | refine ⟨⟨_, rfl, (by first | exact .of rfl | exact .lit rfl | exact .of (by first | (rfl)) | exact .lit (by first | (rfl))), (by first | exact trivial | exact Nat.le_of_ble_eq_true rfl | exact small1 rfl)⟩, ?_⟩)
      · repeat (first | exact trivial | refine ⟨⟨_, rfl⟩, ?_⟩)
      · repeat (first | exact trivial | refine ⟨.inl ⟨_, rfl, (by first | rfl | (rfl))⟩, ?_⟩ | refine ⟨.inr ⟨Nat.le_of_ble_eq_true rfl, rfl, rfl, rfl, rfl⟩, ?_⟩)
    rintro ⟨⟨j, ps⟩, hj, hps⟩
    simp only at hj hps
    refine CaseB.mk (fun g => ?_) (fun g => ?_)
    · have hlj : j < (s.chans[k]).m.getters.length := by simpa using g
      have hwj := e_succ j (s.chans[k]).m.getters.length hlj (by simp only [evChan, List.length_append, List.length_map] at hpre; omega)
      have hbnd : ∀ t, ((aget ps t).getD LH.nil).xs.length ≤ 1048576 := fun t => by
        have h1 := pm_len hps t
        simp only [List.length_append, List.length_map, List.length_take] at h1
        have h2 : min j (s.chans[k]).m.getters.length ≤ (s.chans[k]).m.getters.length := Nat.min_le_right _ _
        simp only [evChan, List.length_append, List.length_map] at hpre; omega
      refine stop_idx encInt tabOk rfl rfl rfl rfl rfl ⟨rfl, rfl⟩ (rdVia 4 rfl (.trans (.R_R (stateO_chans s)) (.ofR (chansO_2 _ _ k hlt)))) j rfl (by first | omega | (simp; done) | (simp; omega) | (unfold maxLen; omega) | (unfold maxLen; simp; done) | (unfold maxLen; simp; omega)) (fun ad2 => ?_)
      refine stop_callPGc _ [0, 1] (G := [_, _]) cl170 rfl rfl rfl rfl ⟨rfl, rfl⟩ rfl rfl ⟨rfl, rfl, trivial⟩ ⟨rfl, rfl, rfl, rfl, trivial⟩ (fun A w ga hga hW hblk => wAdd_c _ _ _ _ ga r ps w hblk (hW.atG [0, 1] (G := [_, _]) ⟨rfl, rfl, trivial⟩ rfl ⟨rfl, rfl, rfl, rfl, trivial⟩ [] (Fo := []) trivial rfl) (hW.atG_off (by exact rfl) hga (ix := [0, 1]) (G := [_, _]) ⟨rfl, rfl, trivial⟩ (jx := []) (Fo := []) trivial) (hbnd _)) ?_
      rintro v cs L ⟨rfl, rfl, qs, hqs, rfl⟩
      refine ⟨⟨(j + 1, qs), by omega, ?_⟩, ?_, by simp only; omega⟩
      · rw [hqs, hps, ← mapOf_snoc, List.take_succ_eq_append_getElem hlj, List.map_append, List.map_cons, List.map_nil, List.append_assoc _ _ [_]]
      · refine weak_mk [0, 1, 2, 3, 4] ?_ ?_ ?_ ?_ ?_ rfl rfl
        · repeat (first | exact trivial | refine ⟨⟨_, rfl, (by first | exact .of rfl | exact .lit rfl | exact .of (by first | ((exact congrArg (fun z => SV.v (Value.int .i64 z)) hwj))) | exact .lit (by first | ((exact congrArg (fun z => SV.v (Value.int .i64 z)) hwj)))), (by first | exact trivial | exact Nat.le_of_ble_eq_true rfl | exact small1 rfl)⟩, ?_⟩)
        · repeat (first | exact trivial | refine ⟨⟨(by first | exact .head _ | exact .tail _ (.head _) | exact .tail _ (.tail _ (.head _)) | exact .tail _ (.tail _ (.tail _ (.head _))) | exact .tail _ (.tail _ (.tail _ (.tail _ (.head _)))) | exact .tail _ (.tail _ (.tail _ (.tail _ (.tail _ (.head _))))) | exact .tail _ (.tail _ (.tail _ (.tail _ (.tail _ (.tail _ (.head _)))))) | exact .tail _ (.tail _ (.tail _ (.tail _ (.tail _ (.tail _ (.tail _ (.head _))))))) | exact .tail _ (.tail _ (.tail _ (.tail _ (.tail _ (.tail _ (.tail _ (.tail _ (.head _)))))))) | exact .tail _ (.tail _ (.tail _ (.tail _ (.tail _ (.tail _ (.tail _ (.tail _ (.tail _ (.head _)))))))))), Nat.le_of_ble_eq_true rfl⟩, ?_⟩)
        · repeat (first | exact trivial | refine ⟨⟨_, rfl, (by first | exact .of rfl | exact .lit rfl | exact .of (by first | ((exact congrArg (fun z => SV.v (Value.int .i64 z)) hwj))) | exact .lit (by first | ((exact congrArg (fun z => SV.v (Value.int .i64 z)) hwj)))), (by first | exact trivial | exact Nat.le_of_ble_eq_true rfl | exact small1 rfl)⟩, ?_⟩)
        · repeat (first | exact trivial | refine ⟨⟨_, rfl⟩, ?_⟩)
        · repeat (first | exact trivial | refine ⟨.inl ⟨_, rfl, (by first | rfl | ((exact congrArg (fun z => SV.v (Value.int .i64 z)) hwj)))⟩, ?_⟩ | refine ⟨.inr ⟨Nat.le_of_ble_eq_true rfl, rfl, rfl, rfl, rfl⟩, ?_⟩)
    have hgj : (s.chans[k]).m.getters.length ≤ j := by simpa using g
    rw [List.take_of_length_le hgj] at hps
    refine ⟨⟨(k + 1, ps, os), by omega, ?_, hos⟩, ?_, by simp only; omega⟩
    · have e : evL evSem 0 s.pure.sems ++ evL evOnce 0 s.pure.onces ++ evL evGroup 0 s.pure.groups ++ evL evBarrier 0 s.pure.barriers ++ evL evChan 0 (s.pure.chans.take (k + 1)) = (evL evSem 0 s.pure.sems ++ evL evOnce 0 s.pure.onces ++ evL evGroup 0 s.pure.groups ++ evL evBarrier 0 s.pure.barriers ++ evL evChan 0 (s.pure.chans.take k) ++ (s.chans[k]).m.senders.map fun x => (x.t, ⟨8, (k : Int), x.v⟩)) ++ (s.chans[k]).m.getters.map fun x => (x, ⟨9, (k : Int), 0⟩) := by rw [hsucc]; simp [evChan]
      show pm ps = mapOf _
      rw [e]; exact hps
    · refine weak_mk [0, 1, 2, 3, 4] ?_ ?_ ?_ ?_ ?_ rfl rfl
      · repeat (first | exact trivial | refine ⟨⟨_, rfl, (by first | exact .of rfl | exact .lit rfl | exact .of (by first | ((exact congrArg (fun z => SV.v (Value.int .i64 z)) hw))) | exact .lit (by first | ((exact congrArg (fun z => SV.v (Value.int .i64 z)) hw)))), (by first | exact trivial | exact Nat.le_of_ble_eq_true rfl | exact small1 rfl)⟩, ?_⟩)
      · repeat (first | exact trivial | refine ⟨⟨(by first | exact .head _ | exact .tail _ (.head _) | exact .tail _ (.tail _ (.head _)) | exact .tail _ (.tail _ (.tail _ (.head _))) | exact .tail _ (.tail _ (.tail _ (.tail _ (.head _)))) | exact .tail _ (.tail _ (.tail _ (.tail _ (.tail _ (.head _))))) | exact .tail _ (.tail _ (.tail _ (.tail _ (.tail _ (.tail _ (.head _)))))) | exact .tail _ (.tail _ (.tail _ (.tail _ (.tail _ (.tail _ (.tail _ (.head _))))))) | exact .tail _ (.tail _ (.tail _ (.tail _ (.tail _ (.tail _ (.tail _ (.tail _ (.head _)))))))) | exact .tail _ (.tail _ (.tail _ (.tail _ (.tail _ (.tail _ (.tail _ (.tail _ (.tail _ (.head _)))))))))), Nat.le_of_ble_eq_true rfl⟩, ?_⟩)
      · repeat (first | exact trivial | refine ⟨⟨_, rfl, (by first | exact .of rfl | exact .lit rfl | exact .of (by first | ((exact congrArg (fun z => SV.v (Value.int .i64 z)) hw))) | exact .lit (by first | ((exact congrArg (fun z => SV.v (Value.int .i64 z)) hw)))), (by first | exact trivial | exact Nat.le_of_ble_eq_true rfl | exact small1 rfl)⟩, ?_⟩)
      · repeat (first | exact trivial | refine ⟨⟨_, rfl⟩, ?_⟩)
      · repeat (first | exact trivial | refine ⟨.inl ⟨_, rfl, (by first | rfl | ((exact congrArg (fun z => SV.v (Value.int .i64 z)) hw)))⟩, ?_⟩ | refine ⟨.inr ⟨Nat.le_of_ble_eq_true rfl, rfl, rfl, rfl, rfl⟩, ?_⟩)
  have hge : s.chans.length ≤ k := by simpa using g
  rw [List.take_of_length_le (by rw [len4]; exact hge)] at hps
  exact retw [0, 1, 2, 3] ⟨r, r2, ps, os, rfl, hps, hos, rfl⟩ ⟨.inl ⟨_, rfl, rfl⟩, .inl ⟨_, rfl, rfl⟩, .inl ⟨_, rfl, rfl⟩, .inl ⟨_, rfl, rfl⟩, trivial⟩ rfl ⟨rfl, rfl, rfl, rfl, trivial⟩ (fun _ => rfl)

end Go.Proofs.YtklclbcckjhdpaaGreat

namespace Go.Proofs.YtklclbcckjhdpaaGreat

open Go Go.Sx Go.RowKit

def within (xs : List Int) (lo hi : Int) : Prop := xs.length ≤ 3 ∧ ∀ x ∈ xs, lo ≤ x ∧ x ≤ hi

def Prog.shared (p : Prog) (k : Int) : Int := if k = 1 then 1 else if k = 2 ∨ k = 3 then p.sems.length else if k = 4 then 3 else if k = 5 ∨ k = 6 then p.groups.length else if k = 7 then p.barriers.length else p.rooms.length

def Prog.argOk (p : Prog) (o : Op) : Prop := if o.kind = 2 ∨ o.kind = 3 then 1 ≤ o.arg ∧ o.arg ≤ p.sems.getD o.on.toNat 0 else if o.kind = 5 then -9 ≤ o.arg ∧ o.arg ≤ 9 else if o.kind = 1 ∨ o.kind = 4 ∨ o.kind = 8 then isValue o.arg = true else o.arg = 0

def OpOk (p : Prog) (o : Op) : Prop := 1 ≤ o.kind ∧ o.kind ≤ 10 ∧ 0 ≤ o.on ∧ o.on < p.shared o.kind ∧ p.argOk o

structure ProgOk (p : Prog) : Prop where
  sems : within p.sems 1 9
  groups : within p.groups 0 9
  barriers : within p.barriers 1 6
  rooms : within p.rooms 0 4
  n1 : 1 ≤ p.threads.length
  n4 : p.threads.length ≤ 4
  ops : ∀ t ∈ p.threads, t.length ≤ 8 ∧ ∀ o ∈ t, OpOk p o

theorem opOk1 {p : Prog} {o : Op} (h : o.kind = 1) : OpOk p o ↔ o.on = 0 ∧ isValue o.arg = true := by
  simp only [OpOk, Prog.shared, Prog.argOk, h]; by_cases hv : isValue o.arg = true <;> simp [hv] <;> omega

theorem opOk2 {p : Prog} {o : Op} (h : o.kind = 2 ∨ o.kind = 3) : OpOk p o ↔ (0 ≤ o.on ∧ o.on < p.sems.length) ∧ 1 ≤ o.arg ∧ o.arg ≤ p.sems.getD o.on.toNat 0 := by
  rcases h with h | h <;> simp only [OpOk, Prog.shared, Prog.argOk, h] <;> simp <;> omega

theorem opOk4 {p : Prog} {o : Op} (h : o.kind = 4) : OpOk p o ↔ 0 ≤ o.on ∧ o.on ≤ 2 ∧ isValue o.arg = true := by
  simp only [OpOk, Prog.shared, Prog.argOk, h]; by_cases hv : isValue o.arg = true <;> simp [hv] <;> omega

theorem opOk5 {p : Prog} {o : Op} (h : o.kind = 5) : OpOk p o ↔ (0 ≤ o.on ∧ o.on < p.groups.length) ∧ -9 ≤ o.arg ∧ o.arg ≤ 9 := by
  simp only [OpOk, Prog.shared, Prog.argOk, h]; simp; omega

theorem opOk6 {p : Prog} {o : Op} (h : o.kind = 6) : OpOk p o ↔ (0 ≤ o.on ∧ o.on < p.groups.length) ∧ o.arg = 0 := by
  simp only [OpOk, Prog.shared, Prog.argOk, h]; simp; omega

theorem opOk7 {p : Prog} {o : Op} (h : o.kind = 7) : OpOk p o ↔ (0 ≤ o.on ∧ o.on < p.barriers.length) ∧ o.arg = 0 := by
  simp only [OpOk, Prog.shared, Prog.argOk, h]; simp; omega

theorem opOk8 {p : Prog} {o : Op} (h : o.kind = 8) : OpOk p o ↔ (0 ≤ o.on ∧ o.on < p.rooms.length) ∧ isValue o.arg = true := by
  simp only [OpOk, Prog.shared, Prog.argOk, h]; by_cases hv : isValue o.arg = true <;> simp [hv] <;> omega

theorem opOk9 {p : Prog} {o : Op} (h : o.kind = 9 ∨ o.kind = 10) : OpOk p o ↔ (0 ≤ o.on ∧ o.on < p.rooms.length) ∧ o.arg = 0 := by
  rcases h with h | h <;> simp only [OpOk, Prog.shared, Prog.argOk, h] <;> simp <;> omega

theorem opOk0 {p : Prog} {o : Op} (h : o.kind < 1 ∨ 10 < o.kind) : ¬ OpOk p o := fun e => by
  obtain ⟨h1, h2, _⟩ := e; omega

theorem tno {P : Prop} (h : ¬ P) : false = true ↔ P := ⟨fun e => (by cases e), fun e => (h e).elim⟩

theorem tyes {P : Prop} (h : P) : true = true ↔ P := ⟨fun _ => h, fun _ => rfl⟩

/-- What a function that tells returns: a bool, true if and only if P. -/
abbrev Tells (w : World) (P : Prop) : Ending → World → Prop := Ret w fun v L => ∃ b : Bool, v = .bool b ∧ (b = true ↔ P) ∧ L = []

set_option maxRecDepth 100000 in
theorem indexFunc_c {fv : FuncId} {cap : Array Value} {G : List Fct} {q : Int → Bool} (hcl : callable Tryz.prog fv = true) (hc : ∀ x w, At w [fB true G] → Calls Tryz.prog fv ([Value.int .i64 x] ++ cap.toList).toArray w (Ret w fun v L => v = .bool (q x) ∧ L = []))
    (i : Sl) (xs : List Int) (w : World) (h : At w [slo i cInt 1 xs, fB true G]) (hb : xs.length ≤ 4294967296) :
    Calls Tryz.prog 202 #[i.val xs.length, .func (.func fv) #[] cap] w (Ret w fun v L => ∃ k : Int, v = .int .i64 k ∧ (0 ≤ k ↔ ∃ x ∈ xs, q x = true) ∧ L = []) := by
  refine calls2 Tryz.func202 rfl tabOk w _ rfl _ rfl _ h ⟨rfl, rfl, rfl, rfl, trivial⟩ _ _ (by decide) ?_
  refine LoopW.mk ⟨{ k : Nat // k ≤ xs.length ∧ ∀ x ∈ xs.take k, ¬ q x = true },
    fun p => .mk [(0, .v (i.val xs.length)), (1, .v (.func (.func fv) #[] cap)), (7, .v (.int .i64 xs.length)), (8, .v (.int .i64 p.1))] 0 0 [] [] [slo i cInt 1 xs, fB true G],
    fun p => xs.length - p.1, ⟨0, Nat.zero_le _, by simp⟩, ?_, ?_⟩
  · refine weak_mk [0, 1] ?_ ?_ ?_ ?_ ?_ rfl rfl
    · repeat (first | exact trivial | refine ⟨⟨_, rfl, (by first | exact .of rfl | exact .lit rfl | exact .of (by first | (rfl)) | exact .lit (by first | (rfl))), (by first | exact trivial | exact Nat.le_of_ble_eq_true rfl)⟩, ?_⟩)
    · repeat (first | exact trivial | refine ⟨⟨(by first | exact .head _ | exact .tail _ (.head _) | exact .tail _ (.tail _ (.head _)) | exact .tail _ (.tail _ (.tail _ (.head _))) | exact .tail _ (.tail _ (.tail _ (.tail _ (.head _)))) | exact .tail _ (.tail _ (.tail _ (.tail _ (.tail _ (.head _))))) | exact .tail _ (.tail _ (.tail _ (.tail _ (.tail _ (.tail _ (.head _)))))) | exact .tail _ (.tail _ (.tail _ (.tail _ (.tail _ (.tail _ (.tail _ (.head _))))))) | exact .tail _ (.tail _ (.tail _ (.tail _ (.tail _ (.tail _ (.tail _ (.tail _ (.head _)))))))) | exact .tail _ (.tail _ (.tail _ (.tail _ (.tail _ (.tail _ (.tail _ (.tail _ (.tail _ (.head _)))))))))), Nat.le_of_ble_eq_true rfl⟩, ?_⟩)
    · repeat (first | exact trivial | refine ⟨⟨_, rfl, (by first | exact .of rfl | exact .lit rfl | exact .of (by first | (rfl)) | exact .lit (by first | (rfl))), (by first | exact trivial | exact Nat.le_of_ble_eq_true rfl)⟩, ?_⟩)
    · repeat (first | exact trivial | refine ⟨⟨_, rfl⟩, ?_⟩)
    · repeat (first | exact trivial | refine ⟨.inl ⟨_, rfl, (by first | rfl | (rfl))⟩, ?_⟩ | refine ⟨.inr ⟨Nat.le_of_ble_eq_true rfl, rfl, rfl, rfl, rfl⟩, ?_⟩)
  · rintro ⟨k, hk, he⟩
    refine CaseB.mk (fun h => ?_) (fun h => ?_)
    · have hlt : k < xs.length := by simpa using h
      refine stop_idx encInt tabOk rfl rfl rfl rfl rfl ⟨rfl, rfl⟩ (by first | exact rdAt 0 rfl | exact rdOwnAt 0 rfl | exact rdAt 1 rfl | exact rdOwnAt 1 rfl | exact rdAt 2 rfl | exact rdOwnAt 2 rfl | exact rdAt 3 rfl | exact rdOwnAt 3 rfl | exact rdAt 4 rfl | exact rdOwnAt 4 rfl | exact rdAt 5 rfl | exact rdOwnAt 5 rfl | exact rdAt 6 rfl | exact rdOwnAt 6 rfl | exact rdAt 7 rfl | exact rdOwnAt 7 rfl | exact rdAt 8 rfl | exact rdOwnAt 8 rfl | exact rdAt 9 rfl | exact rdOwnAt 9 rfl | exact rdAt 10 rfl | exact rdOwnAt 10 rfl | exact rdAt 11 rfl | exact rdOwnAt 11 rfl | exact rdAt 12 rfl | exact rdOwnAt 12 rfl | exact rdAt 13 rfl | exact rdOwnAt 13 rfl | exact rdAt 14 rfl | exact rdOwnAt 14 rfl | exact rdAt 15 rfl | exact rdOwnAt 15 rfl | exact rdAt 16 rfl | exact rdOwnAt 16 rfl | exact rdAt 17 rfl | exact rdOwnAt 17 rfl | exact rdAt 18 rfl | exact rdOwnAt 18 rfl | exact rdAt 19 rfl | exact rdOwnAt 19 rfl | exact rdAt 20 rfl | exact rdOwnAt 20 rfl | exact rdAt 21 rfl | exact rdOwnAt 21 rfl | exact rdAt 22 rfl | exact rdOwnAt 22 rfl | exact rdAt 23 rfl | exact rdOwnAt 23 rfl) k rfl (by first | omega | (simp; done) | (simp; omega) | (unfold maxLen; omega) | (unfold maxLen; simp; done) | (unfold maxLen; simp; omega)) (fun ad => ?_)
      refine stop_callV _ hcl rfl rfl rfl rfl ⟨rfl, rfl⟩ (fun A w hW => hc _ w ⟨hW.get 1 rfl (.refl _), trivial⟩) ?_
      rintro v L ⟨rfl, rfl⟩
      refine CaseB.mk (fun h => ?_) (fun h => ?_)
      · exact retw [] ⟨(k : Int), rfl, ⟨fun _ => ⟨xs[k], List.getElem_mem hlt, h⟩, fun _ => Int.natCast_nonneg k⟩, rfl⟩ trivial rfl trivial (fun _ => rfl)
      · have hw := wrapN k _ hlt hb
        refine ⟨⟨k + 1, by omega, fun x hx => ?_⟩, ?_, by simp; omega⟩
        · rw [List.take_succ_eq_append_getElem hlt] at hx
          rcases List.mem_append.1 hx with hx | hx
          · exact he x hx
          · simp at hx; subst hx; simpa using h
        · refine weak_mk [0, 1] ?_ ?_ ?_ ?_ ?_ rfl rfl
          · repeat (first | exact trivial | refine ⟨⟨_, rfl, (by first | exact .of rfl | exact .lit rfl | exact .of (by first | ((exact congrArg (fun z => SV.v (Value.int .i64 z)) hw))) | exact .lit (by first | ((exact congrArg (fun z => SV.v (Value.int .i64 z)) hw)))), (by first | exact trivial | exact Nat.le_of_ble_eq_true rfl)⟩, ?_⟩)
          · repeat (first | exact trivial | refine ⟨⟨(by first | exact .head _ | exact .tail _ (.head _) | exact .tail _ (.tail _ (.head _)) | exact .tail _ (.tail _ (.tail _ (.head _))) | exact .tail _ (.tail _ (.tail _ (.tail _ (.head _)))) | exact .tail _ (.tail _ (.tail _ (.tail _ (.tail _ (.head _))))) | exact .tail _ (.tail _ (.tail _ (.tail _ (.tail _ (.tail _ (.head _)))))) | exact .tail _ (.tail _ (.tail _ (.tail _ (.tail _ (.tail _ (.tail _ (.head _))))))) | exact .tail _ (.tail _ (.tail _ (.tail _ (.tail _ (.tail _ (.tail _ (.tail _ (.head _)))))))) | exact .tail _ (.tail _ (.tail _ (.tail _ (.tail _ (.tail _ (.tail _ (.tail _ (.tail _ (.head _)))))))))), Nat.le_of_ble_eq_true rfl⟩, ?_⟩)
          · repeat (first | exact trivial | refine ⟨⟨_, rfl, (by first | exact .of rfl | exact .lit rfl | exact .of (by first | ((exact congrArg (fun z => SV.v (Value.int .i64 z)) hw))) | exact .lit (by first | ((exact congrArg (fun z => SV.v (Value.int .i64 z)) hw)))), (by first | exact trivial | exact Nat.le_of_ble_eq_true rfl)⟩, ?_⟩)
          · repeat (first | exact trivial | refine ⟨⟨_, rfl⟩, ?_⟩)
          · repeat (first | exact trivial | refine ⟨.inl ⟨_, rfl, (by first | rfl | ((exact congrArg (fun z => SV.v (Value.int .i64 z)) hw)))⟩, ?_⟩ | refine ⟨.inr ⟨Nat.le_of_ble_eq_true rfl, rfl, rfl, rfl, rfl⟩, ?_⟩)
    · have hge : xs.length ≤ k := by simpa using h
      rw [List.take_of_length_le hge] at he
      exact retw [] ⟨-1, rfl, ⟨fun h => by omega, fun ⟨x, hx, hq⟩ => (he x hx hq).elim⟩, rfl⟩ trivial rfl trivial (fun _ => rfl)

set_option maxRecDepth 100000 in
theorem containsFunc_c {fv : FuncId} {cap : Array Value} {G : List Fct} {q : Int → Bool} (hcl : callable Tryz.prog fv = true) (hc : ∀ x w, At w [fB true G] → Calls Tryz.prog fv ([Value.int .i64 x] ++ cap.toList).toArray w (Ret w fun v L => v = .bool (q x) ∧ L = []))
    (i : Sl) (xs : List Int) (w : World) (h : At w [slo i cInt 1 xs, fB true G]) (hb : xs.length ≤ 4294967296) :
    Calls Tryz.prog 171 #[i.val xs.length, .func (.func fv) #[] cap] w (Tells w (∃ x ∈ xs, q x = true)) := by
  refine calls2 Tryz.func171 rfl tabOk w _ rfl _ rfl _ h ⟨rfl, rfl, rfl, rfl, trivial⟩ _ _ (by decide) ?_
  refine stop_call _ cl202 rfl rfl rfl rfl ⟨rfl, rfl⟩ (fun A w hW => indexFunc_c hcl hc i xs w ⟨hW.get 0 rfl (.refl _), hW.get 1 rfl (.refl _), trivial⟩ hb) ?_
  rintro v L ⟨k, rfl, hk, rfl⟩
  exact retw [] ⟨_, rfl, by simpa using hk, rfl⟩ trivial rfl trivial (fun _ => rfl)

abbrev varI2 (g : Nat) (t : Int) : Fct := fVar g 3 [.int .i64 t]

set_option maxRecDepth 100000 in
theorem within1_c (x lo hi : Int) (g1 g2 : Nat) (w : World) (h : At w [fB true [varI2 g1 lo, varI2 g2 hi]]) :
    Calls Tryz.prog 200 #[.int .i64 x, .pointer (some ⟨g1, 0, none⟩), .pointer (some ⟨g2, 0, none⟩)] w (Ret w fun v L => v = .bool (decide (x < lo) || decide (hi < x)) ∧ L = []) := by
  have h' : At w [varI2 g1 lo, varI2 g2 hi] := ⟨fB_mem h.1 (by simp), fB_mem h.1 (by simp), trivial⟩
  refine calls3 Tryz.func200 rfl tabOk w _ rfl _ rfl _ h' ⟨rfl, rfl, rfl, rfl, trivial⟩ _ _ _ (by decide) ?_
  refine stop_loadV 0 tabOk rfl rfl rfl rfl rfl ⟨rfl, rfl⟩ ?_
  refine CaseB.mk (fun g => ?_) (fun g => ?_)
  · refine retw [] ⟨?_, rfl⟩ trivial rfl trivial (fun _ => rfl)
    have : x < lo := by simpa using g
    simp [this]
  · refine stop_loadV 1 tabOk rfl rfl rfl rfl rfl ⟨rfl, rfl⟩ ?_
    refine retw [] ⟨?_, rfl⟩ trivial rfl trivial (fun _ => rfl)
    have : ¬ x < lo := by simpa using g
    simp [this]

set_option maxRecDepth 100000 in
theorem within_c (i : Sl) (xs : List Int) (lo hi : Int) (w : World) (h : At w [slo i cInt 1 xs]) (hb : xs.length ≤ 4294967296) :
    Calls Tryz.prog 167 #[i.val xs.length, .int .i64 lo, .int .i64 hi] w (Tells w (within xs lo hi)) := by
  refine calls3 Tryz.func167 rfl tabOk w _ rfl _ rfl _ h ⟨rfl, rfl, trivial⟩ _ _ _ (by decide) ?_
  refine CaseB.mk (fun g => ?_) (fun g => ?_)
  · have hl : xs.length ≤ 3 := by simp at g; omega
    refine stop_call _ cl171 rfl rfl rfl rfl ⟨rfl, rfl⟩ (fun A w hW => containsFunc_c (fv := 200) (q := fun x => decide (x < lo) || decide (hi < x)) (G := [varI2 (A 0) lo, varI2 (A 1) hi]) cl200 (fun x w h => within1_c x lo hi _ _ w h) i xs w ⟨hW.get 0 rfl (.refl _), fB_two (hW.var rfl rfl) (hW.var rfl rfl), trivial⟩ hb) ?_
    rintro v L ⟨b, rfl, hbb, rfl⟩
    refine retw [] ⟨_, rfl, ?_, rfl⟩ trivial rfl trivial (fun _ => rfl)
    simp only [Bool.not_eq_true', ← Bool.not_eq_true, hbb, within]
    constructor
    · intro hn
      refine ⟨hl, fun x hx => ?_⟩
      rcases Int.lt_or_le x lo with h1 | h1
      · exact (hn ⟨x, hx, by simp [h1]⟩).elim
      · rcases Int.lt_or_le hi x with h2 | h2
        · exact (hn ⟨x, hx, by simp [h2]⟩).elim
        · exact ⟨h1, h2⟩
    · rintro ⟨_, hx⟩ ⟨x, hx', hq⟩
      have := hx x hx'
      simp at hq
      omega
  · have hl : ¬ xs.length ≤ 3 := by simp at g; omega
    exact retw [] ⟨_, rfl, tno fun h => hl h.1, rfl⟩ trivial rfl trivial (fun _ => rfl)

set_option maxRecDepth 100000 in
theorem opOn_c (i : Sl) (n : Nat) (o : Op) (g : Nat) (w : World) (h : At w [fVar g 57 (cOp o)]) :
    Calls Tryz.prog 201 #[i.val n, .pointer (some ⟨g, 0, none⟩)] w (Tells w (0 ≤ o.on ∧ o.on < n)) := by
  refine calls2 Tryz.func201 rfl tabOk w _ rfl _ rfl _ h ⟨rfl, rfl, trivial⟩ _ _ (by decide) ?_
  refine stop_fldW tabOk rfl rfl rfl rfl ⟨rfl, rfl⟩ ?_
  refine stop_loadF 0 tabOk rfl rfl rfl rfl rfl ⟨rfl, rfl⟩ ?_
  refine CaseB.mk (fun g1 => ?_) (fun g1 => ?_)
  · refine stop_fldW tabOk rfl rfl rfl rfl ⟨rfl, rfl⟩ ?_
    refine stop_loadF 0 tabOk rfl rfl rfl rfl rfl ⟨rfl, rfl⟩ ?_
    refine retw [] ⟨_, rfl, ?_, rfl⟩ trivial rfl trivial (fun _ => rfl)
    have : 0 ≤ o.on := by simpa using g1
    simp [this]
  · have : ¬ 0 ≤ o.on := by simpa using g1
    exact retw [] ⟨_, rfl, tno fun h => this h.1, rfl⟩ trivial rfl trivial (fun _ => rfl)

end Go.Proofs.YtklclbcckjhdpaaGreat

namespace Go.Proofs.YtklclbcckjhdpaaGreat

open Go Go.Sx Go.RowKit

structure Chan.Valid (m : Chan) : Prop where
  r0 : 0 ≤ m.room
  r1 : m.room ≤ 4
  it : (m.items.length : Int) ≤ m.room
  iv : ∀ x ∈ m.items, isValue x = true
  sv : ∀ l ∈ m.senders, isValue l.v = true
  di : distinct m.threads = true
  se : m.senders ≠ [] → (m.items.length : Int) = m.room ∧ m.getters = [] ∧ m.closed = false
  ge : m.getters ≠ [] → m.items = [] ∧ m.closed = false

instance (m : Chan) : Decidable m.Valid :=
  decidable_of_iff ((0 ≤ m.room ∧ m.room ≤ 4 ∧ (m.items.length : Int) ≤ m.room) ∧ (∀ x ∈ m.items, isValue x = true) ∧ (∀ l ∈ m.senders, isValue l.v = true) ∧ distinct m.threads = true ∧ (m.senders ≠ [] → (m.items.length : Int) = m.room ∧ m.getters = [] ∧ m.closed = false) ∧ (m.getters ≠ [] → m.items = [] ∧ m.closed = false))
    ⟨fun ⟨⟨a, b, c⟩, d, e, f, g, h⟩ => ⟨a, b, c, d, e, f, g, h⟩, fun ⟨a, b, c, d, e, f, g, h⟩ => ⟨⟨a, b, c⟩, d, e, f, g, h⟩⟩

def Chan.valid (m : Chan) : Bool := decide m.Valid

theorem Chan.invalid {m : Chan} (h : ¬ m.Valid) : Value.bool false = Value.bool m.valid := by rw [Chan.valid, decide_eq_false h]

theorem Chan.isvalid {m : Chan} (h : m.Valid) : Value.bool true = Value.bool m.valid := by rw [Chan.valid, decide_eq_true h]

theorem all_take_succ {α : Type} {p : α → Prop} {xs : List α} {k : Nat} (hk : k < xs.length) (h : ∀ x ∈ xs.take k, p x) (h1 : p xs[k]) : ∀ x ∈ xs.take (k + 1), p x := by
  intro x hx
  rw [List.take_succ_eq_append_getElem hk] at hx
  rcases List.mem_append.1 hx with hx | hx
  · exact h x hx
  · simp at hx; subst hx; exact h1

theorem len_pos {α : Type} {xs : List α} : decide ((xs.length : Int) > 0) = true ↔ xs ≠ [] := by
  cases xs <;> simp

set_option maxHeartbeats 2000000 in
set_option maxRecDepth 100000 in
theorem valid_c (m : Chan) (i s g : Sl) (w : World) (h : At w [slo i cInt 1 m.items, slo s cLet 2 m.senders, slo g cInt 1 m.getters]) (hb : m.small) :
    Calls Tryz.prog 104 #[chanV m i s g] w (Ret w fun v L => v = .bool m.valid ∧ L = []) := by
  obtain ⟨b1, b2, b3⟩ := hb
  have bT : m.threads.length ≤ 8589934592 := by simp [Chan.threads]; omega
  have hno : ∀ {P : Prop}, ¬ P → (m.Valid → P) → ∀ A, resV A [SV.lit false] = Value.bool m.valid := fun h1 h2 _ => Chan.invalid fun hv => h1 (h2 hv)
  refine calls1 Tryz.func104 rfl tabOk w _ rfl _ rfl _ h ⟨rfl, rfl, rfl, rfl, rfl, rfl, trivial⟩ _ (by decide) ?_
  refine CaseB.mk (fun h1 => ?_) (fun h1 => ?_)
  · exact retw [] ⟨rfl, rfl⟩ trivial rfl trivial (hno (by simp at h1; omega) Chan.Valid.r0)
  · have r0 : 0 ≤ m.room := by simp at h1; omega
    refine CaseB.mk (fun h2 => ?_) (fun h2 => ?_)
    · exact retw [] ⟨rfl, rfl⟩ trivial rfl trivial (hno (by simp at h2; omega) Chan.Valid.r1)
    · have r1 : m.room ≤ 4 := by simp at h2; omega
      refine CaseB.mk (fun h3 => ?_) (fun h3 => ?_)
      · exact retw [] ⟨rfl, rfl⟩ trivial rfl trivial (hno (by simp at h3; omega) Chan.Valid.it)
      · have it : (m.items.length : Int) ≤ m.room := by simp at h3; omega
        refine LoopW.mk ⟨{ k : Nat // k ≤ m.items.length ∧ ∀ x ∈ m.items.take k, isValue x = true },
          fun p => .mk [(1, .p 0 0), (24, .v (i.val m.items.length)), (25, .v (.int .i64 m.items.length)), (26, .v (.int .i64 p.1))] 1 0 [(0, 119, 5)] [((0, 0), .v (.int .i64 m.room)), ((0, 1), .v (i.val m.items.length)), ((0, 2), .v (s.val m.senders.length)), ((0, 3), .v (g.val m.getters.length)), ((0, 4), .v (.bool m.closed))] [slo i cInt 1 m.items, slo s cLet 2 m.senders, slo g cInt 1 m.getters],
          fun p => m.items.length - p.1, ⟨0, Nat.zero_le _, by simp⟩, ?_, ?_⟩
        · refine weak_mk [0, 1, 2] ?_ ?_ ?_ ?_ ?_ rfl rfl
          · repeat (first | exact trivial | refine ⟨⟨_, rfl, (by first | exact .of rfl | exact .lit rfl | exact .of (by first | (rfl)) | exact .lit (by first | (rfl))), (by first | exact trivial | exact Nat.le_of_ble_eq_true rfl)⟩, ?_⟩)
          · repeat (first | exact trivial | refine ⟨⟨(by first | exact .head _ | exact .tail _ (.head _) | exact .tail _ (.tail _ (.head _)) | exact .tail _ (.tail _ (.tail _ (.head _))) | exact .tail _ (.tail _ (.tail _ (.tail _ (.head _)))) | exact .tail _ (.tail _ (.tail _ (.tail _ (.tail _ (.head _))))) | exact .tail _ (.tail _ (.tail _ (.tail _ (.tail _ (.tail _ (.head _)))))) | exact .tail _ (.tail _ (.tail _ (.tail _ (.tail _ (.tail _ (.tail _ (.head _))))))) | exact .tail _ (.tail _ (.tail _ (.tail _ (.tail _ (.tail _ (.tail _ (.tail _ (.head _)))))))) | exact .tail _ (.tail _ (.tail _ (.tail _ (.tail _ (.tail _ (.tail _ (.tail _ (.tail _ (.head _)))))))))), Nat.le_of_ble_eq_true rfl⟩, ?_⟩)
          · repeat (first | exact trivial | refine ⟨⟨_, rfl, (by first | exact .of rfl | exact .lit rfl | exact .of (by first | (rfl)) | exact .lit (by first | (rfl))), (by first | exact trivial | exact Nat.le_of_ble_eq_true rfl)⟩, ?_⟩)
          · repeat (first | exact trivial | refine ⟨⟨_, rfl⟩, ?_⟩)
          · repeat (first | exact trivial | refine ⟨.inl ⟨_, rfl, (by first | rfl | (rfl))⟩, ?_⟩ | refine ⟨.inr ⟨Nat.le_of_ble_eq_true rfl, rfl, rfl, rfl, rfl⟩, ?_⟩)
        · rintro ⟨k, hk, ha⟩
          refine CaseB.mk (fun h => ?_) (fun h => ?_)
          · have hlt : k < m.items.length := by simpa using h
            refine stop_idx encInt tabOk rfl rfl rfl rfl rfl ⟨rfl, rfl⟩ (by first | exact rdAt 0 rfl | exact rdOwnAt 0 rfl | exact rdAt 1 rfl | exact rdOwnAt 1 rfl | exact rdAt 2 rfl | exact rdOwnAt 2 rfl | exact rdAt 3 rfl | exact rdOwnAt 3 rfl | exact rdAt 4 rfl | exact rdOwnAt 4 rfl | exact rdAt 5 rfl | exact rdOwnAt 5 rfl | exact rdAt 6 rfl | exact rdOwnAt 6 rfl | exact rdAt 7 rfl | exact rdOwnAt 7 rfl | exact rdAt 8 rfl | exact rdOwnAt 8 rfl | exact rdAt 9 rfl | exact rdOwnAt 9 rfl | exact rdAt 10 rfl | exact rdOwnAt 10 rfl | exact rdAt 11 rfl | exact rdOwnAt 11 rfl | exact rdAt 12 rfl | exact rdOwnAt 12 rfl | exact rdAt 13 rfl | exact rdOwnAt 13 rfl | exact rdAt 14 rfl | exact rdOwnAt 14 rfl | exact rdAt 15 rfl | exact rdOwnAt 15 rfl | exact rdAt 16 rfl | exact rdOwnAt 16 rfl | exact rdAt 17 rfl | exact rdOwnAt 17 rfl | exact rdAt 18 rfl | exact rdOwnAt 18 rfl | exact rdAt 19 rfl | exact rdOwnAt 19 rfl | exact rdAt 20 rfl | exact rdOwnAt 20 rfl | exact rdAt 21 rfl | exact rdOwnAt 21 rfl | exact rdAt 22 rfl | exact rdOwnAt 22 rfl | exact rdAt 23 rfl | exact rdOwnAt 23 rfl) k rfl (by first | omega | (simp; done) | (simp; omega) | (unfold maxLen; omega) | (unfold maxLen; simp; done) | (unfold maxLen; simp; omega)) (fun ad => ?_)
            refine stop_call _ cl106 rfl rfl rfl rfl ⟨rfl, rfl⟩ (fun A w hW => isValue_c _ w) ?_
            rintro v L ⟨rfl, rfl⟩
            refine CaseB.mk (fun h => ?_) (fun h => ?_)
            · exact retw [] ⟨rfl, rfl⟩ trivial rfl trivial (hno (by simpa using h) (fun hv => hv.iv _ (List.getElem_mem hlt)))
            · have hw := wrapN k _ hlt b1
              refine ⟨⟨k + 1, by omega, all_take_succ hlt ha (by simpa using h)⟩, ?_, by simp; omega⟩
              refine weak_mk [0, 1, 2] ?_ ?_ ?_ ?_ ?_ rfl rfl
              · repeat (first | exact trivial | refine ⟨⟨_, rfl, (by first | exact .of rfl | exact .lit rfl | exact .of (by first | ((exact congrArg (fun z => SV.v (Value.int .i64 z)) hw))) | exact .lit (by first | ((exact congrArg (fun z => SV.v (Value.int .i64 z)) hw)))), (by first | exact trivial | exact Nat.le_of_ble_eq_true rfl)⟩, ?_⟩)
              · repeat (first | exact trivial | refine ⟨⟨(by first | exact .head _ | exact .tail _ (.head _) | exact .tail _ (.tail _ (.head _)) | exact .tail _ (.tail _ (.tail _ (.head _))) | exact .tail _ (.tail _ (.tail _ (.tail _ (.head _)))) | exact .tail _ (.tail _ (.tail _ (.tail _ (.tail _ (.head _))))) | exact .tail _ (.tail _ (.tail _ (.tail _ (.tail _ (.tail _ (.head _)))))) | exact .tail _ (.tail _ (.tail _ (.tail _ (.tail _ (.tail _ (.tail _ (.head _))))))) | exact .tail _ (.tail _ (.tail _ (.tail _ (.tail _ (.tail _ (.tail _ (.tail _ (.head _)))))))) | exact .tail _ (.tail _ (.tail _ (.tail _ (.tail _ (.tail _ (.tail _ (.tail _ (.tail _ (.head _)))))))))), Nat.le_of_ble_eq_true rfl⟩, ?_⟩)
              · repeat (first | exact trivial | refine ⟨⟨_, rfl, (by first | exact .of rfl | exact .lit rfl | exact .of (by first | ((exact congrArg (fun z => SV.v (Value.int .i64 z)) hw))) | exact .lit (by first | ((exact congrArg (fun z => SV.v (Value.int .i64 z)) hw)))), (by first | exact trivial | exact Nat.le_of_ble_eq_true rfl)⟩, ?_⟩)
              · repeat (first | exact trivial | refine ⟨⟨_, rfl⟩, ?_⟩)
              · repeat (first | exact trivial | refine ⟨.inl ⟨_, rfl, (by first | rfl | ((exact congrArg (fun z => SV.v (Value.int .i64 z)) hw)))⟩, ?_⟩ | refine ⟨.inr ⟨Nat.le_of_ble_eq_true rfl, rfl, rfl, rfl, rfl⟩, ?_⟩)
          · have hge : m.items.length ≤ k := by simpa using h
            rw [List.take_of_length_le hge] at ha
            refine LoopW.mk ⟨{ k : Nat // k ≤ m.senders.length ∧ ∀ x ∈ m.senders.take k, isValue x.v = true },
              fun p => .mk [(1, .p 0 0), (35, .v (s.val m.senders.length)), (36, .v (.int .i64 m.senders.length)), (37, .v (.int .i64 p.1))] 1 0 [(0, 119, 5)] [((0, 0), .v (.int .i64 m.room)), ((0, 1), .v (i.val m.items.length)), ((0, 2), .v (s.val m.senders.length)), ((0, 3), .v (g.val m.getters.length)), ((0, 4), .v (.bool m.closed))] [slo i cInt 1 m.items, slo s cLet 2 m.senders, slo g cInt 1 m.getters],
              fun p => m.senders.length - p.1, ⟨0, Nat.zero_le _, by simp⟩, ?_, ?_⟩
            · refine weak_mk [0, 1, 2] ?_ ?_ ?_ ?_ ?_ rfl rfl
              · repeat (first | exact trivial | refine ⟨⟨_, rfl, (by first | exact .of rfl | exact .lit rfl | exact .of (by first | (rfl)) | exact .lit (by first | (rfl))), (by first | exact trivial | exact Nat.le_of_ble_eq_true rfl)⟩, ?_⟩)
              · repeat (first | exact trivial | refine ⟨⟨(by first | exact .head _ | exact .tail _ (.head _) | exact .tail _ (.tail _ (.head _)) | exact .tail _ (.tail _ (.tail _ (.head _))) | exact .tail _ (.tail _ (.tail _ (.tail _ (.head _)))) | exact .tail _ (.tail _ (.tail _ (.tail _ (.tail _ (.head _))))) | exact .tail _ (.tail _ (.tail _ (.tail _ (.tail _ (.tail _ (.head _)))))) | exact .tail _ (.tail _ (.tail _ (.tail _ (.tail _ (.tail _ (.tail _ (.head _))))))) | exact .tail _ (.tail _ (.tail _ (.tail _ (.tail _ (.tail _ (.tail _ (.tail _ (.head _)))))))) | exact .tail _ (.tail _ (.tail _ (.tail _ (.tail _ (.tail _ (.tail _ (.tail _ (.tail _ (.head _)))))))))), Nat.le_of_ble_eq_true rfl⟩, ?_⟩)
              · repeat (first | exact trivial | refine ⟨⟨_, rfl, (by first | exact .of rfl | exact .lit rfl | exact .of (by first | (rfl)) | exact .lit (by first | (rfl))), (by first | exact trivial | exact Nat.le_of_ble_eq_true rfl)⟩, ?_⟩)
              · repeat (first | exact trivial | refine ⟨⟨_, rfl⟩, ?_⟩)
              · repeat (first | exact trivial | refine ⟨.inl ⟨_, rfl, (by first | rfl | (rfl))⟩, ?_⟩ | refine ⟨.inr ⟨Nat.le_of_ble_eq_true rfl, rfl, rfl, rfl, rfl⟩, ?_⟩)
            · rintro ⟨k, hk, hs⟩
              refine CaseB.mk (fun h => ?_) (fun h => ?_)
              · have hlt : k < m.senders.length := by simpa using h
                refine stop_idx encLet tabOk rfl rfl rfl rfl rfl ⟨rfl, rfl⟩ (by first | exact rdAt 0 rfl | exact rdOwnAt 0 rfl | exact rdAt 1 rfl | exact rdOwnAt 1 rfl | exact rdAt 2 rfl | exact rdOwnAt 2 rfl | exact rdAt 3 rfl | exact rdOwnAt 3 rfl | exact rdAt 4 rfl | exact rdOwnAt 4 rfl | exact rdAt 5 rfl | exact rdOwnAt 5 rfl | exact rdAt 6 rfl | exact rdOwnAt 6 rfl | exact rdAt 7 rfl | exact rdOwnAt 7 rfl | exact rdAt 8 rfl | exact rdOwnAt 8 rfl | exact rdAt 9 rfl | exact rdOwnAt 9 rfl | exact rdAt 10 rfl | exact rdOwnAt 10 rfl | exact rdAt 11 rfl | exact rdOwnAt 11 rfl | exact rdAt 12 rfl | exact rdOwnAt 12 rfl | exact rdAt 13 rfl | exact rdOwnAt 13 rfl | exact rdAt 14 rfl | exact rdOwnAt 14 rfl | exact rdAt 15 rfl | exact rdOwnAt 15 rfl | exact rdAt 16 rfl | exact rdOwnAt 16 rfl | exact rdAt 17 rfl | exact rdOwnAt 17 rfl | exact rdAt 18 rfl | exact rdOwnAt 18 rfl | exact rdAt 19 rfl | exact rdOwnAt 19 rfl | exact rdAt 20 rfl | exact rdOwnAt 20 rfl | exact rdAt 21 rfl | exact rdOwnAt 21 rfl | exact rdAt 22 rfl | exact rdOwnAt 22 rfl | exact rdAt 23 rfl | exact rdOwnAt 23 rfl) k rfl (by first | omega | (simp; done) | (simp; omega) | (unfold maxLen; omega) | (unfold maxLen; simp; done) | (unfold maxLen; simp; omega)) (fun ad => ?_)
                refine stop_call _ cl106 rfl rfl rfl rfl ⟨rfl, rfl⟩ (fun A w hW => isValue_c _ w) ?_
                rintro v L ⟨rfl, rfl⟩
                refine CaseB.mk (fun h => ?_) (fun h => ?_)
                · exact retw [] ⟨rfl, rfl⟩ trivial rfl trivial (hno (by simpa using h) (fun hv => hv.sv _ (List.getElem_mem hlt)))
                · have hw := wrapN k _ hlt b2
                  refine ⟨⟨k + 1, by omega, all_take_succ (p := fun l : Letter => isValue l.v = true) hlt hs (by simpa using h)⟩, ?_, by simp; omega⟩
                  refine weak_mk [0, 1, 2] ?_ ?_ ?_ ?_ ?_ rfl rfl
                  · repeat (first | exact trivial | refine ⟨⟨_, rfl, (by first | exact .of rfl | exact .lit rfl | exact .of (by first | ((exact congrArg (fun z => SV.v (Value.int .i64 z)) hw))) | exact .lit (by first | ((exact congrArg (fun z => SV.v (Value.int .i64 z)) hw)))), (by first | exact trivial | exact Nat.le_of_ble_eq_true rfl)⟩, ?_⟩)
                  · repeat (first | exact trivial | refine ⟨⟨(by first | exact .head _ | exact .tail _ (.head _) | exact .tail _ (.tail _ (.head _)) | exact .tail _ (.tail _ (.tail _ (.head _))) | exact .tail _ (.tail _ (.tail _ (.tail _ (.head _)))) | exact .tail _ (.tail _ (.tail _ (.tail _ (.tail _ (.head _))))) | exact .tail _ (.tail _ (.tail _ (.tail _ (.tail _ (.tail _ (.head _)))))) | exact .tail _ (.tail _ (.tail _ (.tail _ (.tail _ (.tail _ (.tail _ (.head _))))))) | exact .tail _ (.tail _ (.tail _ (.tail _ (.tail _ (.tail _ (.tail _ (.tail _ (.head _)))))))) | exact .tail _ (.tail _ (.tail _ (.tail _ (.tail _ (.tail _ (.tail _ (.tail _ (.tail _ (.head _)))))))))), Nat.le_of_ble_eq_true rfl⟩, ?_⟩)
                  · repeat (first | exact trivial | refine ⟨⟨_, rfl, (by first | exact .of rfl | exact .lit rfl | exact .of (by first | ((exact congrArg (fun z => SV.v (Value.int .i64 z)) hw))) | exact .lit (by first | ((exact congrArg (fun z => SV.v (Value.int .i64 z)) hw)))), (by first | exact trivial | exact Nat.le_of_ble_eq_true rfl)⟩, ?_⟩)
                  · repeat (first | exact trivial | refine ⟨⟨_, rfl⟩, ?_⟩)
                  · repeat (first | exact trivial | refine ⟨.inl ⟨_, rfl, (by first | rfl | ((exact congrArg (fun z => SV.v (Value.int .i64 z)) hw)))⟩, ?_⟩ | refine ⟨.inr ⟨Nat.le_of_ble_eq_true rfl, rfl, rfl, rfl, rfl⟩, ?_⟩)
              · have hge : m.senders.length ≤ k := by simpa using h
                rw [List.take_of_length_le hge] at hs
                refine stop_call _ cl145 rfl rfl rfl rfl ⟨rfl, rfl⟩ (fun A w hW => threads_c m i s g w ⟨(by first | exact hW.rd 0 rfl | exact hW.rdOwn 0 rfl | exact hW.rd 1 rfl | exact hW.rdOwn 1 rfl | exact hW.rd 2 rfl | exact hW.rdOwn 2 rfl | exact hW.rd 3 rfl | exact hW.rdOwn 3 rfl | exact hW.rd 4 rfl | exact hW.rdOwn 4 rfl | exact hW.rd 5 rfl | exact hW.rdOwn 5 rfl | exact hW.rd 6 rfl | exact hW.rdOwn 6 rfl | exact hW.rd 7 rfl | exact hW.rdOwn 7 rfl | exact hW.rd 8 rfl | exact hW.rdOwn 8 rfl | exact hW.rd 9 rfl | exact hW.rdOwn 9 rfl | exact hW.rd 10 rfl | exact hW.rdOwn 10 rfl | exact hW.rd 11 rfl | exact hW.rdOwn 11 rfl | exact hW.rd 12 rfl | exact hW.rdOwn 12 rfl | exact hW.rd 13 rfl | exact hW.rdOwn 13 rfl | exact hW.rd 14 rfl | exact hW.rdOwn 14 rfl | exact hW.rd 15 rfl | exact hW.rdOwn 15 rfl | exact hW.rd 16 rfl | exact hW.rdOwn 16 rfl | exact hW.rd 17 rfl | exact hW.rdOwn 17 rfl | exact hW.rd 18 rfl | exact hW.rdOwn 18 rfl | exact hW.rd 19 rfl | exact hW.rdOwn 19 rfl | exact hW.rd 20 rfl | exact hW.rdOwn 20 rfl | exact hW.rd 21 rfl | exact hW.rdOwn 21 rfl | exact hW.rd 22 rfl | exact hW.rdOwn 22 rfl | exact hW.rd 23 rfl | exact hW.rdOwn 23 rfl), (by first | exact hW.rd 0 rfl | exact hW.rdOwn 0 rfl | exact hW.rd 1 rfl | exact hW.rdOwn 1 rfl | exact hW.rd 2 rfl | exact hW.rdOwn 2 rfl | exact hW.rd 3 rfl | exact hW.rdOwn 3 rfl | exact hW.rd 4 rfl | exact hW.rdOwn 4 rfl | exact hW.rd 5 rfl | exact hW.rdOwn 5 rfl | exact hW.rd 6 rfl | exact hW.rdOwn 6 rfl | exact hW.rd 7 rfl | exact hW.rdOwn 7 rfl | exact hW.rd 8 rfl | exact hW.rdOwn 8 rfl | exact hW.rd 9 rfl | exact hW.rdOwn 9 rfl | exact hW.rd 10 rfl | exact hW.rdOwn 10 rfl | exact hW.rd 11 rfl | exact hW.rdOwn 11 rfl | exact hW.rd 12 rfl | exact hW.rdOwn 12 rfl | exact hW.rd 13 rfl | exact hW.rdOwn 13 rfl | exact hW.rd 14 rfl | exact hW.rdOwn 14 rfl | exact hW.rd 15 rfl | exact hW.rdOwn 15 rfl | exact hW.rd 16 rfl | exact hW.rdOwn 16 rfl | exact hW.rd 17 rfl | exact hW.rdOwn 17 rfl | exact hW.rd 18 rfl | exact hW.rdOwn 18 rfl | exact hW.rd 19 rfl | exact hW.rdOwn 19 rfl | exact hW.rd 20 rfl | exact hW.rdOwn 20 rfl | exact hW.rd 21 rfl | exact hW.rdOwn 21 rfl | exact hW.rd 22 rfl | exact hW.rdOwn 22 rfl | exact hW.rd 23 rfl | exact hW.rdOwn 23 rfl), (by first | exact hW.rd 0 rfl | exact hW.rdOwn 0 rfl | exact hW.rd 1 rfl | exact hW.rdOwn 1 rfl | exact hW.rd 2 rfl | exact hW.rdOwn 2 rfl | exact hW.rd 3 rfl | exact hW.rdOwn 3 rfl | exact hW.rd 4 rfl | exact hW.rdOwn 4 rfl | exact hW.rd 5 rfl | exact hW.rdOwn 5 rfl | exact hW.rd 6 rfl | exact hW.rdOwn 6 rfl | exact hW.rd 7 rfl | exact hW.rdOwn 7 rfl | exact hW.rd 8 rfl | exact hW.rdOwn 8 rfl | exact hW.rd 9 rfl | exact hW.rdOwn 9 rfl | exact hW.rd 10 rfl | exact hW.rdOwn 10 rfl | exact hW.rd 11 rfl | exact hW.rdOwn 11 rfl | exact hW.rd 12 rfl | exact hW.rdOwn 12 rfl | exact hW.rd 13 rfl | exact hW.rdOwn 13 rfl | exact hW.rd 14 rfl | exact hW.rdOwn 14 rfl | exact hW.rd 15 rfl | exact hW.rdOwn 15 rfl | exact hW.rd 16 rfl | exact hW.rdOwn 16 rfl | exact hW.rd 17 rfl | exact hW.rdOwn 17 rfl | exact hW.rd 18 rfl | exact hW.rdOwn 18 rfl | exact hW.rd 19 rfl | exact hW.rdOwn 19 rfl | exact hW.rd 20 rfl | exact hW.rdOwn 20 rfl | exact hW.rd 21 rfl | exact hW.rdOwn 21 rfl | exact hW.rd 22 rfl | exact hW.rdOwn 22 rfl | exact hW.rd 23 rfl | exact hW.rdOwn 23 rfl), trivial⟩ ⟨b1, b2, b3⟩) ?_
                rintro v L ⟨y, rfl, rfl⟩
                refine stop_call _ cl169 rfl rfl rfl rfl ⟨rfl, rfl⟩ (fun A w hW => distinctThreads_c y m.threads w ⟨(by first | exact hW.rd 0 rfl | exact hW.rdOwn 0 rfl | exact hW.rd 1 rfl | exact hW.rdOwn 1 rfl | exact hW.rd 2 rfl | exact hW.rdOwn 2 rfl | exact hW.rd 3 rfl | exact hW.rdOwn 3 rfl | exact hW.rd 4 rfl | exact hW.rdOwn 4 rfl | exact hW.rd 5 rfl | exact hW.rdOwn 5 rfl | exact hW.rd 6 rfl | exact hW.rdOwn 6 rfl | exact hW.rd 7 rfl | exact hW.rdOwn 7 rfl | exact hW.rd 8 rfl | exact hW.rdOwn 8 rfl | exact hW.rd 9 rfl | exact hW.rdOwn 9 rfl | exact hW.rd 10 rfl | exact hW.rdOwn 10 rfl | exact hW.rd 11 rfl | exact hW.rdOwn 11 rfl | exact hW.rd 12 rfl | exact hW.rdOwn 12 rfl | exact hW.rd 13 rfl | exact hW.rdOwn 13 rfl | exact hW.rd 14 rfl | exact hW.rdOwn 14 rfl | exact hW.rd 15 rfl | exact hW.rdOwn 15 rfl | exact hW.rd 16 rfl | exact hW.rdOwn 16 rfl | exact hW.rd 17 rfl | exact hW.rdOwn 17 rfl | exact hW.rd 18 rfl | exact hW.rdOwn 18 rfl | exact hW.rd 19 rfl | exact hW.rdOwn 19 rfl | exact hW.rd 20 rfl | exact hW.rdOwn 20 rfl | exact hW.rd 21 rfl | exact hW.rdOwn 21 rfl | exact hW.rd 22 rfl | exact hW.rdOwn 22 rfl | exact hW.rd 23 rfl | exact hW.rdOwn 23 rfl), trivial⟩ bT) ?_
                rintro v L ⟨rfl, rfl⟩
                refine CaseB.mk (fun h => ?_) (fun h => ?_)
                · exact retw [] ⟨rfl, rfl⟩ trivial rfl trivial (hno (by simpa using h) Chan.Valid.di)
                · have hd : distinct m.threads = true := by simpa using h
                  have fin : (m.senders ≠ [] → (m.items.length : Int) = m.room ∧ m.getters = [] ∧ m.closed = false) → (m.getters ≠ [] → m.items = [] ∧ m.closed = false) → m.Valid := fun x y => ⟨r0, r1, it, ha, hs, hd, x, y⟩
                  refine CaseB.mk (fun q1 => ?_) (fun q1 => ?_)
                  · have hs1 : m.senders ≠ [] := len_pos.1 q1
                    refine CaseB.mk (fun q2 => ?_) (fun q2 => ?_)
                    · exact retw [] ⟨rfl, rfl⟩ trivial rfl trivial (fun _ => Chan.invalid (fun hv => by have := (hv.se hs1).1; simp at q2; omega))
                    · have e2 : (m.items.length : Int) = m.room := by simpa using q2
                      refine CaseB.mk (fun q3 => ?_) (fun q3 => ?_)
                      · exact retw [] ⟨rfl, rfl⟩ trivial rfl trivial (fun _ => Chan.invalid (fun hv => len_pos.1 q3 (hv.se hs1).2.1))
                      · have e3 : m.getters = [] := by
                          cases hg : m.getters with
                          | nil => rfl
                          | cons a r => rw [hg] at q3; simp at q3
                        refine CaseB.mk (fun q4 => ?_) (fun q4 => ?_)
                        · exact retw [] ⟨rfl, rfl⟩ trivial rfl trivial (fun _ => Chan.invalid (fun hv => by have := (hv.se hs1).2.2; rw [q4] at this; cases this))
                        · have hS : m.senders ≠ [] → (m.items.length : Int) = m.room ∧ m.getters = [] ∧ m.closed = false := fun _ => ⟨e2, e3, q4⟩
                          refine CaseB.mk (fun q5 => ?_) (fun q5 => ?_)
                          · have hg : m.getters = [] := by simpa using q5
                            exact retw [] ⟨rfl, rfl⟩ trivial rfl trivial (fun _ => Chan.isvalid (fin hS (fun hn => absurd hg hn)))
                          · have hg : m.getters ≠ [] := by simpa using q5
                            refine CaseB.mk (fun q6 => ?_) (fun q6 => ?_)
                            · have hi : m.items = [] := by simpa using q6
                              refine retw [] ⟨rfl, rfl⟩ trivial rfl trivial (fun _ => ?_)
                              show Value.bool (!m.closed) = _
                              cases hc : m.closed with
                              | false => exact Chan.isvalid (fin hS (fun _ => ⟨hi, hc⟩))
                              | true => exact Chan.invalid (fun hv => by have := (hv.ge hg).2; rw [hc] at this; cases this)
                            · have hi : m.items ≠ [] := by simpa using q6
                              exact retw [] ⟨rfl, rfl⟩ trivial rfl trivial (fun _ => Chan.invalid (fun hv => hi (hv.ge hg).1))
                  · have hs1 : m.senders = [] := by
                      cases hg : m.senders with
                      | nil => rfl
                      | cons a r => rw [hg] at q1; simp at q1
                    have hS : m.senders ≠ [] → (m.items.length : Int) = m.room ∧ m.getters = [] ∧ m.closed = false := fun hn => absurd hs1 hn
                    refine CaseB.mk (fun q5 => ?_) (fun q5 => ?_)
                    · have hg : m.getters = [] := by simpa using q5
                      exact retw [] ⟨rfl, rfl⟩ trivial rfl trivial (fun _ => Chan.isvalid (fin hS (fun hn => absurd hg hn)))
                    · have hg : m.getters ≠ [] := by simpa using q5
                      refine CaseB.mk (fun q6 => ?_) (fun q6 => ?_)
                      · have hi : m.items = [] := by simpa using q6
                        refine retw [] ⟨rfl, rfl⟩ trivial rfl trivial (fun _ => ?_)
                        show Value.bool (!m.closed) = _
                        cases hc : m.closed with
                        | false => exact Chan.isvalid (fin hS (fun _ => ⟨hi, hc⟩))
                        | true => exact Chan.invalid (fun hv => by have := (hv.ge hg).2; rw [hc] at this; cases this)
                      · have hi : m.items ≠ [] := by simpa using q6
                        exact retw [] ⟨rfl, rfl⟩ trivial rfl trivial (fun _ => Chan.invalid (fun hv => hi (hv.ge hg).1))

end Go.Proofs.YtklclbcckjhdpaaGreat

namespace Go.Proofs.YtklclbcckjhdpaaGreat

open Go Go.Sx Go.RowKit

theorem length_le_of_sub {xs ys : List Int} (h : xs.Nodup) (hs : ∀ x ∈ xs, x ∈ ys) : xs.length ≤ ys.length := by
  induction xs generalizing ys with
  | nil => simp
  | cons x r ih =>
    have hx := hs x (by simp)
    rw [List.nodup_cons] at h
    have := ih (ys := ys.erase x) h.2 (fun y hy => (List.mem_erase_of_ne (fun e => h.1 (by subst e; exact hy))).2 (hs y (by simp [hy])))
    rw [List.length_erase_of_mem hx] at this
    have : 0 < ys.length := List.length_pos_of_mem hx
    simp only [List.length_cons]
    omega

/-- Six threads, no more. -/
theorem distinct_len {xs : List Int} (h : distinct xs = true) : xs.length ≤ 6 := by
  simp only [distinct, decide_eq_true_eq] at h
  have hs : ∀ x ∈ xs, x ∈ ([0, 1, 2, 3, 4, 5] : List Int) := fun x hx => by
    have := h.2 x hx
    simp [isThread] at this
    simp
    omega
  exact length_le_of_sub h.1 hs

theorem distinct_take {xs : List Int} (h : (xs.take 7).Nodup ∧ ∀ x ∈ xs.take 7, isThread x = true) : xs.length ≤ 6 := by
  have hd : distinct (xs.take 7) = true := by simpa [distinct] using h
  have := distinct_len hd
  simp at this
  omega

set_option maxRecDepth 100000 in
theorem l2Waits_c (i : Sl) (xs : List Int) (w : World) (h : At w [slo i cInt 1 xs]) (hb : xs.length ≤ 8589934592) :
    Calls Tryz.prog 199 #[i.val xs.length] w (Ret w fun v L => v = .bool (distinct xs) ∧ L = []) := by
  refine calls1 Tryz.func199 rfl tabOk w _ rfl _ rfl _ h ⟨rfl, rfl, trivial⟩ _ (by decide) ?_
  refine LoopW.mk ⟨{ k : Nat // k ≤ xs.length ∧ k ≤ 7 ∧ (xs.take k).Nodup ∧ ∀ x ∈ xs.take k, isThread x = true },
    fun p => .mk [(0, .v (i.val xs.length)), (3, .v (.int .i64 p.1))] 0 0 [] [] [slo i cInt 1 xs],
    fun p => xs.length - p.1, ⟨0, Nat.zero_le _, by omega, by simp, by simp⟩, ?_, ?_⟩
  · refine weak_mk [0] ?_ ?_ ?_ ?_ ?_ rfl rfl
    · repeat (first | exact trivial | refine ⟨⟨_, rfl, (by first | exact .of rfl | exact .lit rfl | exact .of (by first | (rfl)) | exact .lit (by first | (rfl))), (by first | exact trivial | exact Nat.le_of_ble_eq_true rfl)⟩, ?_⟩)
    · repeat (first | exact trivial | refine ⟨⟨(by first | exact .head _ | exact .tail _ (.head _) | exact .tail _ (.tail _ (.head _)) | exact .tail _ (.tail _ (.tail _ (.head _))) | exact .tail _ (.tail _ (.tail _ (.tail _ (.head _)))) | exact .tail _ (.tail _ (.tail _ (.tail _ (.tail _ (.head _))))) | exact .tail _ (.tail _ (.tail _ (.tail _ (.tail _ (.tail _ (.head _)))))) | exact .tail _ (.tail _ (.tail _ (.tail _ (.tail _ (.tail _ (.tail _ (.head _))))))) | exact .tail _ (.tail _ (.tail _ (.tail _ (.tail _ (.tail _ (.tail _ (.tail _ (.head _)))))))) | exact .tail _ (.tail _ (.tail _ (.tail _ (.tail _ (.tail _ (.tail _ (.tail _ (.tail _ (.head _)))))))))), Nat.le_of_ble_eq_true rfl⟩, ?_⟩)
    · repeat (first | exact trivial | refine ⟨⟨_, rfl, (by first | exact .of rfl | exact .lit rfl | exact .of (by first | (rfl)) | exact .lit (by first | (rfl))), (by first | exact trivial | exact Nat.le_of_ble_eq_true rfl)⟩, ?_⟩)
    · repeat (first | exact trivial | refine ⟨⟨_, rfl⟩, ?_⟩)
    · repeat (first | exact trivial | refine ⟨.inl ⟨_, rfl, (by first | rfl | (rfl))⟩, ?_⟩ | refine ⟨.inr ⟨Nat.le_of_ble_eq_true rfl, rfl, rfl, rfl, rfl⟩, ?_⟩)
  · rintro ⟨k, hk, hk7, hn, ha⟩
    have hfin : ¬ (k < xs.length ∧ k ≤ 6) → decide ((xs.length : Int) ≤ 6) = distinct xs := by
      intro hc
      rcases Nat.lt_or_ge k xs.length with h1 | h1
      · have e : k = 7 := by omega
        subst e
        have := distinct_take ⟨hn, ha⟩
        omega
      · rw [List.take_of_length_le h1] at hn ha
        have hd : distinct xs = true := by simp only [distinct, decide_eq_true_eq]; exact ⟨hn, ha⟩
        have := distinct_len hd
        rw [hd, decide_eq_true_eq]
        omega
    refine CaseB.mk (fun h => ?_) (fun h => ?_)
    · have hlt : k < xs.length := by simpa using h
      refine CaseB.mk (fun h => ?_) (fun h => ?_)
      · have h6 : k ≤ 6 := by simp at h; omega
        refine draw_start tabOk (by kernel_rfl) (by kernel_rfl) (by kernel_rfl) 200 [] [0] [_] trivial trivial ⟨rfl, trivial⟩ rfl ?_
        refine d_idx (ti := tiOf tab) encInt tabOk rfl rfl rfl rfl rfl ⟨rfl, rfl⟩ (by first | exact rdAt 0 rfl | exact rdOwnAt 0 rfl | exact rdAt 1 rfl | exact rdOwnAt 1 rfl | exact rdAt 2 rfl | exact rdOwnAt 2 rfl | exact rdAt 3 rfl | exact rdOwnAt 3 rfl | exact rdAt 4 rfl | exact rdOwnAt 4 rfl | exact rdAt 5 rfl | exact rdOwnAt 5 rfl | exact rdAt 6 rfl | exact rdOwnAt 6 rfl | exact rdAt 7 rfl | exact rdOwnAt 7 rfl | exact rdAt 8 rfl | exact rdOwnAt 8 rfl | exact rdAt 9 rfl | exact rdOwnAt 9 rfl | exact rdAt 10 rfl | exact rdOwnAt 10 rfl | exact rdAt 11 rfl | exact rdOwnAt 11 rfl | exact rdAt 12 rfl | exact rdOwnAt 12 rfl | exact rdAt 13 rfl | exact rdOwnAt 13 rfl | exact rdAt 14 rfl | exact rdOwnAt 14 rfl | exact rdAt 15 rfl | exact rdOwnAt 15 rfl | exact rdAt 16 rfl | exact rdOwnAt 16 rfl | exact rdAt 17 rfl | exact rdOwnAt 17 rfl | exact rdAt 18 rfl | exact rdOwnAt 18 rfl | exact rdAt 19 rfl | exact rdOwnAt 19 rfl | exact rdAt 20 rfl | exact rdOwnAt 20 rfl | exact rdAt 21 rfl | exact rdOwnAt 21 rfl | exact rdAt 22 rfl | exact rdOwnAt 22 rfl | exact rdAt 23 rfl | exact rdOwnAt 23 rfl) k rfl (by first | omega | (simp; done) | (simp; omega) | (unfold maxLen; omega) | (unfold maxLen; simp; done) | (unfold maxLen; simp; omega)) (fun ad => ?_)
        refine d_call _ cl181 rfl rfl rfl rfl ⟨rfl, rfl⟩ (fun A w hW => l1Thread_c _ w) ?_
        rintro v L ⟨rfl, rfl⟩
        refine CaseB.mk (fun h => ?_) (fun h => ?_)
        · have h1 : isThread xs[k] = false := by simpa using h
          exact retw [] ⟨congrArg Value.bool (distinct_no hlt (.inl h1)).symm, rfl⟩ trivial rfl trivial (fun _ => rfl)
        · have h1 : isThread xs[k] = true := by simpa using h
          refine d_cut (ti := tiOf tab) tabOk rfl rfl rfl rfl ⟨rfl, rfl⟩ rfl rfl (by first | exact rdAt 0 rfl | exact rdOwnAt 0 rfl | exact rdAt 1 rfl | exact rdOwnAt 1 rfl | exact rdAt 2 rfl | exact rdOwnAt 2 rfl | exact rdAt 3 rfl | exact rdOwnAt 3 rfl | exact rdAt 4 rfl | exact rdOwnAt 4 rfl | exact rdAt 5 rfl | exact rdOwnAt 5 rfl | exact rdAt 6 rfl | exact rdOwnAt 6 rfl | exact rdAt 7 rfl | exact rdOwnAt 7 rfl | exact rdAt 8 rfl | exact rdOwnAt 8 rfl | exact rdAt 9 rfl | exact rdOwnAt 9 rfl | exact rdAt 10 rfl | exact rdOwnAt 10 rfl | exact rdAt 11 rfl | exact rdOwnAt 11 rfl | exact rdAt 12 rfl | exact rdOwnAt 12 rfl | exact rdAt 13 rfl | exact rdOwnAt 13 rfl | exact rdAt 14 rfl | exact rdOwnAt 14 rfl | exact rdAt 15 rfl | exact rdOwnAt 15 rfl | exact rdAt 16 rfl | exact rdOwnAt 16 rfl | exact rdAt 17 rfl | exact rdOwnAt 17 rfl | exact rdAt 18 rfl | exact rdOwnAt 18 rfl | exact rdAt 19 rfl | exact rdOwnAt 19 rfl | exact rdAt 20 rfl | exact rdOwnAt 20 rfl | exact rdAt 21 rfl | exact rdOwnAt 21 rfl | exact rdAt 22 rfl | exact rdOwnAt 22 rfl | exact rdAt 23 rfl | exact rdOwnAt 23 rfl) (0) (k) ((xs.take k)).length rfl rfl (by first | omega | (simp; done) | (simp; omega) | (unfold maxLen; omega) | (unfold maxLen; simp; done) | (unfold maxLen; simp; omega)) (by first | omega | (simp; done) | (simp; omega) | (unfold maxLen; omega) | (unfold maxLen; simp; done) | (unfold maxLen; simp; omega)) (by first | omega | (simp; done) | (simp; omega) | (unfold maxLen; omega) | (unfold maxLen; simp; done) | (unfold maxLen; simp; omega)) ?_
          refine d_idx (ti := tiOf tab) encInt tabOk rfl rfl rfl rfl rfl ⟨rfl, rfl⟩ (by first | exact rdAt 0 rfl | exact rdOwnAt 0 rfl | exact rdAt 1 rfl | exact rdOwnAt 1 rfl | exact rdAt 2 rfl | exact rdOwnAt 2 rfl | exact rdAt 3 rfl | exact rdOwnAt 3 rfl | exact rdAt 4 rfl | exact rdOwnAt 4 rfl | exact rdAt 5 rfl | exact rdOwnAt 5 rfl | exact rdAt 6 rfl | exact rdOwnAt 6 rfl | exact rdAt 7 rfl | exact rdOwnAt 7 rfl | exact rdAt 8 rfl | exact rdOwnAt 8 rfl | exact rdAt 9 rfl | exact rdOwnAt 9 rfl | exact rdAt 10 rfl | exact rdOwnAt 10 rfl | exact rdAt 11 rfl | exact rdOwnAt 11 rfl | exact rdAt 12 rfl | exact rdOwnAt 12 rfl | exact rdAt 13 rfl | exact rdOwnAt 13 rfl | exact rdAt 14 rfl | exact rdOwnAt 14 rfl | exact rdAt 15 rfl | exact rdOwnAt 15 rfl | exact rdAt 16 rfl | exact rdOwnAt 16 rfl | exact rdAt 17 rfl | exact rdOwnAt 17 rfl | exact rdAt 18 rfl | exact rdOwnAt 18 rfl | exact rdAt 19 rfl | exact rdOwnAt 19 rfl | exact rdAt 20 rfl | exact rdOwnAt 20 rfl | exact rdAt 21 rfl | exact rdOwnAt 21 rfl | exact rdAt 22 rfl | exact rdOwnAt 22 rfl | exact rdAt 23 rfl | exact rdOwnAt 23 rfl) k rfl (by first | omega | (simp; done) | (simp; omega) | (unfold maxLen; omega) | (unfold maxLen; simp; done) | (unfold maxLen; simp; omega)) (fun ad => ?_)
          refine d_call _ cl51 rfl rfl rfl rfl ⟨rfl, rfl⟩ (fun A w hW => l2At_c (i.cut 0 1) (xs.take k) _ w ⟨atCut encInt 0 k (by omega) (by omega) (by simp) (hW.rd 0 rfl), trivial⟩ (by simp; omega)) ?_
          rintro v L ⟨rfl, rfl⟩
          refine CaseB.mk (fun h => ?_) (fun h => ?_)
          · have hm : xs[k] ∈ xs.take k := (atM_mem _ _).1 (by simpa using h)
            exact retw [] ⟨congrArg Value.bool (distinct_no hlt (.inr hm)).symm, rfl⟩ trivial rfl trivial (fun _ => rfl)
          · have hm : ¬ xs[k] ∈ xs.take k := fun hm => by have := (atM_mem _ _).2 hm; simp at h; omega
            have hT : xs.take (k + 1) = xs.take k ++ [xs[k]] := List.take_succ_eq_append_getElem hlt
            have hw := wrapN2 k _ hlt hb
            refine ⟨⟨k + 1, by omega, by omega, (nodup_take_succ hlt).2 ⟨hn, hm⟩, all_take_succ hlt ha h1⟩, ?_, by simp; omega⟩
            refine weak_mk [0] ?_ ?_ ?_ ?_ ?_ rfl rfl
            · repeat (first | exact trivial | refine ⟨⟨_, rfl, (by first | exact .of rfl | exact .lit rfl | exact .of (by first | ((exact congrArg (fun z => SV.v (Value.int .i64 z)) hw))) | exact .lit (by first | ((exact congrArg (fun z => SV.v (Value.int .i64 z)) hw)))), (by first | exact trivial | exact Nat.le_of_ble_eq_true rfl)⟩, ?_⟩)
            · repeat (first | exact trivial | refine ⟨⟨(by first | exact .head _ | exact .tail _ (.head _) | exact .tail _ (.tail _ (.head _)) | exact .tail _ (.tail _ (.tail _ (.head _))) | exact .tail _ (.tail _ (.tail _ (.tail _ (.head _)))) | exact .tail _ (.tail _ (.tail _ (.tail _ (.tail _ (.head _))))) | exact .tail _ (.tail _ (.tail _ (.tail _ (.tail _ (.tail _ (.head _)))))) | exact .tail _ (.tail _ (.tail _ (.tail _ (.tail _ (.tail _ (.tail _ (.head _))))))) | exact .tail _ (.tail _ (.tail _ (.tail _ (.tail _ (.tail _ (.tail _ (.tail _ (.head _)))))))) | exact .tail _ (.tail _ (.tail _ (.tail _ (.tail _ (.tail _ (.tail _ (.tail _ (.tail _ (.head _)))))))))), Nat.le_of_ble_eq_true rfl⟩, ?_⟩)
            · repeat (first | exact trivial | refine ⟨⟨_, rfl, (by first | exact .of rfl | exact .lit rfl | exact .of (by first | ((exact congrArg (fun z => SV.v (Value.int .i64 z)) hw))) | exact .lit (by first | ((exact congrArg (fun z => SV.v (Value.int .i64 z)) hw)))), (by first | exact trivial | exact Nat.le_of_ble_eq_true rfl)⟩, ?_⟩)
            · repeat (first | exact trivial | refine ⟨⟨_, rfl⟩, ?_⟩)
            · repeat (first | exact trivial | refine ⟨.inl ⟨_, rfl, (by first | rfl | ((exact congrArg (fun z => SV.v (Value.int .i64 z)) hw)))⟩, ?_⟩ | refine ⟨.inr ⟨Nat.le_of_ble_eq_true rfl, rfl, rfl, rfl, rfl⟩, ?_⟩)
      · have h6 : ¬ k ≤ 6 := by simp at h; omega
        exact retw [] ⟨congrArg Value.bool (hfin (fun h => h6 h.2)), rfl⟩ trivial rfl trivial (fun _ => rfl)
    · have hlt : ¬ k < xs.length := by simpa using h
      exact retw [] ⟨congrArg Value.bool (hfin (fun h => hlt h.1)), rfl⟩ trivial rfl trivial (fun _ => rfl)

end Go.Proofs.YtklclbcckjhdpaaGreat
