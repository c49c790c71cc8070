/- The machine's data: semaphores, onces, groups, barriers, channels; each with the headers of its slices. -/
import Derived.Test.YtpopeaoklccgcaaChf
import Derived.Test.YtpopeaoklccgcaaSxt
namespace Go.Proofs.Ytpopeaoklccgcaa

open Go Go.Sx Go.RowKit

structure Waiter where
  t : Int
  n : Int
  deriving DecidableEq

def cWaiter (l : Waiter) : List Value := [.int .i64 l.t, .int .i64 l.n]

theorem encWaiter : Enc cWaiter 2 := ⟨fun _ => rfl, fun _ u hu => by simp [cWaiter] at hu; rcases hu with rfl | rfl <;> rfl⟩

def Waiter0 : Waiter := ⟨0, 0⟩

structure Sem where
  free : Int
  limit : Int
  queue : List Waiter
  deriving DecidableEq

structure Once where
  state : Int
  owner : Int
  value : Int
  waits : List Int
  deriving DecidableEq

structure Group where
  count : Int
  waits : List Int
  deriving DecidableEq

structure Barrier where
  parties : Int
  round : Int
  waits : List Int
  deriving DecidableEq

def semV (m : Sem) (q : Sl) : Value := .agg #[.int .i64 m.free, .int .i64 m.limit, q.val m.queue.length]

def onceV (m : Once) (q : Sl) : Value := .agg #[.int .i64 m.state, .int .i64 m.owner, .int .i64 m.value, q.val m.waits.length]

def groupV (m : Group) (q : Sl) : Value := .agg #[.int .i64 m.count, q.val m.waits.length]

def barrierV (m : Barrier) (q : Sl) : Value := .agg #[.int .i64 m.parties, .int .i64 m.round, q.val m.waits.length]

/-- A row and the rows of its elements. -/
def nestO {α : Type} (h : Sl) (ty : TypeId) (enc : α → List Value) (sz : Nat) (inner : α → List Fct) (xs : List α) : List Fct := own h ty enc sz xs :: xs.flatMap inner

theorem nest_in {α : Type} {h : Sl} {ty : TypeId} {enc : α → List Value} {sz : Nat} {inner : α → List Fct} {xs : List α} {j : Nat} (hj : j < xs.length) {f : Fct} (hf : f ∈ inner xs[j]) : f ∈ nestO h ty enc sz inner xs :=
  List.mem_cons_of_mem _ (List.mem_flatMap.2 ⟨_, List.getElem_mem hj, hf⟩)

theorem nest_h {α : Type} {h : Sl} {ty : TypeId} {enc : α → List Value} {sz : Nat} {inner : α → List Fct} {xs : List α} : RdIn (nestO h ty enc sz inner xs) (slo h enc sz xs) := RdIn.own (List.mem_cons_self ..)

structure SemH where
  m : Sem
  q : Sl

structure OnceH where
  m : Once
  q : Sl

structure GroupH where
  m : Group
  q : Sl

structure BarrierH where
  m : Barrier
  q : Sl

structure ChanH where
  m : Chan
  q0 : Sl
  q1 : Sl
  q2 : Sl

def cSemH (x : SemH) : List Value := [.int .i64 x.m.free, .int .i64 x.m.limit, x.q.val x.m.queue.length]

def cOnceH (x : OnceH) : List Value := [.int .i64 x.m.state, .int .i64 x.m.owner, .int .i64 x.m.value, x.q.val x.m.waits.length]

def cGroupH (x : GroupH) : List Value := [.int .i64 x.m.count, x.q.val x.m.waits.length]

def cBarrierH (x : BarrierH) : List Value := [.int .i64 x.m.parties, .int .i64 x.m.round, x.q.val x.m.waits.length]

def cChanH (x : ChanH) : List Value := [.int .i64 x.m.room, x.q0.val x.m.items.length, x.q1.val x.m.senders.length, x.q2.val x.m.getters.length, .bool x.m.closed]

theorem encSemH : Enc cSemH 3 := ⟨fun _ => rfl, fun _ u hu => by simp [cSemH] at hu; rcases hu with rfl | rfl | rfl <;> rfl⟩

theorem encOnceH : Enc cOnceH 4 := ⟨fun _ => rfl, fun _ u hu => by simp [cOnceH] at hu; rcases hu with rfl | rfl | rfl | rfl <;> rfl⟩

theorem encGroupH : Enc cGroupH 2 := ⟨fun _ => rfl, fun _ u hu => by simp [cGroupH] at hu; rcases hu with rfl | rfl <;> rfl⟩

theorem encBarrierH : Enc cBarrierH 3 := ⟨fun _ => rfl, fun _ u hu => by simp [cBarrierH] at hu; rcases hu with rfl | rfl | rfl <;> rfl⟩

theorem encChanH : Enc cChanH 5 := ⟨fun _ => rfl, fun _ u hu => by simp [cChanH] at hu; rcases hu with rfl | rfl | rfl | rfl | rfl <;> rfl⟩

def semO (x : SemH) : List Fct := [own x.q 159 cWaiter 2 x.m.queue]

def onceO (x : OnceH) : List Fct := [own x.q 3 cInt 1 x.m.waits]

def groupO (x : GroupH) : List Fct := [own x.q 3 cInt 1 x.m.waits]

def barrierO (x : BarrierH) : List Fct := [own x.q 3 cInt 1 x.m.waits]

def chanO (x : ChanH) : List Fct := [own x.q0 3 cInt 1 x.m.items, own x.q1 161 cLet 2 x.m.senders, own x.q2 3 cInt 1 x.m.getters]

def semsO (h : Sl) (xs : List SemH) : List Fct := nestO h 85 cSemH 3 semO xs

def oncesO (h : Sl) (xs : List OnceH) : List Fct := nestO h 89 cOnceH 4 onceO xs

def groupsO (h : Sl) (xs : List GroupH) : List Fct := nestO h 93 cGroupH 2 groupO xs

def barriersO (h : Sl) (xs : List BarrierH) : List Fct := nestO h 70 cBarrierH 3 barrierO xs

def chansO (h : Sl) (xs : List ChanH) : List Fct := nestO h 74 cChanH 5 chanO xs

theorem semsO_0 (h : Sl) (xs : List SemH) (j : Nat) (hj : j < xs.length) : RdIn (semsO h xs) (slo (xs[j]).q cWaiter 2 (xs[j]).m.queue) := RdIn.own (nest_in hj (List.mem_cons_self ..))

theorem oncesO_0 (h : Sl) (xs : List OnceH) (j : Nat) (hj : j < xs.length) : RdIn (oncesO h xs) (slo (xs[j]).q cInt 1 (xs[j]).m.waits) := RdIn.own (nest_in hj (List.mem_cons_self ..))

theorem groupsO_0 (h : Sl) (xs : List GroupH) (j : Nat) (hj : j < xs.length) : RdIn (groupsO h xs) (slo (xs[j]).q cInt 1 (xs[j]).m.waits) := RdIn.own (nest_in hj (List.mem_cons_self ..))

theorem barriersO_0 (h : Sl) (xs : List BarrierH) (j : Nat) (hj : j < xs.length) : RdIn (barriersO h xs) (slo (xs[j]).q cInt 1 (xs[j]).m.waits) := RdIn.own (nest_in hj (List.mem_cons_self ..))

theorem chansO_0 (h : Sl) (xs : List ChanH) (j : Nat) (hj : j < xs.length) : RdIn (chansO h xs) (slo (xs[j]).q0 cInt 1 (xs[j]).m.items) := RdIn.own (nest_in hj (List.mem_cons_self ..))

theorem chansO_1 (h : Sl) (xs : List ChanH) (j : Nat) (hj : j < xs.length) : RdIn (chansO h xs) (slo (xs[j]).q1 cLet 2 (xs[j]).m.senders) := RdIn.own (nest_in hj (List.mem_cons_of_mem _ (List.mem_cons_self ..)))

theorem chansO_2 (h : Sl) (xs : List ChanH) (j : Nat) (hj : j < xs.length) : RdIn (chansO h xs) (slo (xs[j]).q2 cInt 1 (xs[j]).m.getters) := RdIn.own (nest_in hj (List.mem_cons_of_mem _ (List.mem_cons_of_mem _ (List.mem_cons_self ..))))

/-- What is left behind all of a list. -/
def szList {α : Type} (f : α → Int → Int) : List α → Int → Int
  | [], l => l
  | x :: r, l => if f x l < 0 then -1 else szList f r (f x l)

def szAll {α : Type} (f : α → Int → Int) (xs : List α) (l : Int) : Int := if l - xs.length < 0 then -1 else szList f xs (l - xs.length)

theorem szList_all {α : Type} {f : α → Int → Int} {P : α → Prop} (hf : ∀ x l, l ≤ 1048576 → ¬ f x l < 0 → P x ∧ f x l ≤ l) : ∀ {xs : List α} {l : Int}, l ≤ 1048576 → ¬ szList f xs l < 0 → (∀ x ∈ xs, P x) ∧ szList f xs l ≤ l
  | [], l, hl, h => ⟨by simp, Int.le_refl _⟩
  | x :: r, l, hl, h => by
    simp only [szList] at h ⊢
    split at h
    · omega
    · rename_i h1
      obtain ⟨g1, g2⟩ := hf x l hl h1
      obtain ⟨k1, k2⟩ := szList_all hf (Int.le_trans g2 hl) h
      rw [if_neg h1]
      refine ⟨fun y hy => ?_, Int.le_trans k2 g2⟩
      rcases List.mem_cons.1 hy with rfl | hy
      · exact g1
      · exact k1 y hy

theorem szAll_all {α : Type} {f : α → Int → Int} {P : α → Prop} (hf : ∀ x l, l ≤ 1048576 → ¬ f x l < 0 → P x ∧ f x l ≤ l) {xs : List α} {l : Int} (hl : l ≤ 1048576) (h : ¬ szAll f xs l < 0) : xs.length ≤ 1048576 ∧ (∀ x ∈ xs, P x) ∧ szAll f xs l ≤ l := by
  unfold szAll at h ⊢
  split at h
  · omega
  · rename_i h1
    obtain ⟨k1, k2⟩ := szList_all hf (l := l - xs.length) (by omega) h
    rw [if_neg h1]
    exact ⟨by omega, k1, by omega⟩

theorem map_take_succ {α β : Type} {f : α → β} {xs : List α} {ys : List β} {k : Nat} (hk : k < xs.length) (h : ys = (xs.map f).take k) {y : β} (hy : y = f xs[k]) : ys ++ [y] = (xs.map f).take (k + 1) := by
  subst hy; subst h
  rw [List.take_succ_eq_append_getElem (by simpa using hk), List.getElem_map]

end Go.Proofs.Ytpopeaoklccgcaa
