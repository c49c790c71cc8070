/- The machine's data: operations, programs, states. -/
import Derived.Test.YtpopeaoklccgcaaDa
import Derived.Test.YtpopeaoklccgcaaEa
namespace Go.Proofs.Ytpopeaoklccgcaa

open Go Go.Sx Go.RowKit

structure Op where
  kind : Int
  on : Int
  arg : Int
  deriving DecidableEq

def cOp (l : Op) : List Value := [.int .i64 l.kind, .int .i64 l.on, .int .i64 l.arg]

theorem encOp : Enc cOp 3 := ⟨fun _ => rfl, fun _ u hu => by simp [cOp] at hu; rcases hu with rfl | rfl | rfl <;> rfl⟩

def Op0 : Op := ⟨0, 0, 0⟩

structure OpSH where
  m : List Op
  q : Sl

def cOpSH (x : OpSH) : List Value := [x.q.val x.m.length]

theorem encOpSH : Enc cOpSH 1 := ⟨fun _ => rfl, fun _ u hu => by simp [cOpSH] at hu; subst hu; rfl⟩

def opSO (x : OpSH) : List Fct := [own x.q 111 cOp 3 x.m]

def threadsO (h : Sl) (xs : List OpSH) : List Fct := nestO h 49 cOpSH 1 opSO xs

theorem threadsO_0 (h : Sl) (xs : List OpSH) (j : Nat) (hj : j < xs.length) : RdIn (threadsO h xs) (slo (xs[j]).q cOp 3 (xs[j]).m) := RdIn.own (nest_in hj (List.mem_cons_self ..))

structure Prog where
  sems : List Int
  groups : List Int
  barriers : List Int
  rooms : List Int
  threads : List (List Op)
  deriving DecidableEq

structure ProgH where
  sems : List Int
  groups : List Int
  barriers : List Int
  rooms : List Int
  threads : List OpSH
  h0 : Sl
  h1 : Sl
  h2 : Sl
  h3 : Sl
  h4 : Sl

def ProgH.pure (s : ProgH) : Prog := ⟨s.sems, s.groups, s.barriers, s.rooms, s.threads.map (·.m)⟩

def progV (s : ProgH) : Value := .agg #[s.h0.val s.sems.length, s.h1.val s.groups.length, s.h2.val s.barriers.length, s.h3.val s.rooms.length, s.h4.val s.threads.length]

def progO (s : ProgH) : List Fct := own s.h0 3 cInt 1 s.sems :: own s.h1 3 cInt 1 s.groups :: own s.h2 3 cInt 1 s.barriers :: own s.h3 3 cInt 1 s.rooms :: threadsO s.h4 s.threads

theorem progO_sems (s : ProgH) : RdIn (progO s) (slo s.h0 cInt 1 s.sems) := RdIn.own (o := false) (e := 3) (by simp [progO])

theorem progO_groups (s : ProgH) : RdIn (progO s) (slo s.h1 cInt 1 s.groups) := RdIn.own (o := false) (e := 3) (by simp [progO])

theorem progO_barriers (s : ProgH) : RdIn (progO s) (slo s.h2 cInt 1 s.barriers) := RdIn.own (o := false) (e := 3) (by simp [progO])

theorem progO_rooms (s : ProgH) : RdIn (progO s) (slo s.h3 cInt 1 s.rooms) := RdIn.own (o := false) (e := 3) (by simp [progO])

theorem progO_threads (s : ProgH) : ∀ g ∈ threadsO s.h4 s.threads, g ∈ progO s := fun g hg => by simp [progO, hg]

structure State where
  places : List Int
  status : List Int
  sems : List Sem
  onces : List Once
  groups : List Group
  barriers : List Barrier
  chans : List Chan
  said : List Int
  fault : Int
  deriving DecidableEq

structure StateH where
  places : List Int
  status : List Int
  sems : List SemH
  onces : List OnceH
  groups : List GroupH
  barriers : List BarrierH
  chans : List ChanH
  said : List Int
  fault : Int
  h0 : Sl
  h1 : Sl
  h2 : Sl
  h3 : Sl
  h4 : Sl
  h5 : Sl
  h6 : Sl
  h7 : Sl

def StateH.pure (s : StateH) : State := ⟨s.places, s.status, s.sems.map (·.m), s.onces.map (·.m), s.groups.map (·.m), s.barriers.map (·.m), s.chans.map (·.m), s.said, s.fault⟩

def stateV (s : StateH) : Value := .agg #[s.h0.val s.places.length, s.h1.val s.status.length, s.h2.val s.sems.length, s.h3.val s.onces.length, s.h4.val s.groups.length, s.h5.val s.barriers.length, s.h6.val s.chans.length, s.h7.val s.said.length, .int .i64 s.fault]

def stateO (s : StateH) : List Fct := own s.h0 3 cInt 1 s.places :: own s.h1 3 cInt 1 s.status :: (semsO s.h2 s.sems ++ (oncesO s.h3 s.onces ++ (groupsO s.h4 s.groups ++ (barriersO s.h5 s.barriers ++ (chansO s.h6 s.chans ++ [own s.h7 3 cInt 1 s.said])))))

theorem stateO_places (s : StateH) : RdIn (stateO s) (slo s.h0 cInt 1 s.places) := RdIn.own (o := false) (e := 3) (by simp [stateO])

theorem stateO_status (s : StateH) : RdIn (stateO s) (slo s.h1 cInt 1 s.status) := RdIn.own (o := false) (e := 3) (by simp [stateO])

theorem stateO_said (s : StateH) : RdIn (stateO s) (slo s.h7 cInt 1 s.said) := RdIn.own (o := false) (e := 3) (by simp [stateO])

theorem stateO_sems (s : StateH) : ∀ g ∈ semsO s.h2 s.sems, g ∈ stateO s := fun g hg => by simp [stateO, hg]

theorem stateO_onces (s : StateH) : ∀ g ∈ oncesO s.h3 s.onces, g ∈ stateO s := fun g hg => by simp [stateO, hg]

theorem stateO_groups (s : StateH) : ∀ g ∈ groupsO s.h4 s.groups, g ∈ stateO s := fun g hg => by simp [stateO, hg]

theorem stateO_barriers (s : StateH) : ∀ g ∈ barriersO s.h5 s.barriers, g ∈ stateO s := fun g hg => by simp [stateO, hg]

theorem stateO_chans (s : StateH) : ∀ g ∈ chansO s.h6 s.chans, g ∈ stateO s := fun g hg => by simp [stateO, hg]

/-- A part of a part. -/
theorem RdIn.sub {G G' : List Fct} {g : Fct} (h : RdIn G g) (hs : ∀ f ∈ G, f ∈ G') : RdIn G' g := by
  obtain ⟨f, hf, k⟩ := h
  exact ⟨f, hs f hf, k⟩

def szSeq (fs : List (Int → Int)) (l : Int) : Int := szList (fun f l => f l) fs l

/-- A list that is small, and whose elements are. -/
def allS {α : Type} (P : α → Prop) (xs : List α) : Prop := xs.length ≤ 1048576 ∧ ∀ x ∈ xs, P x

theorem szN_gen {k : Nat} {l : Int} (hl : l ≤ 1048576) (h : ¬ szN k l < 0) : k ≤ 1048576 ∧ szN k l ≤ l := by
  simp only [szN] at h ⊢
  omega

theorem szAll_gen {α : Type} {f : α → Int → Int} {P : α → Prop} (hf : ∀ x l, l ≤ 1048576 → ¬ f x l < 0 → P x ∧ f x l ≤ l) {xs : List α} {l : Int} (hl : l ≤ 1048576) (h : ¬ szAll f xs l < 0) : allS P xs ∧ szAll f xs l ≤ l := by
  obtain ⟨h1, h2, h3⟩ := szAll_all hf hl h
  exact ⟨⟨h1, h2⟩, h3⟩

theorem allS_map {α β : Type} {P : β → Prop} {f : α → β} {xs : List α} (h : allS P (xs.map f)) : xs.length ≤ 1048576 ∧ ∀ x ∈ xs, P (f x) :=
  ⟨by simpa using h.1, fun x hx => h.2 _ (List.mem_map_of_mem hx)⟩

theorem ret_abs {P : Program} {g : FuncId} {args : Array Value} {w : World} {x : Int} (h : Calls P g args w (Ret w fun v L => v = .int .i64 x ∧ L = [])) : Calls P g args w (Ret w fun v L => ∃ a, a = x ∧ v = .int .i64 a ∧ L = []) :=
  h.mono fun _ _ ⟨v, L, h1, h2, h3, h4, h5⟩ => ⟨v, L, h1, h2, h3, x, rfl, h4, h5⟩

end Go.Proofs.Ytpopeaoklccgcaa
