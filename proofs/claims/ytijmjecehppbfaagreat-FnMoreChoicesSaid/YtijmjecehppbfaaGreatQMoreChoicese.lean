/- FnMoreChoices: texts that its proof stands on, part 5. -/
import Derived.Test.YtijmjecehppbfaaGreatQMoreChoicesd
namespace Go.Proofs.YtijmjecehppbfaaGreat
set_option maxRecDepth 100000
set_option maxHeartbeats 100000000
open Go Go.Sx Go.RowKit
def cU : OnceH := ⟨⟨0, 0, 0, []⟩, ⟨none, 0⟩⟩
def rest (ops : List Op) : Int := if ops.length = 0 then 3 else 0
def start (p : Prog) : State := ⟨p.threads.map fun _ => 0, p.threads.map rest, p.sems.map fun n => ⟨n, n, []⟩, [⟨0, 0, 0, []⟩, ⟨0, 0, 0, []⟩, ⟨0, 0, 0, []⟩], p.groups.map fun n => ⟨n, []⟩, p.barriers.map fun n => ⟨n, 0, []⟩, p.rooms.map fun n => ⟨n, [], [], [], false⟩, [], 0⟩
def State.zero : State := ⟨[], [], [], [], [], [], [], [], 0⟩
def StateH.zero : StateH := ⟨[], [], [], [], [], [], [], [], 0, ⟨none, 0⟩, ⟨none, 0⟩, ⟨none, 0⟩, ⟨none, 0⟩, ⟨none, 0⟩, ⟨none, 0⟩, ⟨none, 0⟩, ⟨none, 0⟩⟩
theorem dU : ∀ g ∈ aK StateH.zero, dQ g := by
 intro g hg
 simp [aK, StateH.zero, jF, gT, fL, eE, jQ, iK] at hg
 rcases hg with rfl | rfl | rfl | rfl | rfl | rfl | rfl | rfl <;> exact ⟨rfl, rfl, rfl, rfl⟩
def Started (p : Prog) (v : Value) (L : List Fct) : Prop := ∃ (y : StateH) (b : Bool), v = .tuple #[aM y, .bool b] ∧ (b = true ↔ ProgOk p) ∧ (b = true → y.pure = start p) ∧ (b = false → y.pure = State.zero) ∧ L = [fO (aK y)]
theorem xD {α : Type} {inner : α → List Fct} {xs : List α} (h : ∀ x ∈ xs, ∀ g ∈ inner x, dQ g) : ∀ g ∈ xs.flatMap inner, dQ g := fun g hg => by
 obtain ⟨x, hx, hg⟩ := List.mem_flatMap.1 hg
 exact h x hx g hg
theorem cH0 (p : ProgH) (w : World) (h : At w [fR (aY p)]) (hs : p.sems.length ≤ 1048576 ∧ p.groups.length ≤ 1048576 ∧ p.barriers.length ≤ 1048576 ∧ p.rooms.length ≤ 1048576) :
   Calls Tryz.prog 104 #[dW p] w (Ret w (Started p.pure)) := by
 refine bZ Tryz.func104 rfl aA w _ rfl _ rfl _ h ⟨rfl, rfl, trivial⟩ _ (by decide) ?_
 refine aB _ nH0 rfl rfl rfl rfl ⟨rfl, rfl⟩ (fun A w hW => vK p w ⟨hW.get 0 rfl (.refl _), trivial⟩ hs) ?_
 rintro v L ⟨b, rfl, hb, rfl⟩
 apply CaseB.mk <;> intro g
 · have hn : ¬ ProgOk p.pure := fun e => by rw [hb.2 e] at g; cases g
   refine aO (.joinO [90] (Gs := [_]) ⟨.inr ⟨Nat.le_of_ble_eq_true rfl, dU⟩, trivial⟩ rfl (G := aK StateH.zero) (.of_eq (by simp))) ?_
   exact bG [0] ⟨StateH.zero, false, rfl, tno hn, fun e => z105, fun _ => rfl, rfl⟩ z144 rfl ⟨rfl, trivial⟩ (fun _ => rfl)
 have ok := hb.1 z98
 have n4 : p.threads.length ≤ 4 := by have := ok.n4; simpa [ProgH.pure] using this
 have m0 : p.sems.length ≤ 3 := ok.sems.1
 have m1 : p.groups.length ≤ 3 := ok.groups.1
 have m2 : p.barriers.length ≤ 3 := ok.barriers.1
 have m3 : p.rooms.length ≤ 3 := ok.rooms.1
 refine yW cX cU aA rfl rfl rfl rfl rfl (by decide) ⟨rfl, rfl⟩ 3 rfl z43 z43 (fun y => ?_)
 obtain ⟨LP, hLP⟩ : ∃ l, l = p.threads.map (fun _ => (0 : Int)) := ⟨_, rfl⟩
 obtain ⟨LS, hLS⟩ : ∃ l, l = p.threads.map (fun x => rest x.m) := ⟨_, rfl⟩
 have lP : LP.length = p.threads.length := by rw [hLP]; simp
 have lS : LS.length = p.threads.length := by rw [hLS]; simp
 refine LoopW.mk ⟨{ q : Nat × Sl × Sl // q.1 ≤ p.threads.length },
   fun q => .mk [(1, .p 0 0), (2, .p 1 0), (4, .p 2 0), (23, .v (p.h4.val p.threads.length)), (24, .v (.int .i64 (p.threads.length : Int))), (25, .v (.int .i64 (q.1.1 : Int)))] 3 0 [(0, 26, 5), (1, 35, 9), (2, 35, 9)]
     [((0, 0), .v (p.h0.val p.sems.length)), ((0, 1), .v (p.h1.val p.groups.length)), ((0, 2), .v (p.h2.val p.barriers.length)), ((0, 3), .v (p.h3.val p.rooms.length)), ((0, 4), .v (p.h4.val p.threads.length)), ((2, 0), .v (q.1.2.1.val (LP.take q.1.1).length)), ((2, 1), .v (q.1.2.2.val (LS.take q.1.1).length)), ((2, 2), .v (.slice none 0 0)), ((2, 3), .v (y.val 3)), ((2, 4), .v (.slice none 0 0)), ((2, 5), .v (.slice none 0 0)), ((2, 6), .v (.slice none 0 0)), ((2, 7), .v (.slice none 0 0)), ((2, 8), .v (.int .i64 0))]
     [own q.1.2.1 3 aJ 1 (LP.take q.1.1), own q.1.2.2 3 aJ 1 (LS.take q.1.1), own y 102 eD 4 [cU, cU, cU], fR (aY p)],
   fun q => p.threads.length - q.1.1, ⟨(0, ⟨none, 0⟩, ⟨none, 0⟩), Nat.zero_le _⟩, ?_, ?_⟩
 · exact aC [99, 98, 0, 1] zw2 zw0 zw2 zw5 zw4 rfl rfl
 rintro ⟨⟨k, a, s⟩, hk⟩
 simp only at hk
 apply CaseB.mk <;> intro g
 · have hlt : k < p.threads.length := by simpa using g
   have eP : LP.take k ++ [0] = LP.take (k + 1) := by rw [hLP]; exact aR hlt rfl rfl
   have eS : ∀ x, x = rest (p.threads[k]).m → LS.take k ++ [x] = LS.take (k + 1) := fun x hx => by rw [hLS]; exact aR hlt rfl hx
   have hw := bD k _ hlt (by omega)
   refine aG dT aA rfl rfl rfl rfl rfl ⟨rfl, rfl⟩ (aL 3 rfl (.trans (.R_R (bB p)) (.ofR aX))) k rfl z43 (fun ad => ?_)
   refine AllSl.mk fun u => ?_
   refine bQ aE 1 aA (ys := [0]) rfl rfl rfl rfl rfl rfl rfl rfl rfl (by decide) ⟨rfl, rfl⟩ rfl z35 z43 z43 (fun a2 => ?_)
   rw [eP]
   apply CaseB.mk <;> intro g
   · have q : (p.threads[k]).m.length = 0 := by simp at g; simp [g]
     refine AllSl.mk fun u2 => ?_
     refine bQ aE 3 aA (ys := [3]) rfl rfl rfl rfl rfl rfl rfl rfl rfl (by decide) ⟨rfl, rfl⟩ rfl z35 z43 z43 (fun s2 => ?_)
     rw [eS 3 (by simp [rest, q])]
     refine ⟨⟨(k + 1, a2, s2), by omega⟩, ?_, by simp only; omega⟩
     exact aC [2, 0, 4, 5] zw1 zw0 zw1 zw5 zw3 rfl rfl
   · have q : ¬ (p.threads[k]).m.length = 0 := by simp at g; simp [g]
     refine AllSl.mk fun u2 => ?_
     refine bQ aE 3 aA (ys := [0]) rfl rfl rfl rfl rfl rfl rfl rfl rfl (by decide) ⟨rfl, rfl⟩ rfl z35 z43 z43 (fun s2 => ?_)
     rw [eS 0 (by simp [rest, q])]
     refine ⟨⟨(k + 1, a2, s2), by omega⟩, ?_, by simp only; omega⟩
     exact aC [2, 0, 4, 5] zw1 zw0 zw1 zw5 zw3 rfl rfl
 have hge : p.threads.length ≤ k := by simpa using g
 have eP : LP.take k = LP := List.take_of_length_le (by omega)
 have eS : LS.take k = LS := List.take_of_length_le (by omega)
 obtain ⟨L0, hL0⟩ : ∃ l, l = p.sems.map (fun n => (⟨⟨n, n, []⟩, ⟨none, 0⟩⟩ : SemH)) := ⟨_, rfl⟩
 have lenL0 : L0.length = p.sems.length := by rw [hL0]; simp
 refine LoopW.mk ⟨{ q : Nat × Sl // q.1 ≤ p.sems.length },
   fun q => .mk [(1, .p 0 0), (2, .p 1 0), (4, .p 2 0), (45, .v (p.h0.val p.sems.length)), (46, .v (.int .i64 (p.sems.length : Int))), (47, .v (.int .i64 (q.1.1 : Int)))] 3 0 [(0, 26, 5), (1, 35, 9), (2, 35, 9)]
     [((0, 0), .v (p.h0.val p.sems.length)), ((0, 1), .v (p.h1.val p.groups.length)), ((0, 2), .v (p.h2.val p.barriers.length)), ((0, 3), .v (p.h3.val p.rooms.length)), ((0, 4), .v (p.h4.val p.threads.length)), ((2, 0), .v (a.val LP.length)), ((2, 1), .v (s.val LS.length)), ((2, 2), .v (q.1.2.val (L0.take q.1.1).length)), ((2, 3), .v (y.val 3)), ((2, 4), .v (.slice none 0 0)), ((2, 5), .v (.slice none 0 0)), ((2, 6), .v (.slice none 0 0)), ((2, 7), .v (.slice none 0 0)), ((2, 8), .v (.int .i64 0))]
     [own q.1.2 95 gI 3 (L0.take q.1.1), own a 3 aJ 1 LP, own s 3 aJ 1 LS, own y 102 eD 4 [cU, cU, cU], fR (aY p)],
   fun q => p.sems.length - q.1.1, ⟨(0, ⟨none, 0⟩), Nat.zero_le _⟩, ?_, ?_⟩
 · exact aC [99, 0, 1, 2, 3] zw14 zw0 zw14 zw5 zw29 rfl rfl
 rintro ⟨⟨k0, c0⟩, hk⟩
 simp only at hk
 apply CaseB.mk <;> intro g
 · have hlt : k0 < p.sems.length := by simpa using g
   have e : ∀ x, x = (⟨⟨p.sems[k0], p.sems[k0], []⟩, ⟨none, 0⟩⟩ : SemH) → L0.take k0 ++ [x] = L0.take (k0 + 1) := fun x hx => by rw [hL0]; exact aR hlt rfl hx
   have hw := bD k0 _ hlt (by omega)
   refine aG aE aA rfl rfl rfl rfl rfl ⟨rfl, rfl⟩ (aL 4 rfl (.ofR (eM p))) k0 rfl z43 (fun ad => ?_)
   refine AllSl.mk fun u => ?_
   refine bQ cZ 1 aA (ys := [⟨⟨p.sems[k0], p.sems[k0], []⟩, ⟨none, 0⟩⟩]) rfl rfl rfl rfl rfl rfl rfl rfl rfl (by decide) ⟨rfl, rfl⟩ rfl z35 z43 z43 (fun c0' => ?_)
   rw [e _ rfl]
   refine ⟨⟨(k0 + 1, c0'), by omega⟩, ?_, by simp only; omega⟩
   exact aC [0, 2, 3, 4, 5] zw1 zw0 zw1 zw5 zw3 rfl rfl
 have hge0 : p.sems.length ≤ k0 := by simpa using g
 have e0 : L0.take k0 = L0 := List.take_of_length_le (by omega)
 obtain ⟨L1, hL1⟩ : ∃ l, l = p.groups.map (fun n => (⟨⟨n, []⟩, ⟨none, 0⟩⟩ : GroupH)) := ⟨_, rfl⟩
 have lenL1 : L1.length = p.groups.length := by rw [hL1]; simp
 refine LoopW.mk ⟨{ q : Nat × Sl // q.1 ≤ p.groups.length },
   fun q => .mk [(1, .p 0 0), (2, .p 1 0), (4, .p 2 0), (61, .v (p.h1.val p.groups.length)), (62, .v (.int .i64 (p.groups.length : Int))), (63, .v (.int .i64 (q.1.1 : Int)))] 3 0 [(0, 26, 5), (1, 35, 9), (2, 35, 9)]
     [((0, 0), .v (p.h0.val p.sems.length)), ((0, 1), .v (p.h1.val p.groups.length)), ((0, 2), .v (p.h2.val p.barriers.length)), ((0, 3), .v (p.h3.val p.rooms.length)), ((0, 4), .v (p.h4.val p.threads.length)), ((2, 0), .v (a.val LP.length)), ((2, 1), .v (s.val LS.length)), ((2, 2), .v (c0.val L0.length)), ((2, 3), .v (y.val 3)), ((2, 4), .v (q.1.2.val (L1.take q.1.1).length)), ((2, 5), .v (.slice none 0 0)), ((2, 6), .v (.slice none 0 0)), ((2, 7), .v (.slice none 0 0)), ((2, 8), .v (.int .i64 0))]
     [own q.1.2 108 dR 2 (L1.take q.1.1), own c0 95 gI 3 L0, own a 3 aJ 1 LP, own s 3 aJ 1 LS, own y 102 eD 4 [cU, cU, cU], fR (aY p)],
   fun q => p.groups.length - q.1.1, ⟨(0, ⟨none, 0⟩), Nat.zero_le _⟩, ?_, ?_⟩
 · refine aC [99, 0, 1, 2, 3, 4] ?_ ?_ ?_ ?_ ?_ rfl rfl
   · exact zw23
   · exact zw0
   · exact zw23
   · exact zw5
   · repeat (first | exact trivial | refine ⟨.inl ⟨_, rfl, (by first | rfl | ((first | (rw [e0]; done))))⟩, ?_⟩ | refine ⟨.inr z139, ?_⟩)
 rintro ⟨⟨k1, c1⟩, hk⟩
 simp only at hk
 apply CaseB.mk <;> intro g
 · have hlt : k1 < p.groups.length := by simpa using g
   have e : ∀ x, x = (⟨⟨p.groups[k1], []⟩, ⟨none, 0⟩⟩ : GroupH) → L1.take k1 ++ [x] = L1.take (k1 + 1) := fun x hx => by rw [hL1]; exact aR hlt rfl hx
   have hw := bD k1 _ hlt (by omega)
   refine aG aE aA rfl rfl rfl rfl rfl ⟨rfl, rfl⟩ (aL 5 rfl (.ofR (iW p))) k1 rfl z43 (fun ad => ?_)
   refine AllSl.mk fun u => ?_
   refine bQ cI 1 aA (ys := [⟨⟨p.groups[k1], []⟩, ⟨none, 0⟩⟩]) rfl rfl rfl rfl rfl rfl rfl rfl rfl (by decide) ⟨rfl, rfl⟩ rfl z35 z43 z43 (fun c1' => ?_)
   rw [e _ rfl]
   refine ⟨⟨(k1 + 1, c1'), by omega⟩, ?_, by simp only; omega⟩
   exact aC [0, 2, 3, 4, 5, 6] zw1 zw0 zw1 zw5 zw3 rfl rfl
 have hge1 : p.groups.length ≤ k1 := by simpa using g
 have e1 : L1.take k1 = L1 := List.take_of_length_le (by omega)
 obtain ⟨L2, hL2⟩ : ∃ l, l = p.barriers.map (fun n => (⟨⟨n, 0, []⟩, ⟨none, 0⟩⟩ : BarrierH)) := ⟨_, rfl⟩
 have lenL2 : L2.length = p.barriers.length := by rw [hL2]; simp
 refine LoopW.mk ⟨{ q : Nat × Sl // q.1 ≤ p.barriers.length },
   fun q => .mk [(1, .p 0 0), (2, .p 1 0), (4, .p 2 0), (76, .v (p.h2.val p.barriers.length)), (77, .v (.int .i64 (p.barriers.length : Int))), (78, .v (.int .i64 (q.1.1 : Int)))] 3 0 [(0, 26, 5), (1, 35, 9), (2, 35, 9)]
     [((0, 0), .v (p.h0.val p.sems.length)), ((0, 1), .v (p.h1.val p.groups.length)), ((0, 2), .v (p.h2.val p.barriers.length)), ((0, 3), .v (p.h3.val p.rooms.length)), ((0, 4), .v (p.h4.val p.threads.length)), ((2, 0), .v (a.val LP.length)), ((2, 1), .v (s.val LS.length)), ((2, 2), .v (c0.val L0.length)), ((2, 3), .v (y.val 3)), ((2, 4), .v (c1.val L1.length)), ((2, 5), .v (q.1.2.val (L2.take q.1.1).length)), ((2, 6), .v (.slice none 0 0)), ((2, 7), .v (.slice none 0 0)), ((2, 8), .v (.int .i64 0))]
     [own q.1.2 114 dA 3 (L2.take q.1.1), own c1 108 dR 2 L1, own c0 95 gI 3 L0, own a 3 aJ 1 LP, own s 3 aJ 1 LS, own y 102 eD 4 [cU, cU, cU], fR (aY p)],
   fun q => p.barriers.length - q.1.1, ⟨(0, ⟨none, 0⟩), Nat.zero_le _⟩, ?_, ?_⟩
 · exact aC [99, 0, 1, 2, 3, 4, 5] zw16 zw0 zw16 zw5 zw31 rfl rfl
 rintro ⟨⟨k2, c2⟩, hk⟩
 simp only at hk
 apply CaseB.mk <;> intro g
 · have hlt : k2 < p.barriers.length := by simpa using g
   have e : ∀ x, x = (⟨⟨p.barriers[k2], 0, []⟩, ⟨none, 0⟩⟩ : BarrierH) → L2.take k2 ++ [x] = L2.take (k2 + 1) := fun x hx => by rw [hL2]; exact aR hlt rfl hx
   have hw := bD k2 _ hlt (by omega)
   refine aG aE aA rfl rfl rfl rfl rfl ⟨rfl, rfl⟩ (aL 6 rfl (.ofR (eH p))) k2 rfl z43 (fun ad => ?_)
   refine AllSl.mk fun u => ?_
   refine bQ cA 1 aA (ys := [⟨⟨p.barriers[k2], 0, []⟩, ⟨none, 0⟩⟩]) rfl rfl rfl rfl rfl rfl rfl rfl rfl (by decide) ⟨rfl, rfl⟩ rfl z35 z43 z43 (fun c2' => ?_)
   rw [e _ rfl]
   refine ⟨⟨(k2 + 1, c2'), by omega⟩, ?_, by simp only; omega⟩
   exact aC [0, 2, 3, 4, 5, 6, 7] zw1 zw0 zw1 zw5 zw3 rfl rfl
 have hge2 : p.barriers.length ≤ k2 := by simpa using g
 have e2 : L2.take k2 = L2 := List.take_of_length_le (by omega)
 obtain ⟨L3, hL3⟩ : ∃ l, l = p.rooms.map (fun n => (⟨⟨n, [], [], [], false⟩, ⟨none, 0⟩, ⟨none, 0⟩, ⟨none, 0⟩⟩ : ChanH)) := ⟨_, rfl⟩
 have lenL3 : L3.length = p.rooms.length := by rw [hL3]; simp
 refine LoopW.mk ⟨{ q : Nat × Sl // q.1 ≤ p.rooms.length },
   fun q => .mk [(1, .p 0 0), (2, .p 1 0), (4, .p 2 0), (91, .v (p.h3.val p.rooms.length)), (92, .v (.int .i64 (p.rooms.length : Int))), (93, .v (.int .i64 (q.1.1 : Int)))] 3 0 [(0, 26, 5), (1, 35, 9), (2, 35, 9)]
     [((0, 0), .v (p.h0.val p.sems.length)), ((0, 1), .v (p.h1.val p.groups.length)), ((0, 2), .v (p.h2.val p.barriers.length)), ((0, 3), .v (p.h3.val p.rooms.length)), ((0, 4), .v (p.h4.val p.threads.length)), ((2, 0), .v (a.val LP.length)), ((2, 1), .v (s.val LS.length)), ((2, 2), .v (c0.val L0.length)), ((2, 3), .v (y.val 3)), ((2, 4), .v (c1.val L1.length)), ((2, 5), .v (c2.val L2.length)), ((2, 6), .v (q.1.2.val (L3.take q.1.1).length)), ((2, 7), .v (.slice none 0 0)), ((2, 8), .v (.int .i64 0))]
     [own q.1.2 119 fH 5 (L3.take q.1.1), own c2 114 dA 3 L2, own c1 108 dR 2 L1, own c0 95 gI 3 L0, own a 3 aJ 1 LP, own s 3 aJ 1 LS, own y 102 eD 4 [cU, cU, cU], fR (aY p)],
   fun q => p.rooms.length - q.1.1, ⟨(0, ⟨none, 0⟩), Nat.zero_le _⟩, ?_, ?_⟩
 · exact aC [99, 0, 1, 2, 3, 4, 5, 6] zw17 zw0 zw17 zw5 zw32 rfl rfl
 rintro ⟨⟨k3, c3⟩, hk⟩
 simp only at hk
 apply CaseB.mk <;> intro g
 · have hlt : k3 < p.rooms.length := by simpa using g
   have e : ∀ x, x = (⟨⟨p.rooms[k3], [], [], [], false⟩, ⟨none, 0⟩, ⟨none, 0⟩, ⟨none, 0⟩⟩ : ChanH) → L3.take k3 ++ [x] = L3.take (k3 + 1) := fun x hx => by rw [hL3]; exact aR hlt rfl hx
   have hw := bD k3 _ hlt (by omega)
   refine aG aE aA rfl rfl rfl rfl rfl ⟨rfl, rfl⟩ (aL 7 rfl (.ofR (gN p))) k3 rfl z43 (fun ad => ?_)
   refine AllSl.mk fun u => ?_
   refine bQ cN 1 aA (ys := [⟨⟨p.rooms[k3], [], [], [], false⟩, ⟨none, 0⟩, ⟨none, 0⟩, ⟨none, 0⟩⟩]) rfl rfl rfl rfl rfl rfl rfl rfl rfl (by decide) ⟨rfl, rfl⟩ rfl z35 z43 z43 (fun c3' => ?_)
   rw [e _ rfl]
   refine ⟨⟨(k3 + 1, c3'), by omega⟩, ?_, by simp only; omega⟩
   exact aC [0, 2, 3, 4, 5, 6, 7, 8] zw1 zw0 zw1 zw5 zw3 rfl rfl
 have hge3 : p.rooms.length ≤ k3 := by simpa using g
 have e3 : L3.take k3 = L3 := List.take_of_length_le (by omega)
 simp only [e3]
 generalize hy : (⟨LP, LS, L0, [cU, cU, cU], L1, L2, L3, [], 0, a, s, c0, y, c1, c2, c3, ⟨none, 0⟩⟩ : StateH) = Y
 have nil0 : ∀ g ∈ L0.flatMap oD, dQ g := xD fun x hx g hg => by
   rw [hL0] at hx; obtain ⟨n, _, rfl⟩ := List.mem_map.1 hx; simp [oD] at hg; subst hg; exact ⟨rfl, rfl, rfl, rfl⟩
 have nil1 : ∀ g ∈ L1.flatMap jD, dQ g := xD fun x hx g hg => by
   rw [hL1] at hx; obtain ⟨n, _, rfl⟩ := List.mem_map.1 hx; simp [jD] at hg; subst hg; exact ⟨rfl, rfl, rfl, rfl⟩
 have nil2 : ∀ g ∈ L2.flatMap eC, dQ g := xD fun x hx g hg => by
   rw [hL2] at hx; obtain ⟨n, _, rfl⟩ := List.mem_map.1 hx; simp [eC] at hg; subst hg; exact ⟨rfl, rfl, rfl, rfl⟩
 have nil3 : ∀ g ∈ L3.flatMap gM, dQ g := xD fun x hx g hg => by
   rw [hL3] at hx; obtain ⟨n, _, rfl⟩ := List.mem_map.1 hx; simp [gM] at hg; rcases hg with rfl | rfl | rfl <;> exact ⟨rfl, rfl, rfl, rfl⟩
 have hU : ∀ g ∈ [cU, cU, cU].flatMap mW, dQ g := xD fun x hx g hg => by
   simp at hx; subst hx; simp [mW, cU] at hg; subst hg; exact ⟨rfl, rfl, rfl, rfl⟩
 have nil5 : ∀ g ∈ [own ⟨none, 0⟩ 3 aJ 1 ([] : List Int)], dQ g := fun g hg => by
   simp at hg; subst hg; exact ⟨rfl, rfl, rfl, rfl⟩
 refine aO (.joinO [4, 5, 3, 90, 6, 91, 2, 92, 1, 93, 0, 94, 95] (Gs := [[_], [_], [_], _, [_], _, [_], _, [_], _, [_], _, _])
   ⟨.inl ⟨_, rfl, .own⟩, .inl ⟨_, rfl, .own⟩, .inl ⟨_, rfl, .own⟩, .inr ⟨Nat.le_of_ble_eq_true rfl, nil0⟩, .inl ⟨_, rfl, .own⟩, .inr ⟨Nat.le_of_ble_eq_true rfl, hU⟩, .inl ⟨_, rfl, .own⟩, .inr ⟨Nat.le_of_ble_eq_true rfl, nil1⟩, .inl ⟨_, rfl, .own⟩, .inr ⟨Nat.le_of_ble_eq_true rfl, nil2⟩, .inl ⟨_, rfl, .own⟩, .inr ⟨Nat.le_of_ble_eq_true rfl, nil3⟩, .inr ⟨Nat.le_of_ble_eq_true rfl, nil5⟩, trivial⟩ rfl (G := aK Y) (.of_eq z56)) ?_
 have hYp : Y.pure = start p.pure := by
   rw [← hy]
   simp [StateH.pure, start, ProgH.pure, hLP, hLS, hL0, hL1, hL2, hL3, cU]
 exact bG [0] ⟨Y, true, by rw [← hy], jS ok, fun _ => hYp, fun e => z105, rfl⟩ z144 rfl ⟨rfl, trivial⟩ (fun _ => rfl)
def Sem.small20 (m : Sem) : Prop := m.queue.length ≤ 1048576
def Once.small20 (m : Once) : Prop := m.waits.length ≤ 1048576
def Group.small20 (m : Group) : Prop := m.waits.length ≤ 1048576
def Barrier.small20 (m : Barrier) : Prop := m.waits.length ≤ 1048576
def Chan.small20 (m : Chan) : Prop := m.items.length ≤ 1048576 ∧ m.senders.length ≤ 1048576 ∧ m.getters.length ≤ 1048576
def State.small20 (s : State) : Prop := s.places.length ≤ 1048576 ∧ s.status.length ≤ 1048576 ∧ eB0 Sem.small20 s.sems ∧ eB0 Once.small20 s.onces ∧ eB0 Group.small20 s.groups ∧ eB0 Barrier.small20 s.barriers ∧ eB0 Chan.small20 s.chans ∧ s.said.length ≤ 1048576
def OpS.small20 (m : List Op) : Prop := m.length ≤ 1048576
def Prog.small20 (s : Prog) : Prop := s.sems.length ≤ 1048576 ∧ s.groups.length ≤ 1048576 ∧ s.barriers.length ≤ 1048576 ∧ s.rooms.length ≤ 1048576 ∧ eB0 OpS.small20 s.threads
theorem eE0 (x y : Waiting) (w : World) : (binOp .neq 179 (.agg (cF0 x).toArray) (.agg (cF0 y).toArray)).run Tryz.prog w = .ok (.bool (decide (x ≠ y))) w := by
 have h := cE0 (P := Tryz.prog) (t := 179) (it := 3) (xs := [x.kind, x.on, x.arg]) (ys := [y.kind, y.on, y.arg]) z102 z102 z102 rfl z102 w
 have e : ([x.kind, x.on, x.arg] ≠ [y.kind, y.on, y.arg]) ↔ x ≠ y := by cases x; cases y; simp
 rw [show decide (x ≠ y) = decide ([x.kind, x.on, x.arg] ≠ [y.kind, y.on, y.arg]) from by simp only [e]]
 exact h
def aN {β : Type} (es : List (Int × β)) (t : Int) : List β := (es.filter fun e => e.1 == t).map (·.2)
theorem zC {β : Type} (m : List (Int × β)) (k : Int) (v : β) (t : Int) : cL (fW m k v) t = if k = t then some v else cL m t := by
 induction m with
 | nil => simp only [fW, cL]
 | cons p r ih =>
   obtain ⟨q, u⟩ := p
   simp only [fW]
   by_cases e : q = k
   · subst e
     simp only [if_true, cL]
     by_cases e2 : q = t <;> simp [e2]
   · simp only [e, if_false, cL, ih]
     by_cases e2 : q = t
     · subst e2
       have : ¬ k = q := fun h => e h.symm
       simp [this]
     · simp [e2]
theorem uO {β : Type} (es : List (Int × β)) (t : Int) : cL (dX es) t = if aN es t = [] then none else some (aN es t) := by
 have : ∀ (es : List (Int × β)) (m : List (Int × List β)) (f : List β), (cL m t = if f = [] then none else some f) → cL (es.foldl oG m) t = if f ++ aN es t = [] then none else some (f ++ aN es t) := fun es => by
   induction es with
   | nil => intro m f h; simpa [aN] using h
   | cons e r ih =>
     intro m f h
     obtain ⟨k, x⟩ := e
     simp only [List.foldl_cons]
     by_cases hk : k = t
     · subst hk
       have h1 : cL (oG m (k, x)) k = some (f ++ [x]) := by
         rw [oG, zC, if_pos rfl, h]
         by_cases hf : f = []
         · simp [hf]
         · simp [hf]
       have := ih (oG m (k, x)) (f ++ [x]) (by rw [h1]; simp)
       rw [this]
       simp [aN]
     · have h1 : cL (oG m (k, x)) t = cL m t := by rw [oG, zC, if_neg hk]
       have := ih (oG m (k, x)) f (by rw [h1]; exact h)
       rw [this]
       have e2 : aN ((k, x) :: r) t = aN r t := by simp [aN, hk]
       rw [e2]
 have := this es [] [] (by simp [cL])
 simpa [dX] using this
theorem eF0 {β : Type} (es : List (Int × β)) (t : Int) : (cL (dX es) t).getD [] = aN es t := by
 rw [uO]
 by_cases h : aN es t = [] <;> simp [h]
theorem oH {β : Type} {es : List (Int × β)} {t : Int} : aN es t = [] ↔ ∀ e ∈ es, e.1 ≠ t := by
 simp [aN, List.filter_eq_nil_iff]
def lN {β : Type} (m : List (Int × β)) : Prop := (m.map (·.1)).Nodup
theorem hF0 {β : Type} (m : List (Int × β)) (k : Int) (v : β) : (fW m k v).map (·.1) = if k ∈ m.map (·.1) then m.map (·.1) else m.map (·.1) ++ [k] := by
 induction m with
 | nil => simp [fW]
 | cons p r ih =>
   obtain ⟨q, u⟩ := p
   simp only [fW]
   by_cases e : q = k
   · simp [e]
   · have e' : ¬ k = q := fun h => e h.symm
     simp only [e, if_false, List.map_cons, ih, List.mem_cons, e', false_or]
     split <;> simp
theorem vL {β : Type} (es : List (Int × β)) : lN (dX es) := by
 have : ∀ (es : List (Int × β)) (m : List (Int × List β)), lN m → lN (es.foldl oG m) := fun es => by
   induction es with
   | nil => intro m h; exact h
   | cons e r ih =>
     intro m h
     refine ih _ ?_
     simp only [lN, oG, hF0] at h ⊢
     split
     · exact h
     · rename_i hn
       rw [List.nodup_append]
       exact ⟨h, by simp, fun a ha b hb => by simp at hb; subst hb; rintro rfl; exact hn ha⟩
 exact this es [] (by simp [lN])
theorem cI0 {β : Type} {ps : List (Int × LH β)} : lN (pm ps) ↔ lN ps := by
 simp [lN, pm, Function.comp_def]
theorem hG0 {β : Type} {m : List (Int × β)} {t : Int} : cL m t = none ↔ t ∉ m.map (·.1) := by
 induction m with
 | nil => simp [cL]
 | cons p r ih =>
   obtain ⟨q, u⟩ := p
   simp only [cL]
   by_cases e : q = t
   · simp [e]
   · have e' : ¬ t = q := fun h => e h.symm
     simp [e, e', ih]
theorem wD {β : Type} {m : List (Int × β)} {t : Int} {u : β} (h : cL m t = some u) : (t, u) ∈ m := by
 induction m with
 | nil => simp [cL] at h
 | cons p r ih =>
   obtain ⟨q, v⟩ := p
   simp only [cL] at h
   by_cases e : q = t
   · simp only [e, if_true, Option.some.injEq] at h
     subst h; subst e; simp
   · simp only [e, if_false] at h
     exact List.mem_cons_of_mem _ (ih h)
theorem cJ0 {β : Type} (m : List (Int × β)) (t : Int) : (fP m t).Sublist m := by
 induction m with
 | nil => exact .refl _
 | cons p r ih =>
   obtain ⟨q, v⟩ := p
   simp only [fP]
   split
   · exact List.sublist_cons_self _ _
   · exact ih.cons_cons _
theorem hH0 {β : Type} {m : List (Int × β)} (h : lN m) (t : Int) : lN (fP m t) := h.sublist ((cJ0 m t).map _)
theorem jX0 {β : Type} {m : List (Int × β)} (h : lN m) (t x : Int) : cL (fP m t) x = if x = t then none else cL m x := by
 induction m with
 | nil => simp [fP, cL]
 | cons p r ih =>
   obtain ⟨q, v⟩ := p
   have hq : q ∉ r.map (·.1) ∧ lN r := by simpa [lN] using h
   simp only [fP]
   by_cases e : q = t
   · subst e
     simp only [if_true]
     by_cases ex : x = q
     · subst ex; simp only [if_true]; exact hG0.2 hq.1
     · have : ¬ q = x := fun h => ex h.symm
       simp [ex, cL, this]
   · simp only [e, if_false, cL, ih hq.2]
     by_cases ex : q = x
     · subst ex; simp [e]
     · simp [ex]
theorem cK0 {β : Type} {m : List (Int × β)} (h : ∀ x, cL m x = none) : m = [] := by
 cases m with
 | nil => rfl
 | cons p r =>
   have := h p.1
   simp [cL] at this
theorem wE {β : Type} {ty : TypeId} {enc : β → List Value} {sz : Nat} {ps : List (Int × LH β)} {t : Int} {u : LH β} (h : (t, u) ∈ ps) : RdIn (nL ty enc sz ps) (slo u.q enc sz u.xs) :=
 RdIn.own (o := false) (e := ty) (List.mem_flatMap.2 ⟨_, h, by simp⟩)
structure Left {β : Type} (ps qs : List (Int × LH β)) (k : Nat) : Prop where
 sub : qs.Sublist ps
 key : lN qs
 get : ∀ x, cL qs x = if 0 ≤ x ∧ x < k then none else cL ps x
theorem Left.start {β : Type} {ps : List (Int × LH β)} (h : lN ps) : Left ps ps 0 := ⟨.refl _, h, fun x => by rw [if_neg (by omega)]⟩
theorem Left.next {β : Type} {ps qs : List (Int × LH β)} {k : Nat} (h : Left ps qs k) : Left ps (fP qs (k : Int)) (k + 1) := by
 refine ⟨(cJ0 _ _).trans h.sub, hH0 h.key _, fun x => ?_⟩
 rw [jX0 h.key, h.get]
 by_cases e : x = k
 · rw [if_pos e, if_pos (by omega)]
 · rw [if_neg e]
   by_cases e2 : 0 ≤ x ∧ x < k
   · rw [if_pos e2, if_pos (by omega)]
   · rw [if_neg e2, if_neg (by omega)]
theorem Left.at {β : Type} {ps qs : List (Int × LH β)} {k : Nat} (h : Left ps qs k) {es : List (Int × β)} (he : pm ps = dX es) : ((cL qs (k : Int)).getD LH.nil).xs = aN es k := by
 have h1 := h.get k
 rw [if_neg (by omega)] at h1
 have h2 := eF0 es (k : Int)
 rw [← he, tB] at h2
 rw [h1, ← h2]
 cases cL ps (k : Int) <;> rfl
theorem Left.done {β : Type} {ps qs : List (Int × LH β)} {k : Nat} (h : Left ps qs k) {es : List (Int × β)} (he : pm ps = dX es) : qs = [] ↔ ∀ e ∈ es, 0 ≤ e.1 ∧ e.1 < k := by
 constructor
 · rintro rfl e hm
   refine Classical.byContradiction fun hn => ?_
   have h1 := h.get e.1
   rw [if_neg hn] at h1
   have h2 := uO es e.1
   have h3 : aN es e.1 ≠ [] := fun h0 => oH.1 h0 e hm rfl
   rw [if_neg h3, ← he, tB, ← h1] at h2
   simp [cL] at h2
 · intro hall
   refine cK0 fun x => ?_
   rw [h.get]
   split
   · rfl
   · rename_i hn
     have h3 : aN es x = [] := oH.2 fun e hm hx => hn (hx ▸ hall e hm)
     have h2 := uO es x
     rw [if_pos h3, ← he, tB] at h2
     cases hq : cL ps x with
     | none => rfl
     | some u => rw [hq] at h2; simp at h2
def kE (o : Op) : Waiting := ⟨o.kind, o.on, if o.kind = 2 ∨ o.kind = 8 then o.arg else 0⟩
def lO (ops : List Op) (at_ st : Int) (w : List Waiting) (o : List Int) : Prop :=
 0 ≤ at_ ∧ at_ ≤ ops.length ∧ ((at_ = ops.length ∧ st = 3 ∧ w = [] ∧ o = []) ∨
   ∃ op, ops[at_.toNat]? = some op ∧ ((st = 0 ∧ w = [] ∧ o = []) ∨ (st = 1 ∧ o = [] ∧ w = [kE op]) ∨ (st = 2 ∧ w = [] ∧ op.kind = 4 ∧ o = [op.on])))
structure Fits (p : Prog) (s : State) : Prop where
 prog : ProgOk p
 np : s.places.length = p.threads.length
 ns : s.status.length = p.threads.length
 lsems : s.sems.length = p.sems.length
 lgroups : s.groups.length = p.groups.length
 lbarriers : s.barriers.length = p.barriers.length
 lchans : s.chans.length = p.rooms.length
 lonces : s.onces.length = 3
 lsaid : s.said.length ≤ 64
 f0 : 0 ≤ s.fault
 f4 : s.fault ≤ 4
 sems : ∀ (i : Nat) x, s.sems[i]? = some x → SemOk x ∧ p.sems[i]? = some x.limit
 groups : ∀ x ∈ s.groups, fD x
 barriers : ∀ (i : Nat) x, s.barriers[i]? = some x → dP x ∧ p.barriers[i]? = some x.parties
 chans : ∀ (i : Nat) x, s.chans[i]? = some x → x.valid = true ∧ p.rooms[i]? = some x.room
 onces : ∀ x ∈ s.onces, eI x
 said : ∀ v ∈ s.said, aV v = true
 threads : ∀ (t : Nat) ops at_ st, p.threads[t]? = some ops → s.places[t]? = some at_ → s.status[t]? = some st → lO ops at_ st (aN (bH s) t) (aN (cJ s) t)
 ev : ∀ e ∈ bH s, 0 ≤ e.1 ∧ e.1 < p.threads.length
 ow : ∀ e ∈ cJ s, 0 ≤ e.1 ∧ e.1 < p.threads.length
theorem oW {α β : Type} {f : Nat → α → List β} {C : Nat} : ∀ {i : Nat} {xs : List α}, (∀ i x, x ∈ xs → (f i x).length ≤ C) → (evL f i xs).length ≤ xs.length * C
 | i, [], _ => by simp [evL]
 | i, x :: r, h => by
   have h1 := h i x (by simp)
   have h2 := oW (i := i + 1) (xs := r) fun i y hy => h i y (by simp [hy])
   have e : (r.length + 1) * C = r.length * C + C := Nat.succ_mul _ _
   simp only [evL, List.length_append, List.length_cons, e]
   omega
theorem eZ {m : Once} (h : eI m) : m.waits.length ≤ 6 := by
 rcases h with h | h | h
 · rw [h.2.2.2]; simp
 · exact cW h.2.2.2.1
 · rw [h.2.2.2]; simp
theorem gA {m : Barrier} (h : dP m) : m.waits.length ≤ 6 := cW h.2.2.2.2.2
theorem fQ {m : Group} (h : fD m) : m.waits.length ≤ 6 := cW h.2.1
theorem mX {m : Chan} (h : m.valid = true) : m.senders.length + m.getters.length ≤ 6 := by
 have hv : m.Valid := by simpa [Chan.valid] using h
 have := cW hv.di
 simpa [Chan.threads] using this
theorem tG (m : Chan) (i s g : Sl) (w : World) (h : At w [slo i aJ 1 m.items, slo s fX 2 m.senders, slo g aJ 1 m.getters]) (hb : m.small) :
   Calls Tryz.prog 181 #[iZ m i s g] w (Ret w fun v L => v = .bool m.valid ∧ L = []) := by
 obtain ⟨b1, b2, b3⟩ := hb
 have bT : m.threads.length ≤ 8589934592 := by simp [Chan.threads]; omega
 have hno : ∀ {P : Prop}, ¬ P → (m.Valid → P) → ∀ A, gZ A [SV.lit false] = Value.bool m.valid := fun h1 h2 _ => Chan.invalid fun hv => h1 (h2 hv)
 refine bZ Tryz.func181 rfl aA w _ rfl _ rfl _ h z140 _ (by decide) ?_
 refine CaseB.mk (fun h1 => ?_) (fun h1 => ?_)
 · exact aH ⟨rfl, rfl⟩ (hno (by simp at h1; omega) Chan.Valid.r0)
 · have r0 : 0 ≤ m.room := by simp at h1; omega
   refine CaseB.mk (fun h2 => ?_) (fun h2 => ?_)
   · exact aH ⟨rfl, rfl⟩ (hno (by simp at h2; omega) Chan.Valid.r1)
   · have r1 : m.room ≤ 4 := by simp at h2; omega
     refine CaseB.mk (fun h3 => ?_) (fun h3 => ?_)
     · exact aH ⟨rfl, rfl⟩ (hno (by simp at h3; omega) Chan.Valid.it)
     · have it : (m.items.length : Int) ≤ m.room := by simp at h3; omega
       refine CaseB.mk (fun h4 => ?_) (fun h4 => ?_)
       · exact aH ⟨rfl, rfl⟩ (hno (P := m.senders.length ≤ 6) (by simp at h4; omega) (fun hv => by have := cW hv.di; simp [Chan.threads] at this; omega))
       refine CaseB.mk (fun h5 => ?_) (fun h5 => ?_)
       · exact aH ⟨rfl, rfl⟩ (hno (P := m.getters.length ≤ 6) (by simp at h5; omega) (fun hv => by have := cW hv.di; simp [Chan.threads] at this; omega))
       have e7 : m.senders.take 7 = m.senders := List.take_of_length_le (by simp at h4; omega)
       refine LoopW.mk ⟨{ k : Nat // k ≤ m.items.length ∧ ∀ x ∈ m.items.take k, aV x = true },
         fun p => .mk [(1, .p 0 0), (3, .v (.int .i64 p.1))] 1 0 [(0, 119, 5)] [((0, 0), .v (.int .i64 m.room)), ((0, 1), .v (i.val m.items.length)), ((0, 2), .v (s.val m.senders.length)), ((0, 3), .v (g.val m.getters.length)), ((0, 4), .v (.bool m.closed))] [slo i aJ 1 m.items, slo s fX 2 m.senders, slo g aJ 1 m.getters],
         fun p => m.items.length - p.1, ⟨0, Nat.zero_le _, by simp⟩, ?_, ?_⟩
       · exact aC [0, 1, 2] zw2 zw0 zw2 zw5 zw4 rfl rfl
       · rintro ⟨k, hk, ha⟩
         refine CaseB.mk (fun h => ?_) (fun h => ?_)
         · have hlt : k < m.items.length := by simpa using h
           refine aG aE aA rfl rfl rfl rfl rfl ⟨rfl, rfl⟩ z35 k rfl z43 (fun ad => ?_)
           refine aB _ pU rfl rfl rfl rfl ⟨rfl, rfl⟩ (fun A w hW => gF _ w) ?_
           rintro v L ⟨rfl, rfl⟩
           refine CaseB.mk (fun h => ?_) (fun h => ?_)
           · exact aH ⟨rfl, rfl⟩ (hno z95 (fun hv => hv.iv _ (List.getElem_mem hlt)))
           · have hw := lK k _ hlt b1
             refine ⟨⟨k + 1, by omega, jH hlt ha z95⟩, ?_, by simp; omega⟩
             exact aC [0, 1, 2] zw1 zw0 zw1 zw5 zw3 rfl rfl
         · have hge : m.items.length ≤ k := by simpa using h
           rw [List.take_of_length_le hge] at ha
           refine LoopW.mk ⟨{ k : Nat // k ≤ m.senders.length ∧ ∀ x ∈ m.senders.take k, aV x.v = true },
             fun p => .mk [(1, .p 0 0), (4, .v (.int .i64 p.1))] 1 0 [(0, 119, 5)] [((0, 0), .v (.int .i64 m.room)), ((0, 1), .v (i.val m.items.length)), ((0, 2), .v (s.val m.senders.length)), ((0, 3), .v (g.val m.getters.length)), ((0, 4), .v (.bool m.closed))] [slo i aJ 1 m.items, slo s fX 2 m.senders, slo g aJ 1 m.getters],
             fun p => m.senders.length - p.1, ⟨0, Nat.zero_le _, by simp⟩, ?_, ?_⟩
           · exact aC [0, 1, 2] zw2 zw0 zw2 zw5 zw4 rfl rfl
           · rintro ⟨k, hk, hs⟩
             refine CaseB.mk (fun h => ?_) (fun h => ?_)
             · have hlt : k < m.senders.length := by simpa using h
               refine aG gR aA rfl rfl rfl rfl rfl ⟨rfl, rfl⟩ z35 k rfl z43 (fun ad => ?_)
               refine aB _ pU rfl rfl rfl rfl ⟨rfl, rfl⟩ (fun A w hW => gF _ w) ?_
               rintro v L ⟨rfl, rfl⟩
               refine CaseB.mk (fun h => ?_) (fun h => ?_)
               · exact aH ⟨rfl, rfl⟩ (hno z95 (fun hv => hv.sv _ (List.getElem_mem hlt)))
               · have hw := lK k _ hlt b2
                 refine ⟨⟨k + 1, by omega, jH (p := fun l : Letter => aV l.v = true) hlt hs z95⟩, ?_, by simp; omega⟩
                 exact aC [0, 1, 2] zw1 zw0 zw1 zw5 zw3 rfl rfl
             · have hge : m.senders.length ≤ k := by simpa using h
               rw [List.take_of_length_le hge] at hs
               refine aF aA z102 z102 z102 200 [((0, 2), .v (s.val m.senders.length)), ((0, 3), .v (g.val m.getters.length))] [0, 1, 2] [_, _, _] z135 z145 ⟨rfl, rfl, rfl, trivial⟩ rfl ?_
               refine bN _ fR0 rfl rfl rfl rfl ⟨rfl, rfl⟩ (fun A w hW => nH s m.senders w ⟨z34, trivial⟩ b2) ?_
               rw [e7]
               rintro v L ⟨y, rfl, rfl⟩
               refine mQ (ti := aU tab) aE aA  rfl rfl rfl rfl rfl rfl rfl rfl rfl (by decide) ⟨rfl, rfl⟩ z39 z35 z43 z43 z100 (fun z => ?_)
               refine bN _ fT0 rfl rfl rfl rfl ⟨rfl, rfl⟩ (fun A w hW => qU z m.threads w ⟨z34, trivial⟩ bT) ?_
               rintro v L ⟨rfl, rfl⟩
               refine CaseB.mk (fun h => ?_) (fun h => ?_)
               · exact aH ⟨rfl, rfl⟩ (hno z95 Chan.Valid.di)
               · have hd : bA m.threads = true := by simpa using h
                 have fin : (m.senders ≠ [] → (m.items.length : Int) = m.room ∧ m.getters = [] ∧ m.closed = false) → (m.getters ≠ [] → m.items = [] ∧ m.closed = false) → m.Valid := fun x y => ⟨r0, r1, it, ha, hs, hd, x, y⟩
                 refine CaseB.mk (fun q1 => ?_) (fun q1 => ?_)
                 · have hs1 : m.senders ≠ [] := eL.1 q1
                   refine CaseB.mk (fun q2 => ?_) (fun q2 => ?_)
                   · exact aH ⟨rfl, rfl⟩ (fun _ => Chan.invalid (fun hv => by have := (hv.se hs1).1; simp at q2; omega))
                   · have e2 : (m.items.length : Int) = m.room := by simp at q2; omega
                     refine CaseB.mk (fun q3 => ?_) (fun q3 => ?_)
                     · exact aH ⟨rfl, rfl⟩ (fun _ => Chan.invalid (fun hv => eL.1 q3 (hv.se hs1).2.1))
                     · have e3 : m.getters = [] := by
                         cases hg : m.getters with
                         | nil => rfl
                         | cons a r => rw [hg] at q3; simp at q3
                       refine CaseB.mk (fun q4 => ?_) (fun q4 => ?_)
                       · exact aH ⟨rfl, rfl⟩ (fun _ => Chan.invalid (fun hv => by have := (hv.se hs1).2.2; rw [q4] at this; cases this))
                       · have hS : m.senders ≠ [] → (m.items.length : Int) = m.room ∧ m.getters = [] ∧ m.closed = false := fun _ => ⟨e2, e3, q4⟩
                         refine CaseB.mk (fun q5 => ?_) (fun q5 => ?_)
                         · have hg : m.getters = [] := by simpa using q5
                           exact aH ⟨rfl, rfl⟩ (fun _ => Chan.isvalid (fin hS (fun hn => absurd hg hn)))
                         · have hg : m.getters ≠ [] := by simpa using q5
                           refine CaseB.mk (fun q6 => ?_) (fun q6 => ?_)
                           · have hi : m.items = [] := by simpa using q6
                             refine aH ⟨rfl, rfl⟩ (fun _ => ?_)
                             show Value.bool (!m.closed) = _
                             cases hc : m.closed with
                             | false => exact Chan.isvalid (fin hS (fun _ => ⟨hi, hc⟩))
                             | true => exact Chan.invalid (fun hv => by have := (hv.ge hg).2; rw [hc] at this; cases this)
                           · have hi : m.items ≠ [] := by simpa using q6
                             exact aH ⟨rfl, rfl⟩ (fun _ => Chan.invalid (fun hv => hi (hv.ge hg).1))
                 · have hs1 : m.senders = [] := by
                     cases hg : m.senders with
                     | nil => rfl
                     | cons a r => rw [hg] at q1; simp at q1
                   have hS : m.senders ≠ [] → (m.items.length : Int) = m.room ∧ m.getters = [] ∧ m.closed = false := fun hn => absurd hs1 hn
                   refine CaseB.mk (fun q5 => ?_) (fun q5 => ?_)
                   · have hg : m.getters = [] := by simpa using q5
                     exact aH ⟨rfl, rfl⟩ (fun _ => Chan.isvalid (fin hS (fun hn => absurd hg hn)))
                   · have hg : m.getters ≠ [] := by simpa using q5
                     refine CaseB.mk (fun q6 => ?_) (fun q6 => ?_)
                     · have hi : m.items = [] := by simpa using q6
                       refine aH ⟨rfl, rfl⟩ (fun _ => ?_)
                       show Value.bool (!m.closed) = _
                       cases hc : m.closed with
                       | false => exact Chan.isvalid (fin hS (fun _ => ⟨hi, hc⟩))
                       | true => exact Chan.invalid (fun hv => by have := (hv.ge hg).2; rw [hc] at this; cases this)
                     · have hi : m.items ≠ [] := by simpa using q6
                       exact aH ⟨rfl, rfl⟩ (fun _ => Chan.invalid (fun hv => hi (hv.ge hg).1))
theorem oX (m : Once) (q : Sl) (w : World) (h : At w [slo q aJ 1 m.waits]) (hb : m.waits.length ≤ 1048576) :
   Calls Tryz.prog 180 #[jX m q] w (iD w (eI m)) := by
 refine bZ Tryz.func180 rfl aA w _ rfl _ rfl _ h ⟨rfl, rfl, trivial⟩ _ (by decide) ?_
 refine CaseB.mk (fun k => ?_) (fun k0 => ?_)
 · have hx := aQ0 (m := m) z97
   apply CaseB.mk <;> intro g
   rotate_left
   · have q : ¬ (m.owner = 0) := by simpa using g
     exact aH ⟨_, rfl, tno fun e => q (hx.1 e).1, rfl⟩ (fun _ => rfl)
   have c1 : m.owner = 0 := by simpa using g
   apply CaseB.mk <;> intro g
   rotate_left
   · have q : ¬ (m.value = 0) := by simpa using g
     exact aH ⟨_, rfl, tno fun e => q (hx.1 e).2.1, rfl⟩ (fun _ => rfl)
   have c2 : m.value = 0 := by simpa using g
   exact aH ⟨_, rfl, by rw [hx]; simp [c1, c2], rfl⟩ (fun _ => rfl)
 refine CaseB.mk (fun k => ?_) (fun k1 => ?_)
 · have hx := qV (m := m) z97
   refine aB _ rK rfl rfl rfl rfl ⟨rfl, rfl⟩ (fun A w hW => fY _ w) ?_
   rintro v L ⟨rfl, rfl⟩
   apply CaseB.mk <;> intro g
   rotate_left
   · have q : ¬ (aZ m.owner = true) := by simpa using g
     exact aH ⟨_, rfl, tno fun e => q (hx.1 e).1, rfl⟩ (fun _ => rfl)
   have c1 : aZ m.owner = true := g
   apply CaseB.mk <;> intro g
   rotate_left
   · have q : ¬ (m.value = 0) := by simpa using g
     exact aH ⟨_, rfl, tno fun e => q (hx.1 e).2.1, rfl⟩ (fun _ => rfl)
   have c2 : m.value = 0 := by simpa using g
   refine aB _ fT0 rfl rfl rfl rfl ⟨rfl, rfl⟩ (fun A w hW => qU q m.waits w ⟨z34, trivial⟩ (by omega)) ?_
   rintro v L ⟨rfl, rfl⟩
   apply CaseB.mk <;> intro g
   rotate_left
   · have q : ¬ (bA m.waits = true) := by simpa using g
     exact aH ⟨_, rfl, tno fun e => q (hx.1 e).2.2.1, rfl⟩ (fun _ => rfl)
   have c3 : bA m.waits = true := g
   refine aB _ uG rfl rfl rfl rfl ⟨rfl, rfl⟩ (fun A w hW => kW q m.waits m.owner w ⟨z34, trivial⟩ (by omega)) ?_
   rintro v L ⟨rfl, rfl⟩
   have hm := eR m.waits m.owner
   exact aH ⟨_, rfl, by rw [hx, ← hm]; simp [c1, c2, c3], rfl⟩ (fun _ => rfl)
 refine CaseB.mk (fun k => ?_) (fun k2 => ?_)
 · have hx := aR0 (m := m) z97
   refine aB _ rK rfl rfl rfl rfl ⟨rfl, rfl⟩ (fun A w hW => fY _ w) ?_
   rintro v L ⟨rfl, rfl⟩
   apply CaseB.mk <;> intro g
   rotate_left
   · have q : ¬ (aZ m.owner = true) := by simpa using g
     exact aH ⟨_, rfl, tno fun e => q (hx.1 e).1, rfl⟩ (fun _ => rfl)
   have c1 : aZ m.owner = true := g
   refine aB _ pU rfl rfl rfl rfl ⟨rfl, rfl⟩ (fun A w hW => gF _ w) ?_
   rintro v L ⟨rfl, rfl⟩
   apply CaseB.mk <;> intro g
   rotate_left
   · have q : ¬ (aV m.value = true) := by simpa using g
     exact aH ⟨_, rfl, tno fun e => q (hx.1 e).2.1, rfl⟩ (fun _ => rfl)
   have c2 : aV m.value = true := g
   exact aH ⟨_, rfl, by rw [hx]; simp [c1, c2], rfl⟩ (fun _ => rfl)
 exact aH ⟨_, rfl, tno (gD0 (by simpa using k0) (by simpa using k1) (by simpa using k2)), rfl⟩ (fun _ => rfl)
theorem nX (m : Group) (q : Sl) (w : World) (h : At w [slo q aJ 1 m.waits]) (hb : m.waits.length ≤ 1048576) :
   Calls Tryz.prog 175 #[kN m q] w (iD w (fD m)) := by
 refine bZ Tryz.func175 rfl aA w _ rfl _ rfl _ h ⟨rfl, rfl, trivial⟩ _ (by decide) ?_
 refine aB _ pU rfl rfl rfl rfl ⟨rfl, rfl⟩ (fun A w hW => gF _ w) ?_
 rintro v L ⟨rfl, rfl⟩
 apply CaseB.mk <;> intro g
 rotate_left
 · have q : ¬ (aV m.count = true) := by simpa using g
   exact aH ⟨_, rfl, tno fun e => q e.1, rfl⟩ (fun _ => rfl)
 have c1 : aV m.count = true := g
 refine aB _ fT0 rfl rfl rfl rfl ⟨rfl, rfl⟩ (fun A w hW => qU q m.waits w ⟨z34, trivial⟩ (by omega)) ?_
 rintro v L ⟨rfl, rfl⟩
 apply CaseB.mk <;> intro g
 rotate_left
 · have q : ¬ (bA m.waits = true) := by simpa using g
   exact aH ⟨_, rfl, tno fun e => q e.2.1, rfl⟩ (fun _ => rfl)
 have c2 : bA m.waits = true := g
 apply CaseB.mk <;> intro g
 · have c3 : 0 < m.count := by have g' := of_decide_eq_true g; omega
   exact aH ⟨_, rfl, jS ⟨c1, c2, .inl c3⟩, rfl⟩ (fun _ => rfl)
 · have c3 : ¬ 0 < m.count := by have g' := of_decide_eq_false g; omega
   exact aH ⟨_, rfl, by simp [fD, c1, c2, c3], rfl⟩ (fun _ => rfl)
theorem pH (m : Barrier) (q : Sl) (w : World) (h : At w [slo q aJ 1 m.waits]) (hb : m.waits.length ≤ 1048576) :
   Calls Tryz.prog 176 #[jE m q] w (iD w (dP m)) := by
 refine bZ Tryz.func176 rfl aA w _ rfl _ rfl _ h ⟨rfl, rfl, trivial⟩ _ (by decide) ?_
 apply CaseB.mk <;> intro g
 rotate_left
 · have q : ¬ (1 ≤ m.parties) := by have g' := of_decide_eq_false g; omega
   exact aH ⟨_, rfl, tno fun e => q e.1, rfl⟩ (fun _ => rfl)
 have c1 : 1 ≤ m.parties := by have g' := of_decide_eq_true g; omega
 apply CaseB.mk <;> intro g
 rotate_left
 · have q : ¬ (m.parties ≤ 6) := by have g' := of_decide_eq_false g; omega
   exact aH ⟨_, rfl, tno fun e => q e.2.1, rfl⟩ (fun _ => rfl)
 have c2 : m.parties ≤ 6 := by have g' := of_decide_eq_true g; omega
 apply CaseB.mk <;> intro g
 rotate_left
 · have q : ¬ (0 ≤ m.round) := by have g' := of_decide_eq_false g; omega
   exact aH ⟨_, rfl, tno fun e => q e.2.2.1, rfl⟩ (fun _ => rfl)
 have c3 : 0 ≤ m.round := by have g' := of_decide_eq_true g; omega
 apply CaseB.mk <;> intro g
 rotate_left
 · have q : ¬ (m.round ≤ 9999) := by have g' := of_decide_eq_false g; omega
   exact aH ⟨_, rfl, tno fun e => q e.2.2.2.1, rfl⟩ (fun _ => rfl)
 have c4 : m.round ≤ 9999 := by have g' := of_decide_eq_true g; omega
 refine aB _ fT0 rfl rfl rfl rfl ⟨rfl, rfl⟩ (fun A w hW => qU q m.waits w ⟨z34, trivial⟩ (by omega)) ?_
 rintro v L ⟨rfl, rfl⟩
 apply CaseB.mk <;> intro g
 rotate_left
 · have q : ¬ (bA m.waits = true) := by simpa using g
   exact aH ⟨_, rfl, tno fun e => q e.2.2.2.2.2, rfl⟩ (fun _ => rfl)
 have c6 : bA m.waits = true := g
 exact aH ⟨_, rfl, by simp [dP, c1, c2, c3, c4, c6], rfl⟩ (fun _ => rfl)
theorem qC (m : Sem) (q : Sl) (w : World) (h : At w [slo q bV 2 m.queue]) (hb : m.queue.length ≤ 1048576) :
   Calls Tryz.prog 169 #[oC m q] w (iD w (SemOk m)) := by
 refine bZ Tryz.func169 rfl aA w _ rfl _ rfl _ h ⟨rfl, rfl, trivial⟩ _ (by decide) ?_
 apply CaseB.mk <;> intro g
 · have q : ¬ (1 ≤ m.limit) := by have g' := of_decide_eq_true g; omega
   exact aH ⟨_, rfl, tno fun e => q e.l1, rfl⟩ (fun _ => rfl)
 have c1 : 1 ≤ m.limit := by have g' := of_decide_eq_false g; omega
 apply CaseB.mk <;> intro g
 · have q : ¬ (m.limit ≤ 9) := by have g' := of_decide_eq_true g; omega
   exact aH ⟨_, rfl, tno fun e => q e.l9, rfl⟩ (fun _ => rfl)
 have c2 : m.limit ≤ 9 := by have g' := of_decide_eq_false g; omega
 apply CaseB.mk <;> intro g
 · have q : ¬ (0 ≤ m.free) := by have g' := of_decide_eq_true g; omega
   exact aH ⟨_, rfl, tno fun e => q e.f0, rfl⟩ (fun _ => rfl)
 have c3 : 0 ≤ m.free := by have g' := of_decide_eq_false g; omega
 apply CaseB.mk <;> intro g
 · have q : ¬ (m.free ≤ m.limit) := by have g' := of_decide_eq_true g; omega
   exact aH ⟨_, rfl, tno fun e => q e.fl, rfl⟩ (fun _ => rfl)
 have c4 : m.free ≤ m.limit := by have g' := of_decide_eq_false g; omega
 apply CaseB.mk <;> intro g
 · have q : ¬ (m.queue.length ≤ 6) := by have g' := of_decide_eq_true g; omega
   exact aH ⟨_, rfl, tno fun e => q e.q6, rfl⟩ (fun _ => rfl)
 have c5 : m.queue.length ≤ 6 := by have g' := of_decide_eq_false g; omega
 refine LoopW.mk ⟨{ k : Nat // k ≤ m.queue.length ∧ (∀ w ∈ m.queue.take k, 1 ≤ w.n ∧ w.n ≤ m.limit) ∧ bA ((m.queue.map (·.t)).take k) = true },
   fun p => .mk [(1, .p 0 0), (3, .v (.int .i64 (p.1 : Int)))] 1 0 [(0, 95, 3)] [((0, 0), .v (.int .i64 m.free)), ((0, 1), .v (.int .i64 m.limit)), ((0, 2), .v (q.val m.queue.length))] [slo q bV 2 m.queue],
   fun p => m.queue.length - p.1, ⟨0, Nat.zero_le _, by simp, by simp [bA]⟩, ?_, ?_⟩
 · exact aC [0] zw2 zw0 zw2 zw5 zw4 rfl rfl
 rintro ⟨k, hk, hinv, hdi⟩
 apply CaseB.mk <;> intro g
 · have hlt : k < m.queue.length := by simpa using g
   have hltm : k < (m.queue.map (·.t)).length := by simpa using hlt
   have hw := lK k _ hlt (by omega)
   have hsub : bA (m.queue.map (·.t)) = true → aZ (m.queue[k]).t = true ∧ (m.queue[k]).t ∉ (m.queue.map (·.t)).take k := fun e => by
     simp only [bA, decide_eq_true_eq] at e
     refine ⟨e.2 _ (List.mem_map_of_mem (List.getElem_mem hlt)), fun hm => ?_⟩
     have hn := e.1
     rw [← List.take_append_drop k (m.queue.map (·.t)), List.nodup_append] at hn
     refine hn.2.2 _ hm _ ?_ rfl
     rw [List.drop_eq_getElem_cons hltm]
     simp
   refine aG cH aA rfl rfl rfl rfl rfl ⟨rfl, rfl⟩ (iE 0 rfl) k rfl z43 (fun ad => ?_)
   refine aB _ rK rfl rfl rfl rfl ⟨rfl, rfl⟩ (fun A w hW => fY _ w) ?_
   rintro v L ⟨rfl, rfl⟩
   apply CaseB.mk <;> intro g
   · exact aH ⟨_, rfl, tno fun e => (by rw [(hsub e.dis).1] at g; cases g), rfl⟩ (fun _ => rfl)
   have d0 : aZ (m.queue[k]).t = true := by simpa using g
   apply CaseB.mk <;> intro g
   · have q : ¬ (1 ≤ (m.queue[k]).n) := by have g' := of_decide_eq_true g; omega
     exact aH ⟨_, rfl, tno fun e => q (e.cnt _ (List.getElem_mem hlt)).1, rfl⟩ (fun _ => rfl)
   have d1 : 1 ≤ (m.queue[k]).n := by have g' := of_decide_eq_false g; omega
   apply CaseB.mk <;> intro g
   · have q : ¬ ((m.queue[k]).n ≤ m.limit) := by have g' := of_decide_eq_true g; omega
     exact aH ⟨_, rfl, tno fun e => q (e.cnt _ (List.getElem_mem hlt)).2, rfl⟩ (fun _ => rfl)
   have d2 : (m.queue[k]).n ≤ m.limit := by have g' := of_decide_eq_false g; omega
   refine LoopW.mk ⟨{ j : Nat // j ≤ k ∧ (m.queue[k]).t ∉ (m.queue.map (·.t)).take j },
     fun j => .mk [(1, .p 0 0), (3, .v (.int .i64 (k : Int))), (4, .p 1 0), (5, .v (.int .i64 (j.1 : Int)))] 2 0 [(0, 95, 3), (1, 184, 2)] [((0, 0), .v (.int .i64 m.free)), ((0, 1), .v (.int .i64 m.limit)), ((0, 2), .v (q.val m.queue.length)), ((1, 0), .v (.int .i64 (m.queue[k]).t))] [slo q bV 2 m.queue],
     fun j => k - j.1, ⟨0, Nat.zero_le _, by simp⟩, ?_, ?_⟩
   · exact aC [0] zw2 zw0 zw2 zw5 zw4 rfl rfl
   rintro ⟨j, hj, hnm⟩
   apply CaseB.mk <;> intro g
   · have hlj : j < k := by simpa using g
     have hlj2 : j < m.queue.length := by omega
     have hwj := lK j k hlj (by omega)
     refine aF aA z102 z102 z102 200 [((0, 0), .v (.int .i64 m.free)), ((0, 1), .v (.int .i64 m.limit)), ((0, 2), .v (q.val m.queue.length)), ((1, 0), .v (.int .i64 (m.queue[k]).t))] [0] [_] z122 z138 ⟨rfl, trivial⟩ rfl ?_
     refine bO (ti := aU tab) cH aA rfl rfl rfl rfl rfl ⟨rfl, rfl⟩ (iE 0 rfl) j rfl z43 (fun ad2 => ?_)
     apply CaseB.mk <;> intro g
     · have q : (m.queue[j]).t = (m.queue[k]).t := by simpa using g
       refine aH ⟨_, rfl, tno fun e => (hsub e.dis).2 ?_, rfl⟩ (fun _ => rfl)
       rw [← q, List.mem_take_iff_getElem]
       exact ⟨j, by simp; omega, by simp⟩
     · have q : ¬ (m.queue[j]).t = (m.queue[k]).t := by simpa using g
       refine ⟨⟨j + 1, by omega, ?_⟩, ?_, by simp only; omega⟩
       · rw [List.take_succ_eq_append_getElem (by simpa using hlj2)]
         simp only [List.mem_append, List.mem_singleton, List.getElem_map, not_or]
         exact ⟨hnm, fun e => q e.symm⟩
       · exact aC [0] zw6 zw0 zw6 zw5 zw11 rfl rfl
   have hjk : j = k := by have : ¬ (j : Int) < k := by simpa using g
                          omega
   subst hjk
   refine ⟨⟨j + 1, by omega, fun x hx => ?_, ?_⟩, ?_, by simp only; omega⟩
   · rw [List.take_succ_eq_append_getElem hlt] at hx
     rcases List.mem_append.1 hx with hx | hx
     · exact hinv x hx
     · simp at hx; subst hx; exact ⟨d1, d2⟩
   · rw [List.take_succ_eq_append_getElem hltm]
     simp only [bA, decide_eq_true_eq] at hdi ⊢
     refine ⟨?_, fun x hx => ?_⟩
     · rw [List.nodup_append]
       refine ⟨hdi.1, by simp, fun a ha b hb => ?_⟩
       simp at hb; subst hb
       rintro rfl
       exact hnm ha
     · rcases List.mem_append.1 hx with hx | hx
       · exact hdi.2 x hx
       · simp at hx; subst hx; exact d0
   · exact aC [0] zw1 zw0 zw1 zw5 zw3 rfl rfl
 have hge : m.queue.length ≤ k := by simpa using g
 rw [List.take_of_length_le hge] at hinv
 rw [List.take_of_length_le z91] at hdi
 refine aF aA z102 z102 z102 200 [((0, 0), .v (.int .i64 m.free)), ((0, 1), .v (.int .i64 m.limit)), ((0, 2), .v (q.val m.queue.length))] [0] [_] z129 z141 ⟨rfl, trivial⟩ rfl ?_
 apply CaseB.mk <;> intro g
 · have c7 : m.queue = [] := by simpa using g
   exact aH ⟨_, rfl, jS ⟨c1, c2, c3, c4, c5, hinv, hdi, by rw [c7]; simp⟩, rfl⟩ (fun _ => rfl)
 have c7 : 0 < m.queue.length := by have g' : ¬ m.queue = [] := by simpa using g
                                    exact List.length_pos_iff.2 g'
 refine bO (ti := aU tab) cH aA rfl rfl rfl rfl rfl ⟨rfl, rfl⟩ (iE 0 rfl) 0 rfl z43 (fun ad => ?_)
 refine aH ⟨_, rfl, ?_, rfl⟩ (fun _ => rfl)
 have hh : ∀ w, m.queue[0]? = some w → w = m.queue[0] := fun w hw => by rw [List.getElem?_eq_getElem c7] at hw; injection hw with hw; exact hw.symm
 constructor
 · intro g
   have g' := of_decide_eq_true g
   exact ⟨c1, c2, c3, c4, c5, hinv, hdi, fun w hw => by rw [hh w hw]; omega⟩
 · intro e
   have := e.hd _ (List.getElem?_eq_getElem c7)
   exact decide_eq_true (by omega)
def l6Words : List ByteArray := [⟨#[]⟩, ⟨#[115, 97, 121]⟩, ⟨#[97, 99, 113, 117, 105, 114, 101]⟩, ⟨#[114, 101, 108, 101, 97, 115, 101]⟩, ⟨#[111, 110, 99, 101]⟩, ⟨#[97, 100, 100]⟩, ⟨#[119, 97, 105, 116]⟩, ⟨#[97, 114, 114, 105, 118, 101]⟩, ⟨#[115, 101, 110, 100]⟩, ⟨#[103, 101, 116]⟩, ⟨#[99, 108, 111, 115, 101]⟩]
def cStr (b : ByteArray) : List Value := [.string b]
theorem oS0 : Enc cStr 1 := ⟨fun _ => rfl, fun _ u hu => by simp [cStr] at hu; subst hu; rfl⟩
def sC (k : Int) : ByteArray := if 1 ≤ k ∧ k ≤ 10 then l6Words.getD k.toNat ⟨#[]⟩ else ⟨#[]⟩
theorem tH (k : Int) : ((sC k).toList == (⟨#[]⟩ : ByteArray).toList) = true ↔ ¬ (1 ≤ k ∧ k ≤ 10) := by
 unfold sC
 by_cases h : 1 ≤ k ∧ k ≤ 10
 · rw [if_pos h]
   have : k = 1 ∨ k = 2 ∨ k = 3 ∨ k = 4 ∨ k = 5 ∨ k = 6 ∨ k = 7 ∨ k = 8 ∨ k = 9 ∨ k = 10 := by omega
   simp only [h, and_self, not_true_eq_false, iff_false]
   rw [← beq_toListBytes]
   rcases this with rfl | rfl | rfl | rfl | rfl | rfl | rfl | rfl | rfl | rfl <;> decide
 · rw [if_neg h]
   simp [h]
theorem jY0 (k : Int) (w : World) : Calls Tryz.prog 189 #[.int .i64 k] w (Ret w fun v L => v = .string (sC k) ∧ L = []) := by
 refine bZ Tryz.func189 rfl aA w _ rfl _ rfl [] trivial trivial _ (by decide) ?_
 refine AllSl.mk fun y => ?_
 apply CaseB.mk <;> intro g
 · have q : ¬ (1 ≤ k ∧ k ≤ 10) := by simp at g; omega
   exact aH ⟨by rw [sC, if_neg q], rfl⟩ (fun _ => rfl)
 refine CaseB.mk (fun g2 => ?_) (fun g2 => ?_)
 · have q : ¬ (1 ≤ k ∧ k ≤ 10) := by simp at g2; omega
   exact aH ⟨by rw [sC, if_neg q], rfl⟩ (fun _ => rfl)
 have q : 1 ≤ k ∧ k ≤ 10 := by simp at g g2; omega
 have hlt : k.toNat < l6Words.length := by show k.toNat < 11; omega
 refine aG oS0 (xs := l6Words) aA rfl rfl rfl rfl rfl ⟨rfl, rfl⟩ (bX 0 rfl) k.toNat (by omega) hlt (fun ad => ?_)
 exact aH ⟨by rw [sC, if_pos q]; simp [List.getD, hlt], rfl⟩ (fun _ => rfl)
theorem nM (i : Sl) (xs : List Int) (lo hi : Int) (w : World) (h : At w [slo i aJ 1 xs]) (hb : xs.length ≤ 4294967296) :
   Calls Tryz.prog 158 #[i.val xs.length, .int .i64 lo, .int .i64 hi] w (iD w (iL xs lo hi)) := by
 refine gQ Tryz.func158 rfl aA w _ rfl _ rfl _ h ⟨rfl, rfl, trivial⟩ _ _ _ (by decide) ?_
 refine LoopW.mk ⟨{ k : Nat // k ≤ xs.length ∧ k ≤ 4 ∧ ∀ x ∈ xs.take k, lo ≤ x ∧ x ≤ hi },
   fun k => .mk [(0, .v (i.val xs.length)), (1, .v (.int .i64 lo)), (2, .v (.int .i64 hi)), (7, .v (.int .i64 (k.1 : Int)))] 0 0 [] [] [slo i aJ 1 xs],
   fun k => xs.length - k.1, ⟨0, Nat.zero_le _, by omega, by simp⟩, ?_, ?_⟩
 · exact aC [0] zw2 zw0 zw2 zw5 zw4 rfl rfl
 rintro ⟨k, hk, h4, hinv⟩
 apply CaseB.mk <;> intro g
 · have hlt : k < xs.length := by simpa using g
   apply CaseB.mk <;> intro g
   · have h3 : k ≤ 3 := by simp at g; omega
     refine aG aE aA rfl rfl rfl rfl rfl ⟨rfl, rfl⟩ z35 k rfl z43 (fun ad => ?_)
     apply CaseB.mk <;> intro g
     · have q : xs[k] < lo := by simpa using g
       exact aH ⟨_, rfl, tno fun e => by have := (e.2 _ (List.getElem_mem hlt)).1; omega, rfl⟩ (fun _ => rfl)
     have q1 : ¬ xs[k] < lo := by simpa using g
     refine aG aE aA rfl rfl rfl rfl rfl ⟨rfl, rfl⟩ z35 k rfl z43 (fun ad2 => ?_)
     apply CaseB.mk <;> intro g
     · have q : hi < xs[k] := by simpa using g
       exact aH ⟨_, rfl, tno fun e => by have := (e.2 _ (List.getElem_mem hlt)).2; omega, rfl⟩ (fun _ => rfl)
     have q2 : ¬ hi < xs[k] := by simpa using g
     have hw := bD k _ hlt (by omega)
     refine ⟨⟨k + 1, by omega, by omega, fun x hx => ?_⟩, ?_, by simp; omega⟩
     · rw [List.take_succ_eq_append_getElem hlt] at hx
       rcases List.mem_append.1 hx with hx | hx
       · exact hinv x hx
       · simp at hx; subst hx; omega
     · exact aC [0] zw1 zw0 zw1 zw5 zw3 rfl rfl
   · have h3 : ¬ k ≤ 3 := by simp at g; omega
     have : ¬ xs.length ≤ 3 := by omega
     exact aH ⟨_, rfl, by simp [iL]; omega, rfl⟩ (fun _ => rfl)
 · have hge : xs.length ≤ k := by simpa using g
   rw [List.take_of_length_le hge] at hinv
   refine aH ⟨_, rfl, ?_, rfl⟩ (fun _ => rfl)
   simp only [iL, decide_eq_true_eq]
   exact ⟨fun e => ⟨by omega, hinv⟩, fun e => by have := e.1; omega⟩
theorem eG0 (p : ProgH) (k : Int) (w : World) : Calls Tryz.prog 190 #[dW p, .int .i64 k] w (Ret w fun v L => v = .int .i64 (p.pure.shared k) ∧ L = []) := by
 have t : p.pure.sems = p.sems ∧ p.pure.groups = p.groups ∧ p.pure.barriers = p.barriers ∧ p.pure.rooms = p.rooms := ⟨rfl, rfl, rfl, rfl⟩
 refine cB Tryz.func190 rfl aA w _ rfl _ rfl [] trivial trivial _ _ (by decide) ?_
 refine CaseB.mk (fun k1 => ?_) (fun k1 => ?_)
 · have q1 : k = 1 := by simpa using k1
   exact aH ⟨by simp [Prog.shared, q1], rfl⟩ (fun _ => rfl)
 have q1 : ¬ k = 1 := by simpa using k1
 refine CaseB.mk (fun k2 => ?_) (fun k2 => ?_)
 · have q2 : k = 2 := by simpa using k2
   refine CaseB.mk (fun _ => ?_) (fun g => by rw [k2] at g; cases g)
   exact aH ⟨by simp [Prog.shared, t, q2], rfl⟩ (fun _ => rfl)
 have q2 : ¬ k = 2 := by simpa using k2
 refine CaseB.mk (fun k3 => ?_) (fun k3 => ?_)
 · have q3 : k = 3 := by simpa using k3
   exact aH ⟨by simp [Prog.shared, t, q3], rfl⟩ (fun _ => rfl)
 have q3 : ¬ k = 3 := by simpa using k3
 refine CaseB.mk (fun k4 => ?_) (fun k4 => ?_)
 · have q4 : k = 4 := by simpa using k4
   exact aH ⟨by simp [Prog.shared, q4], rfl⟩ (fun _ => rfl)
 have q4 : ¬ k = 4 := by simpa using k4
 refine CaseB.mk (fun k5 => ?_) (fun k5 => ?_)
 · have q5 : k = 5 := by simpa using k5
   refine CaseB.mk (fun _ => ?_) (fun g => by rw [k5] at g; cases g)
   exact aH ⟨by simp [Prog.shared, t, q5], rfl⟩ (fun _ => rfl)
 have q5 : ¬ k = 5 := by simpa using k5
 refine CaseB.mk (fun k6 => ?_) (fun k6 => ?_)
 · have q6 : k = 6 := by simpa using k6
   exact aH ⟨by simp [Prog.shared, t, q6], rfl⟩ (fun _ => rfl)
 have q6 : ¬ k = 6 := by simpa using k6
 refine CaseB.mk (fun k7 => ?_) (fun k7 => ?_)
 · have q7 : k = 7 := by simpa using k7
   exact aH ⟨by simp [Prog.shared, t, q7], rfl⟩ (fun _ => rfl)
 have q7 : ¬ k = 7 := by simpa using k7
 exact aH ⟨by simp [Prog.shared, t, q1, q2, q3, q4, q5, q6, q7], rfl⟩ (fun _ => rfl)
theorem mK0 (p : ProgH) (o : Op) (w : World) (h : At w [fR (aY p)]) (h0 : 0 ≤ o.on) (h1 : o.on < p.pure.shared o.kind) :
   Calls Tryz.prog 191 #[dW p, .agg (cOp o).toArray] w (iD w (p.pure.argOk o)) := by
 refine cB Tryz.func191 rfl aA w _ rfl _ rfl _ h ⟨rfl, rfl, trivial⟩ _ _ (by decide) ?_
 refine CaseB.mk (fun k2 => ?_) (fun k2 => ?_)
 · refine CaseB.mk (fun _ => ?_) (fun g => by rw [k2] at g; cases g)
   have q : o.kind = 2 := by simpa using k2
   have hs : o.on < (p.sems.length : Int) := by simpa [Prog.shared, q, ProgH.pure] using h1
   have hlt : o.on.toNat < p.sems.length := by omega
   have e : p.pure.sems.getD o.on.toNat 0 = p.sems[o.on.toNat] := by simp [ProgH.pure, List.getD, hlt]
   have hx : p.pure.argOk o ↔ 1 ≤ o.arg ∧ o.arg ≤ p.sems[o.on.toNat] := by rw [← e]; simp [Prog.argOk, q]
   refine aF aA z102 z102 z102 200 [((0, 0), .v (p.h0.val p.sems.length)), ((1, 0), .v (.int .i64 o.kind)), ((1, 1), .v (.int .i64 o.on)), ((1, 2), .v (.int .i64 o.arg))] [0] [_] z122 z138 ⟨rfl, trivial⟩ rfl ?_
   apply CaseB.mk <;> intro g
   · have c : 1 ≤ o.arg := by simp at g; omega
     refine bO (ti := aU tab) aE aA rfl rfl rfl rfl rfl ⟨rfl, rfl⟩ (aL 0 rfl (.ofR (eM p))) o.on.toNat (by omega) z43 (fun ad => ?_)
     exact aH ⟨_, rfl, by rw [hx]; simp [c], rfl⟩ (fun _ => rfl)
   · have c : ¬ 1 ≤ o.arg := by simp at g; omega
     exact aH ⟨_, rfl, tno fun e => c (hx.1 e).1, rfl⟩ (fun _ => rfl)
 refine CaseB.mk (fun k3 => ?_) (fun k3 => ?_)
 · skip
   have q : o.kind = 3 := by simpa using k3
   have hs : o.on < (p.sems.length : Int) := by simpa [Prog.shared, q, ProgH.pure] using h1
   have hlt : o.on.toNat < p.sems.length := by omega
   have e : p.pure.sems.getD o.on.toNat 0 = p.sems[o.on.toNat] := by simp [ProgH.pure, List.getD, hlt]
   have hx : p.pure.argOk o ↔ 1 ≤ o.arg ∧ o.arg ≤ p.sems[o.on.toNat] := by rw [← e]; simp [Prog.argOk, q]
   refine aF aA z102 z102 z102 200 [((0, 0), .v (p.h0.val p.sems.length)), ((1, 0), .v (.int .i64 o.kind)), ((1, 1), .v (.int .i64 o.on)), ((1, 2), .v (.int .i64 o.arg))] [0] [_] z122 z138 ⟨rfl, trivial⟩ rfl ?_
   apply CaseB.mk <;> intro g
   · have c : 1 ≤ o.arg := by simp at g; omega
     refine bO (ti := aU tab) aE aA rfl rfl rfl rfl rfl ⟨rfl, rfl⟩ (aL 0 rfl (.ofR (eM p))) o.on.toNat (by omega) z43 (fun ad => ?_)
     exact aH ⟨_, rfl, by rw [hx]; simp [c], rfl⟩ (fun _ => rfl)
   · have c : ¬ 1 ≤ o.arg := by simp at g; omega
     exact aH ⟨_, rfl, tno fun e => c (hx.1 e).1, rfl⟩ (fun _ => rfl)
 have n2 : ¬ o.kind = 2 := by simpa using k2
 have n3 : ¬ o.kind = 3 := by simpa using k3
 refine CaseB.mk (fun k5 => ?_) (fun k5 => ?_)
 · have q : o.kind = 5 := by simpa using k5
   have hx : p.pure.argOk o ↔ -9 ≤ o.arg ∧ o.arg ≤ 9 := by simp [Prog.argOk, q]
   apply CaseB.mk <;> intro g
   · have c : -9 ≤ o.arg := by simp at g; omega
     exact aH ⟨_, rfl, by rw [hx]; simp [c], rfl⟩ (fun _ => rfl)
   · have c : ¬ -9 ≤ o.arg := by simp at g; omega
     exact aH ⟨_, rfl, tno fun e => c (hx.1 e).1, rfl⟩ (fun _ => rfl)
 have n5 : ¬ o.kind = 5 := by simpa using k5
 refine CaseB.mk (fun k1 => ?_) (fun k1 => ?_)
 · have q : o.kind = 1 := by simpa using k1
   have hx : p.pure.argOk o ↔ aV o.arg = true := by simp [Prog.argOk, q]
   refine CaseB.mk (fun _ => ?_) (fun g => by rw [k1] at g; cases g)
   refine aB _ pU rfl rfl rfl rfl ⟨rfl, rfl⟩ (fun A w hW => gF _ w) ?_
   rintro v L ⟨rfl, rfl⟩
   exact aH ⟨_, rfl, by rw [hx], rfl⟩ (fun _ => rfl)
 have n1 : ¬ o.kind = 1 := by simpa using k1
 refine CaseB.mk (fun k4 => ?_) (fun k4 => ?_)
 · have q : o.kind = 4 := by simpa using k4
   have hx : p.pure.argOk o ↔ aV o.arg = true := by simp [Prog.argOk, q]
   refine CaseB.mk (fun _ => ?_) (fun g => by rw [k4] at g; cases g)
   refine aB _ pU rfl rfl rfl rfl ⟨rfl, rfl⟩ (fun A w hW => gF _ w) ?_
   rintro v L ⟨rfl, rfl⟩
   exact aH ⟨_, rfl, by rw [hx], rfl⟩ (fun _ => rfl)
 have n4 : ¬ o.kind = 4 := by simpa using k4
 refine CaseB.mk (fun k8 => ?_) (fun k8 => ?_)
 · have q : o.kind = 8 := by simpa using k8
   have hx : p.pure.argOk o ↔ aV o.arg = true := by simp [Prog.argOk, q]
   refine aB _ pU rfl rfl rfl rfl ⟨rfl, rfl⟩ (fun A w hW => gF _ w) ?_
   rintro v L ⟨rfl, rfl⟩
   exact aH ⟨_, rfl, by rw [hx], rfl⟩ (fun _ => rfl)
 have n8 : ¬ o.kind = 8 := by simpa using k8
 have hx : p.pure.argOk o ↔ o.arg = 0 := by simp [Prog.argOk, n1, n2, n3, n4, n5, n8]
 exact aH ⟨_, rfl, by rw [hx]; simp, rfl⟩ (fun _ => rfl)
theorem jT (p : ProgH) (o : Op) (w : World) (h : At w [fR (aY p)]) :
   Calls Tryz.prog 157 #[dW p, .agg (cOp o).toArray] w (iD w (OpOk p.pure o)) := by
 refine cB Tryz.func157 rfl aA w _ rfl _ rfl _ h ⟨rfl, rfl, trivial⟩ _ _ (by decide) ?_
 refine aF aA z102 z102 z102 200 [((0, 0), .v (p.h0.val p.sems.length)), ((0, 1), .v (p.h1.val p.groups.length)), ((0, 2), .v (p.h2.val p.barriers.length)), ((0, 3), .v (p.h3.val p.rooms.length)), ((0, 4), .v (p.h4.val p.threads.length)), ((1, 0), .v (.int .i64 o.kind)), ((1, 1), .v (.int .i64 o.on)), ((1, 2), .v (.int .i64 o.arg))] [0] [_] ⟨⟨_, rfl, rfl, z76⟩, ⟨_, rfl, rfl, z76⟩, ⟨_, rfl, rfl, z76⟩, ⟨_, rfl, rfl, z76⟩, ⟨_, rfl, rfl, z76⟩, ⟨_, rfl, rfl, z76⟩, ⟨_, rfl, rfl, z76⟩, ⟨_, rfl, rfl, z76⟩, trivial⟩ ⟨⟨_, rfl⟩, ⟨_, rfl⟩, ⟨_, rfl⟩, ⟨_, rfl⟩, ⟨_, rfl⟩, ⟨_, rfl⟩, ⟨_, rfl⟩, ⟨_, rfl⟩, trivial⟩ ⟨rfl, trivial⟩ rfl ?_
 refine bN _ jI0 rfl rfl rfl rfl ⟨rfl, rfl⟩ (fun A w hW => jY0 _ w) ?_
 rintro v L ⟨rfl, rfl⟩
 refine kT rfl rfl rfl ⟨rfl, rfl⟩ (.bool ((sC o.kind).toList == (⟨#[]⟩ : ByteArray).toList)) (fun w => (bI w)) (fun w => (gC0 w)) ?_
 apply CaseB.mk <;> intro g
 · have q := (tH o.kind).1 g
   exact aH ⟨_, rfl, tno fun e => q ⟨e.1, e.2.1⟩, rfl⟩ (fun _ => rfl)
 have q : 1 ≤ o.kind ∧ o.kind ≤ 10 := by
   refine Classical.byContradiction fun n => ?_
   rw [(tH o.kind).2 n] at g
   cases g
 apply CaseB.mk <;> intro g
 · have c : ¬ 0 ≤ o.on := by simp at g; omega
   exact aH ⟨_, rfl, tno fun e => c e.2.2.1, rfl⟩ (fun _ => rfl)
 have c0 : 0 ≤ o.on := by simp at g; omega
 refine bN _ cl190 rfl rfl rfl rfl ⟨rfl, rfl⟩ (fun A w hW => eG0 p _ w) ?_
 rintro v L ⟨rfl, rfl⟩
 apply CaseB.mk <;> intro g
 · have c : ¬ o.on < p.pure.shared o.kind := by simp at g; omega
   exact aH ⟨_, rfl, tno fun e => c e.2.2.2.1, rfl⟩ (fun _ => rfl)
 have c1 : o.on < p.pure.shared o.kind := by simp at g; omega
 refine aB _ cl191 rfl rfl rfl rfl ⟨rfl, rfl⟩ (fun A w hW => mK0 p o w ⟨hW.get 0 rfl (.refl _), trivial⟩ c0 c1) ?_
 rintro v L ⟨b, rfl, hb, rfl⟩
 exact aH ⟨_, rfl, by rw [hb]; simp [OpOk, q, c0, c1], rfl⟩ (fun _ => rfl)
theorem mE (p : ProgH) (w : World) (h : At w [fR (aY p)]) (hs : p.sems.length ≤ 1048576 ∧ p.groups.length ≤ 1048576 ∧ p.barriers.length ≤ 1048576 ∧ p.rooms.length ≤ 1048576) :
   Calls Tryz.prog 106 #[dW p] w (iD w (ProgOk p.pure)) := by
 refine bZ Tryz.func106 rfl aA w _ rfl _ rfl _ h ⟨rfl, rfl, trivial⟩ _ (by decide) ?_
 refine aB _ fO0 rfl rfl rfl rfl ⟨rfl, rfl⟩ (fun A w hW => nM p.h0 p.sems 1 9 w ⟨hW.get 0 rfl (.ofR (eM p)), trivial⟩ (by omega)) ?_
 rintro v L ⟨b0, rfl, hb0, rfl⟩
 apply CaseB.mk <;> intro g
 · exact aH ⟨_, rfl, tno fun e => (by have := hb0.2 e.sems; rw [this] at g; cases g), rfl⟩ (fun _ => rfl)
 have w0 := hb0.1 z98
 refine aB _ fO0 rfl rfl rfl rfl ⟨rfl, rfl⟩ (fun A w hW => nM p.h1 p.groups 0 9 w ⟨hW.get 0 rfl (.ofR (iW p)), trivial⟩ (by omega)) ?_
 rintro v L ⟨b1, rfl, hb1, rfl⟩
 apply CaseB.mk <;> intro g
 · exact aH ⟨_, rfl, tno fun e => (by have := hb1.2 e.groups; rw [this] at g; cases g), rfl⟩ (fun _ => rfl)
 have w1 := hb1.1 z98
 refine aB _ fO0 rfl rfl rfl rfl ⟨rfl, rfl⟩ (fun A w hW => nM p.h2 p.barriers 1 6 w ⟨hW.get 0 rfl (.ofR (eH p)), trivial⟩ (by omega)) ?_
 rintro v L ⟨b2, rfl, hb2, rfl⟩
 apply CaseB.mk <;> intro g
 · exact aH ⟨_, rfl, tno fun e => (by have := hb2.2 e.barriers; rw [this] at g; cases g), rfl⟩ (fun _ => rfl)
 have w2 := hb2.1 z98
 refine aB _ fO0 rfl rfl rfl rfl ⟨rfl, rfl⟩ (fun A w hW => nM p.h3 p.rooms 0 4 w ⟨hW.get 0 rfl (.ofR (gN p)), trivial⟩ (by omega)) ?_
 rintro v L ⟨b3, rfl, hb3, rfl⟩
 apply CaseB.mk <;> intro g
 · exact aH ⟨_, rfl, tno fun e => (by have := hb3.2 e.rooms; rw [this] at g; cases g), rfl⟩ (fun _ => rfl)
 have w3 := hb3.1 z98
 have hlen : p.pure.threads.length = p.threads.length := by simp [ProgH.pure]
 apply CaseB.mk <;> intro g
 · have q : ¬ 1 ≤ p.threads.length := by have g' := of_decide_eq_true g; omega
   exact aH ⟨_, rfl, tno fun e => q (hlen ▸ e.n1), rfl⟩ (fun _ => rfl)
 have n1 : 1 ≤ p.threads.length := by have g' := of_decide_eq_false g; omega
 apply CaseB.mk <;> intro g
 · have q : ¬ p.threads.length ≤ 4 := by simp at g; omega
   exact aH ⟨_, rfl, tno fun e => q (hlen ▸ e.n4), rfl⟩ (fun _ => rfl)
 have n4 : p.threads.length ≤ 4 := by simp at g; omega
 have hmem : ∀ (k : Nat) (hk : k < p.threads.length), (p.threads[k]).m ∈ p.pure.threads := fun k hk => List.mem_map_of_mem (List.getElem_mem hk)
 refine LoopW.mk ⟨{ k : Nat // k ≤ p.threads.length ∧ ∀ t ∈ p.pure.threads.take k, t.length ≤ 8 ∧ ∀ o ∈ t, OpOk p.pure o },
   fun k => .mk [(1, .p 0 0), (3, .v (.int .i64 (k.1 : Int)))] 1 0 [(0, 26, 5)] [((0, 0), .v (p.h0.val p.sems.length)), ((0, 1), .v (p.h1.val p.groups.length)), ((0, 2), .v (p.h2.val p.barriers.length)), ((0, 3), .v (p.h3.val p.rooms.length)), ((0, 4), .v (p.h4.val p.threads.length))] [fR (aY p)],
   fun k => p.threads.length - k.1, ⟨0, Nat.zero_le _, by simp⟩, ?_, ?_⟩
 · exact aC [0] zw2 zw0 zw2 zw5 zw4 rfl rfl
 rintro ⟨k, hk, hinv⟩
 apply CaseB.mk <;> intro g
 · have hlt : k < p.threads.length := by simpa using g
   have hget : p.pure.threads[k]'(by rw [hlen]; exact hlt) = (p.threads[k]).m := by simp [ProgH.pure]
   refine LoopW.mk ⟨{ j : Nat // j ≤ (p.threads[k]).m.length ∧ j ≤ 9 ∧ ∀ o ∈ (p.threads[k]).m.take j, OpOk p.pure o },
     fun j => .mk [(1, .p 0 0), (3, .v (.int .i64 (k : Int))), (4, .v (.int .i64 (j.1 : Int)))] 1 0 [(0, 26, 5)] [((0, 0), .v (p.h0.val p.sems.length)), ((0, 1), .v (p.h1.val p.groups.length)), ((0, 2), .v (p.h2.val p.barriers.length)), ((0, 3), .v (p.h3.val p.rooms.length)), ((0, 4), .v (p.h4.val p.threads.length))] [fR (aY p)],
     fun j => (p.threads[k]).m.length - j.1, ⟨0, Nat.zero_le _, by omega, by simp⟩, ?_, ?_⟩
   · exact aC [0] zw2 zw0 zw2 zw5 zw4 rfl rfl
   rintro ⟨j, hj, h9, hinv2⟩
   refine aG dT aA rfl rfl rfl rfl rfl ⟨rfl, rfl⟩ (aL 0 rfl (.trans (.R_R (bB p)) (.ofR aX))) k rfl z43 (fun ad => ?_)
   have hend : ((p.threads[k]).m.length ≤ 8 → (p.threads[k]).m.length ≤ j) → (p.threads[k]).m.length ≤ 8 → ∀ t ∈ p.pure.threads.take (k + 1), t.length ≤ 8 ∧ ∀ o ∈ t, OpOk p.pure o := fun hge2 n8 t ht => by
     rw [List.take_succ_eq_append_getElem (by rw [hlen]; exact hlt)] at ht
     rcases List.mem_append.1 ht with ht | ht
     · exact hinv t ht
     · simp only [List.mem_singleton] at ht
       rw [hget] at ht
       subst ht
       exact ⟨n8, by rw [List.take_of_length_le (hge2 n8)] at hinv2; exact hinv2⟩
   have hw := bD k _ hlt (by omega)
   apply CaseB.mk <;> intro g
   · have hlj : j < (p.threads[k]).m.length := by simpa using g
     apply CaseB.mk <;> intro g
     · have h8 : j ≤ 8 := by simp at g; omega
       refine aF aA z102 z102 z102 200 [((0, 0), .v (p.h0.val p.sems.length)), ((0, 1), .v (p.h1.val p.groups.length)), ((0, 2), .v (p.h2.val p.barriers.length)), ((0, 3), .v (p.h3.val p.rooms.length)), ((0, 4), .v (p.h4.val p.threads.length))] [0] [_] z117 z133 ⟨rfl, trivial⟩ rfl ?_
       refine bO (ti := aU tab) dT aA rfl rfl rfl rfl rfl ⟨rfl, rfl⟩ (aL 0 rfl (.trans (.R_R (bB p)) (.ofR aX))) k rfl z43 (fun ad3 => ?_)
       refine bO (ti := aU tab) oE aA rfl rfl rfl rfl rfl ⟨rfl, rfl⟩ (aL 0 rfl (.trans (.R_R (bB p)) (.ofR (fZ _ _ k hlt)))) j rfl z43 (fun ad2 => ?_)
       refine bN _ wQ rfl rfl rfl rfl ⟨rfl, rfl⟩ (fun A w hW => jT p _ w ⟨hW.get 0 rfl (.refl _), trivial⟩) ?_
       rintro v L ⟨b, rfl, hb, rfl⟩
       apply CaseB.mk <;> intro g
       · exact aH ⟨_, rfl, tno fun e => z52, rfl⟩ (fun _ => rfl)
       have hw := bD j 9 (by omega) (by omega)
       refine ⟨⟨j + 1, by omega, by omega, fun o ho => ?_⟩, ?_, by simp; omega⟩
       · rw [List.take_succ_eq_append_getElem hlj] at ho
         rcases List.mem_append.1 ho with ho | ho
         · exact hinv2 o ho
         · simp at ho; subst ho; exact hb.1 z98
       · exact aC [0] zw1 zw0 zw1 zw5 zw3 rfl rfl
     · have h8 : ¬ j ≤ 8 := by simp at g; omega
       refine aG dT aA rfl rfl rfl rfl rfl ⟨rfl, rfl⟩ (aL 0 rfl (.trans (.R_R (bB p)) (.ofR aX))) k rfl z43 (fun ad4 => ?_)
       refine CaseB.mk (fun g => ?_) (fun g => by simp at g; omega)
       have q : ¬ (p.threads[k]).m.length ≤ 8 := by omega
       exact aH ⟨_, rfl, tno fun e => q (e.ops _ (hmem k hlt)).1, rfl⟩ (fun _ => rfl)
   have hge2 : (p.threads[k]).m.length ≤ j := by simpa using g
   refine aG dT aA rfl rfl rfl rfl rfl ⟨rfl, rfl⟩ (aL 0 rfl (.trans (.R_R (bB p)) (.ofR aX))) k rfl z43 (fun ad4 => ?_)
   apply CaseB.mk <;> intro g
   · have q : ¬ (p.threads[k]).m.length ≤ 8 := by simp at g; omega
     exact aH ⟨_, rfl, tno fun e => q (e.ops _ (hmem k hlt)).1, rfl⟩ (fun _ => rfl)
   have n8 : (p.threads[k]).m.length ≤ 8 := by simp at g; omega
   refine ⟨⟨k + 1, by omega, hend (fun _ => hge2) n8⟩, ?_, by simp; omega⟩
   exact aC [0] zw1 zw0 zw1 zw5 zw3 rfl rfl
 have hge : p.threads.length ≤ k := by simpa using g
 refine aH ⟨_, rfl, jS ⟨w0, w1, w2, w3, by rw [hlen]; exact n1, by rw [hlen]; exact n4, fun t ht => ?_⟩, rfl⟩ (fun _ => rfl)
 rw [List.take_of_length_le (by rw [hlen]; exact hge)] at hinv
 exact hinv t ht
structure SharedOk (p : Prog) (s : State) : Prop where
 lsems : s.sems.length = p.sems.length
 lgroups : s.groups.length = p.groups.length
 lbarriers : s.barriers.length = p.barriers.length
 lchans : s.chans.length = p.rooms.length
 lonces : s.onces.length = 3
 sems : ∀ (i : Nat) x, s.sems[i]? = some x → SemOk x ∧ p.sems[i]? = some x.limit
 groups : ∀ x ∈ s.groups, fD x
 barriers : ∀ (i : Nat) x, s.barriers[i]? = some x → dP x ∧ p.barriers[i]? = some x.parties
 chans : ∀ (i : Nat) x, s.chans[i]? = some x → x.valid = true ∧ p.rooms[i]? = some x.room
 onces : ∀ x ∈ s.onces, eI x
theorem Fits.shared {p : Prog} {s : State} (h : Fits p s) : SharedOk p s := ⟨h.lsems, h.lgroups, h.lbarriers, h.lchans, h.lonces, h.sems, h.groups, h.barriers, h.chans, h.onces⟩
theorem jZ0 (p : ProgH) (s : StateH) (w : World) (h : At w [fR (aY p), fR (aK s)]) (ok : ProgOk p.pure) (hs : s.pure.small20) :
   Calls Tryz.prog 145 #[dW p, aM s] w (iD w (SharedOk p.pure s.pure)) := by
 obtain ⟨b0, b1, b2, b3, b4, b5, b6, b7⟩ := hs
 have mlen : ∀ {α β : Type} (f : α → β) (xs : List α), (xs.map f).length = xs.length := fun f xs => by simp
 have m0 : p.sems.length ≤ 3 := ok.sems.1
 have m1 : p.groups.length ≤ 3 := ok.groups.1
 have m2 : p.barriers.length ≤ 3 := ok.barriers.1
 have m3 : p.rooms.length ≤ 3 := ok.rooms.1
 refine cB Tryz.func145 rfl aA w _ rfl _ rfl _ h ⟨rfl, rfl, rfl, rfl, trivial⟩ _ _ (by decide) ?_
 apply CaseB.mk <;> intro g
 · have q : ¬ s.sems.length = p.sems.length := by simp at g; omega
   exact aH ⟨_, rfl, tno fun e => q (by have := e.lsems; simpa [StateH.pure, ProgH.pure] using this), rfl⟩ (fun _ => rfl)
 have c2 : s.sems.length = p.sems.length := by simp at g; omega
 apply CaseB.mk <;> intro g
 · have q : ¬ s.onces.length = 3 := by simp at g; omega
   exact aH ⟨_, rfl, tno fun e => q (by have := e.lonces; simpa [StateH.pure, ProgH.pure] using this), rfl⟩ (fun _ => rfl)
 have c3 : s.onces.length = 3 := by simp at g; omega
 apply CaseB.mk <;> intro g
 · have q : ¬ s.groups.length = p.groups.length := by simp at g; omega
   exact aH ⟨_, rfl, tno fun e => q (by have := e.lgroups; simpa [StateH.pure, ProgH.pure] using this), rfl⟩ (fun _ => rfl)
 have c4 : s.groups.length = p.groups.length := by simp at g; omega
 apply CaseB.mk <;> intro g
 · have q : ¬ s.barriers.length = p.barriers.length := by simp at g; omega
   exact aH ⟨_, rfl, tno fun e => q (by have := e.lbarriers; simpa [StateH.pure, ProgH.pure] using this), rfl⟩ (fun _ => rfl)
 have c5 : s.barriers.length = p.barriers.length := by simp at g; omega
 apply CaseB.mk <;> intro g
 · have q : ¬ s.chans.length = p.rooms.length := by simp at g; omega
   exact aH ⟨_, rfl, tno fun e => q (by have := e.lchans; simpa [StateH.pure, ProgH.pure] using this), rfl⟩ (fun _ => rfl)
 have c6 : s.chans.length = p.rooms.length := by simp at g; omega
 refine LoopW.mk ⟨{ k : Nat // k ≤ s.sems.length ∧ ∀ (i : Nat) x, i < k → s.pure.sems[i]? = some x → SemOk x ∧ p.pure.sems[i]? = some x.limit },
   fun k => .mk [(2, .p 0 0), (3, .p 1 0), (5, .v (.int .i64 (k.1 : Int)))] 2 0 [(0, 26, 5), (1, 35, 9)] [((0, 0), .v (p.h0.val p.sems.length)), ((0, 1), .v (p.h1.val p.groups.length)), ((0, 2), .v (p.h2.val p.barriers.length)), ((0, 3), .v (p.h3.val p.rooms.length)), ((0, 4), .v (p.h4.val p.threads.length)), ((1, 0), .v (s.h0.val s.places.length)), ((1, 1), .v (s.h1.val s.status.length)), ((1, 2), .v (s.h2.val s.sems.length)), ((1, 3), .v (s.h3.val s.onces.length)), ((1, 4), .v (s.h4.val s.groups.length)), ((1, 5), .v (s.h5.val s.barriers.length)), ((1, 6), .v (s.h6.val s.chans.length)), ((1, 7), .v (s.h7.val s.said.length)), ((1, 8), .v (.int .i64 s.fault))] [fR (aY p), fR (aK s)],
   fun k => s.sems.length - k.1, ⟨0, Nat.zero_le _, fun i x hi => by omega⟩, ?_, ?_⟩
 · exact aC [0, 1] zw2 zw0 zw2 zw5 zw4 rfl rfl
 rintro ⟨k, hk, hinv⟩
 apply CaseB.mk <;> intro g
 · have hlt : k < s.sems.length := by simpa using g
   have hw := bD k _ hlt (by omega)
   have hat : s.pure.sems[k]? = some (s.sems[k]).m := by simp [StateH.pure, hlt]
   have hsm := (bM b2).2 _ (List.getElem_mem hlt)
   unfold Sem.small20 at hsm
   have hlp : k < p.sems.length := by omega
   have hpat : p.pure.sems[k]? = some p.sems[k] := by simp [ProgH.pure, hlp]
   refine aF aA z102 z102 z102 200 [((0, 0), .v (p.h0.val p.sems.length)), ((1, 2), .v (s.h2.val s.sems.length))] [0, 1] [_, _] z135 z145 ⟨rfl, rfl, trivial⟩ rfl ?_
   refine bO (ti := aU tab) cZ aA rfl rfl rfl rfl rfl ⟨rfl, rfl⟩ (aL 1 rfl (.trans (.R_R (bU s)) (.ofR aX))) k rfl z43 (fun ad => ?_)
   refine bN _ jE0 rfl rfl rfl rfl ⟨rfl, rfl⟩ (fun A w hW => qC _ _ w ⟨hW.get 1 rfl (.trans (.R_R (bU s)) (.ofR (iV _ _ k hlt))), trivial⟩ (by omega)) ?_
   rintro v L ⟨bb, rfl, hbb, rfl⟩
   apply CaseB.mk <;> intro g
   · exact aH ⟨_, rfl, tno fun e => (by rw [hbb.2 ((e.sems k _ hat).1)] at g; cases g), rfl⟩ (fun _ => rfl)
   have q1 := hbb.1 z98
   refine bO (ti := aU tab) cZ aA rfl rfl rfl rfl rfl ⟨rfl, rfl⟩ (aL 1 rfl (.trans (.R_R (bU s)) (.ofR aX))) k rfl z43 (fun ad1 => ?_)
   refine bO (ti := aU tab) aE aA rfl rfl rfl rfl rfl ⟨rfl, rfl⟩ (aL 0 rfl (.ofR (eM p))) k rfl z43 (fun ad2 => ?_)
   apply CaseB.mk <;> intro g
   · have q : ¬ (s.sems[k]).m.limit = p.sems[k] := by simpa using g
     exact aH ⟨_, rfl, tno fun e => q z54, rfl⟩ (fun _ => rfl)
   have q2 : (s.sems[k]).m.limit = p.sems[k] := by simpa using g
   refine ⟨⟨k + 1, by omega, fun i x hi hx => ?_⟩, ?_, by simp only; omega⟩
   · by_cases e : i < k
     · exact hinv i x e hx
     · obtain rfl : i = k := by omega
       rw [hat] at hx
       injection hx with hx
       subst hx
       exact ⟨q1, by rw [hpat, q2]⟩
   · exact aC [0, 1] zw1 zw0 zw1 zw5 zw3 rfl rfl
 have hge : s.sems.length ≤ k := by simpa using g
 have vsems : ∀ (i : Nat) x, s.pure.sems[i]? = some x → SemOk x ∧ p.pure.sems[i]? = some x.limit := fun i x hx => hinv i x (by have := (List.getElem?_eq_some_iff.1 hx).1; have e : s.pure.sems.length = s.sems.length := mlen _ _; omega) hx
 refine LoopW.mk ⟨{ k : Nat // k ≤ s.onces.length ∧ ∀ (i : Nat) x, i < k → s.pure.onces[i]? = some x → eI x },
   fun k => .mk [(2, .p 0 0), (3, .p 1 0), (6, .v (.int .i64 (k.1 : Int)))] 2 0 [(0, 26, 5), (1, 35, 9)] [((0, 0), .v (p.h0.val p.sems.length)), ((0, 1), .v (p.h1.val p.groups.length)), ((0, 2), .v (p.h2.val p.barriers.length)), ((0, 3), .v (p.h3.val p.rooms.length)), ((0, 4), .v (p.h4.val p.threads.length)), ((1, 0), .v (s.h0.val s.places.length)), ((1, 1), .v (s.h1.val s.status.length)), ((1, 2), .v (s.h2.val s.sems.length)), ((1, 3), .v (s.h3.val s.onces.length)), ((1, 4), .v (s.h4.val s.groups.length)), ((1, 5), .v (s.h5.val s.barriers.length)), ((1, 6), .v (s.h6.val s.chans.length)), ((1, 7), .v (s.h7.val s.said.length)), ((1, 8), .v (.int .i64 s.fault))] [fR (aY p), fR (aK s)],
   fun k => s.onces.length - k.1, ⟨0, Nat.zero_le _, fun i x hi => by omega⟩, ?_, ?_⟩
 · exact aC [0, 1] zw2 zw0 zw2 zw5 zw4 rfl rfl
 rintro ⟨k, hk, hinv⟩
 apply CaseB.mk <;> intro g
 · have hlt : k < s.onces.length := by simpa using g
   have hw := bD k _ hlt (by omega)
   have hat : s.pure.onces[k]? = some (s.onces[k]).m := by simp [StateH.pure, hlt]
   have hsm := (bM b3).2 _ (List.getElem_mem hlt)
   unfold Once.small20 at hsm
   refine aG cX aA rfl rfl rfl rfl rfl ⟨rfl, rfl⟩ (aL 1 rfl (.trans (.R_R (bW s)) (.ofR aX))) k rfl z43 (fun ad => ?_)
   refine aB _ jG0 rfl rfl rfl rfl ⟨rfl, rfl⟩ (fun A w hW => oX _ _ w ⟨hW.get 1 rfl (.trans (.R_R (bW s)) (.ofR (hC _ _ k hlt))), trivial⟩ (by omega)) ?_
   rintro v L ⟨bb, rfl, hbb, rfl⟩
   apply CaseB.mk <;> intro g
   · exact aH ⟨_, rfl, tno fun e => (by rw [hbb.2 (e.onces _ (List.mem_of_getElem? hat))] at g; cases g), rfl⟩ (fun _ => rfl)
   have q1 := hbb.1 z98
   refine ⟨⟨k + 1, by omega, fun i x hi hx => ?_⟩, ?_, by simp only; omega⟩
   · by_cases e : i < k
     · exact hinv i x e hx
     · obtain rfl : i = k := by omega
       rw [hat] at hx
       injection hx with hx
       subst hx
       exact q1
   · exact aC [0, 1] zw1 zw0 zw1 zw5 zw3 rfl rfl
 have hge : s.onces.length ≤ k := by simpa using g
 have vonces : ∀ (i : Nat) x, s.pure.onces[i]? = some x → eI x := fun i x hx => hinv i x (by have := (List.getElem?_eq_some_iff.1 hx).1; have e : s.pure.onces.length = s.onces.length := mlen _ _; omega) hx
 refine LoopW.mk ⟨{ k : Nat // k ≤ s.groups.length ∧ ∀ (i : Nat) x, i < k → s.pure.groups[i]? = some x → fD x },
   fun k => .mk [(2, .p 0 0), (3, .p 1 0), (7, .v (.int .i64 (k.1 : Int)))] 2 0 [(0, 26, 5), (1, 35, 9)] [((0, 0), .v (p.h0.val p.sems.length)), ((0, 1), .v (p.h1.val p.groups.length)), ((0, 2), .v (p.h2.val p.barriers.length)), ((0, 3), .v (p.h3.val p.rooms.length)), ((0, 4), .v (p.h4.val p.threads.length)), ((1, 0), .v (s.h0.val s.places.length)), ((1, 1), .v (s.h1.val s.status.length)), ((1, 2), .v (s.h2.val s.sems.length)), ((1, 3), .v (s.h3.val s.onces.length)), ((1, 4), .v (s.h4.val s.groups.length)), ((1, 5), .v (s.h5.val s.barriers.length)), ((1, 6), .v (s.h6.val s.chans.length)), ((1, 7), .v (s.h7.val s.said.length)), ((1, 8), .v (.int .i64 s.fault))] [fR (aY p), fR (aK s)],
   fun k => s.groups.length - k.1, ⟨0, Nat.zero_le _, fun i x hi => by omega⟩, ?_, ?_⟩
 · exact aC [0, 1] zw2 zw0 zw2 zw5 zw4 rfl rfl
 rintro ⟨k, hk, hinv⟩
 apply CaseB.mk <;> intro g
 · have hlt : k < s.groups.length := by simpa using g
   have hw := bD k _ hlt (by omega)
   have hat : s.pure.groups[k]? = some (s.groups[k]).m := by simp [StateH.pure, hlt]
   have hsm := (bM b4).2 _ (List.getElem_mem hlt)
   unfold Group.small20 at hsm
   refine aG cI aA rfl rfl rfl rfl rfl ⟨rfl, rfl⟩ (aL 1 rfl (.trans (.R_R (bL s)) (.ofR aX))) k rfl z43 (fun ad => ?_)
   refine aB _ jF0 rfl rfl rfl rfl ⟨rfl, rfl⟩ (fun A w hW => nX _ _ w ⟨hW.get 1 rfl (.trans (.R_R (bL s)) (.ofR (eK _ _ k hlt))), trivial⟩ (by omega)) ?_
   rintro v L ⟨bb, rfl, hbb, rfl⟩
   apply CaseB.mk <;> intro g
   · exact aH ⟨_, rfl, tno fun e => (by rw [hbb.2 (e.groups _ (List.mem_of_getElem? hat))] at g; cases g), rfl⟩ (fun _ => rfl)
   have q1 := hbb.1 z98
   refine ⟨⟨k + 1, by omega, fun i x hi hx => ?_⟩, ?_, by simp only; omega⟩
   · by_cases e : i < k
     · exact hinv i x e hx
     · obtain rfl : i = k := by omega
       rw [hat] at hx
       injection hx with hx
       subst hx
       exact q1
   · exact aC [0, 1] zw1 zw0 zw1 zw5 zw3 rfl rfl
 have hge : s.groups.length ≤ k := by simpa using g
 have vgroups : ∀ (i : Nat) x, s.pure.groups[i]? = some x → fD x := fun i x hx => hinv i x (by have := (List.getElem?_eq_some_iff.1 hx).1; have e : s.pure.groups.length = s.groups.length := mlen _ _; omega) hx
 refine LoopW.mk ⟨{ k : Nat // k ≤ s.barriers.length ∧ ∀ (i : Nat) x, i < k → s.pure.barriers[i]? = some x → dP x ∧ p.pure.barriers[i]? = some x.parties },
   fun k => .mk [(2, .p 0 0), (3, .p 1 0), (8, .v (.int .i64 (k.1 : Int)))] 2 0 [(0, 26, 5), (1, 35, 9)] [((0, 0), .v (p.h0.val p.sems.length)), ((0, 1), .v (p.h1.val p.groups.length)), ((0, 2), .v (p.h2.val p.barriers.length)), ((0, 3), .v (p.h3.val p.rooms.length)), ((0, 4), .v (p.h4.val p.threads.length)), ((1, 0), .v (s.h0.val s.places.length)), ((1, 1), .v (s.h1.val s.status.length)), ((1, 2), .v (s.h2.val s.sems.length)), ((1, 3), .v (s.h3.val s.onces.length)), ((1, 4), .v (s.h4.val s.groups.length)), ((1, 5), .v (s.h5.val s.barriers.length)), ((1, 6), .v (s.h6.val s.chans.length)), ((1, 7), .v (s.h7.val s.said.length)), ((1, 8), .v (.int .i64 s.fault))] [fR (aY p), fR (aK s)],
   fun k => s.barriers.length - k.1, ⟨0, Nat.zero_le _, fun i x hi => by omega⟩, ?_, ?_⟩
 · exact aC [0, 1] zw2 zw0 zw2 zw5 zw4 rfl rfl
 rintro ⟨k, hk, hinv⟩
 apply CaseB.mk <;> intro g
 · have hlt : k < s.barriers.length := by simpa using g
   have hw := bD k _ hlt (by omega)
   have hat : s.pure.barriers[k]? = some (s.barriers[k]).m := by simp [StateH.pure, hlt]
   have hsm := (bM b5).2 _ (List.getElem_mem hlt)
   unfold Barrier.small20 at hsm
   have hlp : k < p.barriers.length := by omega
   have hpat : p.pure.barriers[k]? = some p.barriers[k] := by simp [ProgH.pure, hlp]
   refine aF aA z102 z102 z102 200 [((0, 2), .v (p.h2.val p.barriers.length)), ((1, 5), .v (s.h5.val s.barriers.length))] [0, 1] [_, _] z135 z145 ⟨rfl, rfl, trivial⟩ rfl ?_
   refine bO (ti := aU tab) cA aA rfl rfl rfl rfl rfl ⟨rfl, rfl⟩ (aL 1 rfl (.trans (.R_R (bJ s)) (.ofR aX))) k rfl z43 (fun ad => ?_)
   refine bN _ nO0 rfl rfl rfl rfl ⟨rfl, rfl⟩ (fun A w hW => pH _ _ w ⟨hW.get 1 rfl (.trans (.R_R (bJ s)) (.ofR (dO _ _ k hlt))), trivial⟩ (by omega)) ?_
   rintro v L ⟨bb, rfl, hbb, rfl⟩
   apply CaseB.mk <;> intro g
   · exact aH ⟨_, rfl, tno fun e => (by rw [hbb.2 ((e.barriers k _ hat).1)] at g; cases g), rfl⟩ (fun _ => rfl)
   have q1 := hbb.1 z98
   refine bO (ti := aU tab) cA aA rfl rfl rfl rfl rfl ⟨rfl, rfl⟩ (aL 1 rfl (.trans (.R_R (bJ s)) (.ofR aX))) k rfl z43 (fun ad1 => ?_)
   refine bO (ti := aU tab) aE aA rfl rfl rfl rfl rfl ⟨rfl, rfl⟩ (aL 0 rfl (.ofR (eH p))) k rfl z43 (fun ad2 => ?_)
   apply CaseB.mk <;> intro g
   · have q : ¬ (s.barriers[k]).m.parties = p.barriers[k] := by simpa using g
     exact aH ⟨_, rfl, tno fun e => q z51, rfl⟩ (fun _ => rfl)
   have q2 : (s.barriers[k]).m.parties = p.barriers[k] := by simpa using g
   refine ⟨⟨k + 1, by omega, fun i x hi hx => ?_⟩, ?_, by simp only; omega⟩
   · by_cases e : i < k
     · exact hinv i x e hx
     · obtain rfl : i = k := by omega
       rw [hat] at hx
       injection hx with hx
       subst hx
       exact ⟨q1, by rw [hpat, q2]⟩
   · exact aC [0, 1] zw1 zw0 zw1 zw5 zw3 rfl rfl
 have hge : s.barriers.length ≤ k := by simpa using g
 have vbarriers : ∀ (i : Nat) x, s.pure.barriers[i]? = some x → dP x ∧ p.pure.barriers[i]? = some x.parties := fun i x hx => hinv i x (by have := (List.getElem?_eq_some_iff.1 hx).1; have e : s.pure.barriers.length = s.barriers.length := mlen _ _; omega) hx
 refine LoopW.mk ⟨{ k : Nat // k ≤ s.chans.length ∧ ∀ (i : Nat) x, i < k → s.pure.chans[i]? = some x → x.valid = true ∧ p.pure.rooms[i]? = some x.room },
   fun k => .mk [(2, .p 0 0), (3, .p 1 0), (9, .v (.int .i64 (k.1 : Int)))] 2 0 [(0, 26, 5), (1, 35, 9)] [((0, 0), .v (p.h0.val p.sems.length)), ((0, 1), .v (p.h1.val p.groups.length)), ((0, 2), .v (p.h2.val p.barriers.length)), ((0, 3), .v (p.h3.val p.rooms.length)), ((0, 4), .v (p.h4.val p.threads.length)), ((1, 0), .v (s.h0.val s.places.length)), ((1, 1), .v (s.h1.val s.status.length)), ((1, 2), .v (s.h2.val s.sems.length)), ((1, 3), .v (s.h3.val s.onces.length)), ((1, 4), .v (s.h4.val s.groups.length)), ((1, 5), .v (s.h5.val s.barriers.length)), ((1, 6), .v (s.h6.val s.chans.length)), ((1, 7), .v (s.h7.val s.said.length)), ((1, 8), .v (.int .i64 s.fault))] [fR (aY p), fR (aK s)],
   fun k => s.chans.length - k.1, ⟨0, Nat.zero_le _, fun i x hi => by omega⟩, ?_, ?_⟩
 · exact aC [0, 1] zw2 zw0 zw2 zw5 zw4 rfl rfl
 rintro ⟨k, hk, hinv⟩
 apply CaseB.mk <;> intro g
 · have hlt : k < s.chans.length := by simpa using g
   have hw := bD k _ hlt (by omega)
   have hat : s.pure.chans[k]? = some (s.chans[k]).m := by simp [StateH.pure, hlt]
   have hsm := (bM b6).2 _ (List.getElem_mem hlt)
   unfold Chan.small20 at hsm
   have hlp : k < p.rooms.length := by omega
   have hpat : p.pure.rooms[k]? = some p.rooms[k] := by simp [ProgH.pure, hlp]
   refine aF aA z102 z102 z102 200 [((0, 3), .v (p.h3.val p.rooms.length)), ((1, 6), .v (s.h6.val s.chans.length))] [0, 1] [_, _] z135 z145 ⟨rfl, rfl, trivial⟩ rfl ?_
   refine bO (ti := aU tab) cN aA rfl rfl rfl rfl rfl ⟨rfl, rfl⟩ (aL 1 rfl (.trans (.R_R (aQ s)) (.ofR aX))) k rfl z43 (fun ad => ?_)
   refine bN _ fQ0 rfl rfl rfl rfl ⟨rfl, rfl⟩ (fun A w hW => tG _ _ _ _ w ⟨hW.get 1 rfl (.trans (.R_R (aQ s)) (.ofR (kO _ _ k hlt))), hW.get 1 rfl (.trans (.R_R (aQ s)) (.ofR (gJ _ _ k hlt))), hW.get 1 rfl (.trans (.R_R (aQ s)) (.ofR (hH _ _ k hlt))), trivial⟩ ⟨by omega, by omega, by omega⟩) ?_
   rintro v L ⟨rfl, rfl⟩
   apply CaseB.mk <;> intro g
   · exact aH ⟨_, rfl, tno fun e => (by rw [(e.chans k _ hat).1] at g; cases g), rfl⟩ (fun _ => rfl)
   have q1 : (s.chans[k]).m.valid = true := by simpa using g
   refine bO (ti := aU tab) cN aA rfl rfl rfl rfl rfl ⟨rfl, rfl⟩ (aL 1 rfl (.trans (.R_R (aQ s)) (.ofR aX))) k rfl z43 (fun ad1 => ?_)
   refine bO (ti := aU tab) aE aA rfl rfl rfl rfl rfl ⟨rfl, rfl⟩ (aL 0 rfl (.ofR (gN p))) k rfl z43 (fun ad2 => ?_)
   apply CaseB.mk <;> intro g
   · have q : ¬ (s.chans[k]).m.room = p.rooms[k] := by simpa using g
     exact aH ⟨_, rfl, tno fun e => q z53, rfl⟩ (fun _ => rfl)
   have q2 : (s.chans[k]).m.room = p.rooms[k] := by simpa using g
   refine ⟨⟨k + 1, by omega, fun i x hi hx => ?_⟩, ?_, by simp only; omega⟩
   · by_cases e : i < k
     · exact hinv i x e hx
     · obtain rfl : i = k := by omega
       rw [hat] at hx
       injection hx with hx
       subst hx
       exact ⟨q1, by rw [hpat, q2]⟩
   · exact aC [0, 1] zw1 zw0 zw1 zw5 zw3 rfl rfl
 have hge : s.chans.length ≤ k := by simpa using g
 have vchans : ∀ (i : Nat) x, s.pure.chans[i]? = some x → x.valid = true ∧ p.pure.rooms[i]? = some x.room := fun i x hx => hinv i x (by have := (List.getElem?_eq_some_iff.1 hx).1; have e : s.pure.chans.length = s.chans.length := mlen _ _; omega) hx
 have mm : ∀ {α : Type} {xs : List α} {q : α → Prop}, (∀ (i : Nat) x, xs[i]? = some x → q x) → ∀ x ∈ xs, q x := fun h x hx => by
   obtain ⟨i, hi⟩ := List.getElem?_of_mem hx
   exact h i x hi
 have n := fun {α β γ δ : Type} (f : α → β) (g : γ → δ) {xs : List α} {ys : List γ} (e : xs.length = ys.length) => (show (xs.map f).length = (ys.map g).length by simp [e])
 exact aH ⟨_, rfl, jS ⟨by simpa [StateH.pure, ProgH.pure] using c2, by simpa [StateH.pure, ProgH.pure] using c4, by simpa [StateH.pure, ProgH.pure] using c5, by simpa [StateH.pure, ProgH.pure] using c6, by simpa [StateH.pure, ProgH.pure] using c3, vsems, mm vgroups, vbarriers, vchans, mm vonces⟩, rfl⟩ (fun _ => rfl)
end Go.Proofs.YtijmjecehppbfaaGreat
