/- FnFormatState: texts that its proof stands on, part 12. -/
import Derived.ProofKit
import Derived.Deep.Slices
import Derived.Laws.StructEq
import Derived.Test.YtchkcjeeknfchaaGreatDoorQFormatStatek
namespace Go.Proofs.YtchkcjeeknfchaaGreatDoor
set_option maxRecDepth 100000
set_option maxHeartbeats 100000000
open Go Go.Sx Go.RowKit
theorem Near.up {n : Nat} {s : State} (h : Near n s) (m : Nat) (hm : n ≤ m) : Near m s := ⟨h.sm, h.pl, h.st, h.on, Nat.le_trans h.sa (Nat.add_le_add_left hm 64), h.ba⟩
def PairR (v : Value) (L : List Fct) : Prop := ∃ (q : ProgH) (y : StateH), v = .tuple #[eJ q, aM y] ∧ ProgOk q.pure ∧ Near 2 y.pure ∧ L = [fO (bD q), fN (aJ y)]
def TripR (v : Value) (L : List Fct) : Prop := ∃ (q : ProgH) (y : StateH) (t : Int), v = .tuple #[eJ q, aM y, .int .i64 t] ∧ ProgOk q.pure ∧ Near 2 y.pure ∧ L = [fO (bD q), fN (aJ y)]
theorem kK0 (g : Nat) (bi : Sl) (rb : List UInt8) (p : Nat) (w : World) (hg : Blk w g 183 (kA bi rb p)) (h : AtP w g [slo bi eI 1 rb]) (hb : rb.length ≤ 2000) (hp : p < 10000) :
   Calls Tryz.prog 78 #[.pointer (some ⟨g, 0, none⟩)] w (uG w g 183 2 fun v cs L => ∃ (q : ProgH) (y : StateH) (n p2 : Nat), v = .tuple #[eJ q, aM y] ∧ ProgOk q.pure ∧ Reach q.pure n y.pure ∧ n ≤ 12 ∧ cs = kA bi rb p2 ∧ p2 ≤ p + 200 ∧ L = [fO (bD q), fN (aJ y)]) := by
 refine yL Tryz.func78 rfl aA w _ rfl _ rfl _ 183 _ 2 rfl hg _ h ⟨rfl, rfl, trivial⟩ (by decide) ?_
 refine bH _ cl111 rfl rfl rfl rfl ⟨rfl, rfl⟩ rfl rfl (fun A w ga hga hW hblk => (kH0 ga bi rb p w hblk ⟨z29, trivial⟩ hb (by omega))) ?_
 rintro v cs L ⟨q, p1, rfl, ok, rfl, hp1, rfl⟩
 refine aH aA z88 z88 z88 200 [((3, 0), .v (q.h0.val q.sems.length)), ((3, 1), .v (q.h1.val q.groups.length)), ((3, 2), .v (q.h2.val q.barriers.length)), ((3, 3), .v (q.h3.val q.rooms.length)), ((3, 4), .v (q.h4.val q.threads.length))] [] [] z94 z105 trivial rfl ?_
 refine AllSl.mk fun l => ?_
 refine gP _ nL rfl rfl rfl rfl ⟨rfl, rfl⟩ rfl rfl rfl (fun A w ga hga hW hblk => (iR ga bi rb _ _ [3, 2, 5, 8, 1, 0, 12] w hblk ⟨z29, z29, trivial⟩ hb (by omega) (by decide))) ?_
 rintro v cs L ⟨x, rfl, hx, rfl, rfl⟩
 obtain ⟨m, rfl, hm⟩ : ∃ m : Nat, x = m ∧ m ≤ 12 := ⟨x.toNat, by simp at hx; omega, by simp at hx; omega⟩
 refine gP _ cl112 rfl rfl rfl rfl ⟨rfl, rfl⟩ rfl rfl rfl (fun A w ga hga hW hblk => (kJ0 ga bi rb _ q m w hblk ⟨hW.getP _ hga rfl 2 rfl (.refl _), hW.getP _ hga rfl 1 rfl (.O_R fun _ h => h), trivial⟩ hb (by omega) ok (by omega))) ?_
 rintro v cs L ⟨y, n, p2, rfl, hr, hn, rfl, hp2, rfl⟩
 exact jE [2, 0] ⟨q, y, n, p2, rfl, ok, hr, by omega, rfl, by omega, rfl⟩ rfl rfl z109 rfl ⟨rfl, rfl, trivial⟩ (fun _ => rfl)
theorem kL0 (i : Sl) (xs : List UInt8) (w : World) (h : At w [slo i eI 1 xs]) (hb : xs.length ≤ 4294967296) :
   Calls Tryz.prog 40 #[i.val xs.length] w (Ret w TripR) := by
 have ht : (xs.take 2000).length ≤ 2000 := by simp; omega
 refine bU Tryz.func40 rfl aA w _ rfl _ rfl _ h ⟨rfl, rfl, trivial⟩ _ (by decide) ?_
 refine bQ0 _ 183 2 cl77 rfl rfl rfl rfl ⟨rfl, rfl⟩ (fun A w hW => (mB0 i xs w ⟨z30, trivial⟩ hb)) ?_
 rintro cs L ⟨rfl, rfl⟩
 refine bH _ cl78 rfl rfl rfl rfl ⟨rfl, rfl⟩ rfl rfl (fun A w ga hga hW hblk => (kK0 ga (mY i xs) (xs.take 2000) _ w hblk ⟨z32, trivial⟩ ht (by omega))) ?_
 rintro v cs L ⟨q, y, n, p1, rfl, ok, hr, hn, rfl, hp1, rfl⟩
 have near := hr.near ok (by omega)
 have hsb : y.status.length ≤ 1048576 := near.sm.2.1
 have hrl : (dK y.pure).length ≤ 1048576 := Nat.le_trans (yB y.pure) hsb
 refine AllSl.mk fun l => ?_
 refine bH _ nL rfl rfl rfl rfl ⟨rfl, rfl⟩ rfl rfl (fun A w ga hga hW hblk => (iR ga (mY i xs) (xs.take 2000) _ _ [0, 1, 2, 3, 4, -1] w hblk ⟨z32, hW.rdOwnP _ hga rfl 0 rfl, trivial⟩ ht (by omega) (by decide))) ?_
 rintro v cs L ⟨t, rfl, _, rfl, rfl⟩
 refine aB _ lT0 rfl rfl rfl rfl ⟨rfl, rfl⟩ (fun A w hW => wJ y w ⟨hW.get 2 rfl (oG _), trivial⟩ hsb) ?_
 rintro v L ⟨yr, rfl, rfl⟩
 refine CaseB.mk (fun g1 => ?_) (fun g1 => ?_)
 · have h0 : 0 < (dK y.pure).length := by have := of_decide_eq_true g1; omega
   refine bH _ rC rfl rfl rfl rfl ⟨rfl, rfl⟩ rfl rfl (fun A w ga hga hW hblk => (iQ ga (mY i xs) (xs.take 2000) _ _ w hblk ⟨z32, trivial⟩ ht (by omega))) ?_
   rintro v cs L ⟨k4, rfl, _, _, rfl, rfl⟩
   refine CaseB.mk (fun g2 => ?_) (fun g2 => ?_)
   · refine bH _ rC rfl rfl rfl rfl ⟨rfl, rfl⟩ rfl rfl (fun A w ga hga hW hblk => (iQ ga (mY i xs) (xs.take 2000) _ _ w hblk ⟨z32, trivial⟩ ht (by omega))) ?_
     rintro v cs L ⟨kk, rfl, hkk, _, rfl, rfl⟩
     have hlt : kk < (dK y.pure).length := by have := hkk (by omega); omega
     refine aF aI aA rfl rfl rfl rfl rfl ⟨rfl, rfl⟩ z31 kk rfl z37 (fun ad => ?_)
     refine aH aA z88 z88 z88 200 [((3, 0), .v (q.h0.val q.sems.length)), ((3, 1), .v (q.h1.val q.groups.length)), ((3, 2), .v (q.h2.val q.barriers.length)), ((3, 3), .v (q.h3.val q.rooms.length)), ((3, 4), .v (q.h4.val q.threads.length)), ((4, 0), .v (y.h0.val y.places.length)), ((4, 1), .v (y.h1.val y.status.length)), ((4, 2), .v (y.h2.val y.sems.length)), ((4, 3), .v (y.h3.val y.onces.length)), ((4, 4), .v (y.h4.val y.groups.length)), ((4, 5), .v (y.h5.val y.barriers.length)), ((4, 6), .v (y.h6.val y.chans.length)), ((4, 7), .v (y.h7.val y.said.length)), ((4, 8), .v (.int .i64 y.fault))] [] [] z90 z92 trivial rfl ?_
     refine gP _ lU0 rfl rfl rfl rfl ⟨rfl, rfl⟩ rfl rfl rfl (fun A w ga hga hW hblk => (wM ga (mY i xs) (xs.take 2000) _ y 0 w hblk ⟨z32, hW.getP _ hga rfl 3 rfl (oG _), trivial⟩ ht (by omega) near (by omega))) ?_
     rintro v cs L ⟨y2, p2, rfl, n2, rfl, _, rfl⟩
     exact bY [3, 0] ⟨q, y2, _, rfl, ok, n2.up 2 (by omega), rfl⟩ z109 rfl ⟨rfl, rfl, trivial⟩ (fun _ => rfl)
   · skip
     refine aH aA z88 z88 z88 200 [((3, 0), .v (q.h0.val q.sems.length)), ((3, 1), .v (q.h1.val q.groups.length)), ((3, 2), .v (q.h2.val q.barriers.length)), ((3, 3), .v (q.h3.val q.rooms.length)), ((3, 4), .v (q.h4.val q.threads.length)), ((4, 0), .v (y.h0.val y.places.length)), ((4, 1), .v (y.h1.val y.status.length)), ((4, 2), .v (y.h2.val y.sems.length)), ((4, 3), .v (y.h3.val y.onces.length)), ((4, 4), .v (y.h4.val y.groups.length)), ((4, 5), .v (y.h5.val y.barriers.length)), ((4, 6), .v (y.h6.val y.chans.length)), ((4, 7), .v (y.h7.val y.said.length)), ((4, 8), .v (.int .i64 y.fault))] [] [] z90 z92 trivial rfl ?_
     refine gP _ lU0 rfl rfl rfl rfl ⟨rfl, rfl⟩ rfl rfl rfl (fun A w ga hga hW hblk => (wM ga (mY i xs) (xs.take 2000) _ y 0 w hblk ⟨z32, hW.getP _ hga rfl 3 rfl (oG _), trivial⟩ ht (by omega) near (by omega))) ?_
     rintro v cs L ⟨y2, p2, rfl, n2, rfl, _, rfl⟩
     exact bY [3, 0] ⟨q, y2, _, rfl, ok, n2.up 2 (by omega), rfl⟩ z109 rfl ⟨rfl, rfl, trivial⟩ (fun _ => rfl)
 · skip
   refine aH aA z88 z88 z88 200 [((3, 0), .v (q.h0.val q.sems.length)), ((3, 1), .v (q.h1.val q.groups.length)), ((3, 2), .v (q.h2.val q.barriers.length)), ((3, 3), .v (q.h3.val q.rooms.length)), ((3, 4), .v (q.h4.val q.threads.length)), ((4, 0), .v (y.h0.val y.places.length)), ((4, 1), .v (y.h1.val y.status.length)), ((4, 2), .v (y.h2.val y.sems.length)), ((4, 3), .v (y.h3.val y.onces.length)), ((4, 4), .v (y.h4.val y.groups.length)), ((4, 5), .v (y.h5.val y.barriers.length)), ((4, 6), .v (y.h6.val y.chans.length)), ((4, 7), .v (y.h7.val y.said.length)), ((4, 8), .v (.int .i64 y.fault))] [] [] z90 z92 trivial rfl ?_
   refine gP _ lU0 rfl rfl rfl rfl ⟨rfl, rfl⟩ rfl rfl rfl (fun A w ga hga hW hblk => (wM ga (mY i xs) (xs.take 2000) _ y 0 w hblk ⟨z32, hW.getP _ hga rfl 3 rfl (oG _), trivial⟩ ht (by omega) near (by omega))) ?_
   rintro v cs L ⟨y2, p2, rfl, n2, rfl, _, rfl⟩
   exact bY [3, 0] ⟨q, y2, _, rfl, ok, n2.up 2 (by omega), rfl⟩ z109 rfl ⟨rfl, rfl, trivial⟩ (fun _ => rfl)
theorem fT0 (i : Sl) (xs : List UInt8) (w : World) (h : At w [slo i eI 1 xs]) (hb : xs.length ≤ 4294967296) :
   Calls Tryz.prog 13 #[i.val xs.length] w (Ret w PairR) := by
 refine bU Tryz.func13 rfl aA w _ rfl _ rfl _ h ⟨rfl, rfl, trivial⟩ _ (by decide) ?_
 refine aB _ cl40 rfl rfl rfl rfl ⟨rfl, rfl⟩ (fun A w hW => (kL0 i xs w ⟨z30, trivial⟩ hb)) ?_
 rintro v L ⟨q, y, t, rfl, ok, nr, rfl⟩
 refine aH aA z88 z88 z88 200 [((2, 0), .v (q.h0.val q.sems.length)), ((2, 1), .v (q.h1.val q.groups.length)), ((2, 2), .v (q.h2.val q.barriers.length)), ((2, 3), .v (q.h3.val q.rooms.length)), ((2, 4), .v (q.h4.val q.threads.length)), ((3, 0), .v (y.h0.val y.places.length)), ((3, 1), .v (y.h1.val y.status.length)), ((3, 2), .v (y.h2.val y.sems.length)), ((3, 3), .v (y.h3.val y.onces.length)), ((3, 4), .v (y.h4.val y.groups.length)), ((3, 5), .v (y.h5.val y.barriers.length)), ((3, 6), .v (y.h6.val y.chans.length)), ((3, 7), .v (y.h7.val y.said.length)), ((3, 8), .v (.int .i64 y.fault))] [] [] z90 z92 trivial rfl ?_
 exact bY [0, 1] ⟨q, y, rfl, ok, nr, rfl⟩ z109 rfl ⟨rfl, rfl, trivial⟩ (fun _ => rfl)
theorem mT0 {b c : Bool} {P : Prop} (h1 : b = true ↔ P) (h2 : c = true ↔ P) : b = c := Bool.eq_iff_iff.2 (h1.trans h2.symm)
theorem iW0 {s : StateH} (h : TextOk s) : (qD s.pure).length ≤ 10000 := by
 obtain ⟨hlen, h1, h4, _, hsl, _, _, _⟩ := h
 have hpn : (cD s.places s.status).length = s.places.length := jT hlen
 have hA : (nS s.pure).length ≤ 69 := by
   show (cD s.places s.status ++ [124] :: s.said.map dF).length ≤ 69
   rw [List.length_append, List.length_cons, List.length_map, hpn]; omega
 rw [pB]
 have key : ∀ ys : List Str, ys.length ≤ 2 → (∀ x ∈ ys, x.length ≤ 21) → (dS (nS s.pure ++ ys)).length ≤ 10000 := fun ys hl hy => by
   have := pT (xs := nS s.pure ++ ys) (C := 21) (fun x hx => by
     rcases List.mem_append.1 hx with hx | hx
     · exact qU hx
     · exact hy x hx)
   rw [List.length_append] at this
   omega
 by_cases f0 : s.pure.fault = 0
 · rw [if_pos f0]; exact key [] (by simp) (by simp)
 · rw [if_neg f0]
   refine key _ (by simp) (fun x hx => ?_)
   rcases List.mem_cons.1 hx with rfl | hx
   · decide
   · rcases List.mem_singleton.1 hx with rfl
     have := qS s.pure.fault; omega
theorem bD0 {α : Type} [BEq α] [LawfulBEq α] [DecidableEq α] (a : α) {xs : List α} {i : Nat} (h : i < xs.length) : (xs.take (i + 1)).count a = (xs.take i).count a + if xs[i] = a then 1 else 0 := by
 rw [List.take_succ_eq_append_getElem h, List.count_append, List.count_singleton]
 by_cases e : xs[i] = a <;> simp [e]
theorem iX0 {α : Type} [BEq α] (a : α) (xs : List α) (i : Nat) : (xs.take i).count a ≤ i := by
 have := List.count_le_length (a := a) (l := xs.take i)
 rw [List.length_take] at this; omega
theorem tE (i : Sl) (xs : List UInt8) (w : World) (h : At w [slo i eI 1 xs]) :
   Calls Tryz.prog 4 #[i.val xs.length] w (Ret w fun v L => v = .bool true ∧ L = []) := by
 refine bU Tryz.func4 rfl aA w _ rfl _ rfl _ h ⟨rfl, rfl, trivial⟩ _ (by decide) ?_
 refine CaseB.mk (fun h0 => ?_) (fun h0 => ?_)
 · exact aG ⟨rfl, rfl⟩ (fun _ => rfl)
 have hb : xs.length ≤ 4294967296 := by simp at h0; omega
 refine aB _ cl13 rfl rfl rfl rfl ⟨rfl, rfl⟩ (fun A w hW => (fT0 i xs w ⟨z30, trivial⟩ hb)) ?_
 rintro v L ⟨p, s, rfl, ok, nr, rfl⟩
 have hp := ok.small20
 have hs := nr.sm
 refine aB _ cl10 rfl rfl rfl rfl ⟨rfl, rfl⟩ (fun A w hW => cM0 p s w ⟨hW.get 0 rfl (.O_R fun _ h => h), hW.get 1 rfl (oG _), trivial⟩ hp hs) ?_
 rintro v L ⟨t, rfl, i1, i2, rfl⟩
 refine aB _ cl14 rfl rfl rfl rfl ⟨rfl, rfl⟩ (fun A w hW => tW p s w ⟨hW.get 0 rfl (.O_R fun _ h => h), hW.get 1 rfl (oG _), trivial⟩ hp hs) ?_
 rintro v L ⟨b, rfl, hbb, rfl⟩
 refine aB _ cl7 rfl rfl rfl rfl ⟨rfl, rfl⟩ (fun A w hW => aT0 p s w ⟨hW.get 0 rfl (.O_R fun _ h => h), hW.get 1 rfl (oG _), trivial⟩ hp hs) ?_
 rintro v L ⟨t2, rfl, j1, j2, rfl⟩
 obtain rfl : t2 = t := by
   by_cases ft : Fits p.pure s.pure
   · rw [j1 ft, i1 ft]
   · rw [j2 ft, i2 ft]
 refine bJ rfl rfl rfl ⟨rfl, rfl⟩ (.bool (t2 != t2)) (fun w => aO w) (fun w => pQ w) ?_
 refine CaseB.mk (fun g => by simp at g) (fun _ => ?_)
 refine aB _ jF0 rfl rfl rfl rfl ⟨rfl, rfl⟩ (fun A w hW => kP p s w ⟨hW.get 0 rfl (.O_R fun _ h => h), hW.get 1 rfl (oG _), trivial⟩ hp hs) ?_
 rintro v L ⟨b2, rfl, hb2, rfl⟩
 have e0 : b2 = b := Bool.eq_iff_iff.2 (hb2.trans hbb.symm)
 rw [e0]
 refine CaseB.mk (fun g => by simp at g) (fun _ => ?_)
 refine bJ rfl rfl rfl ⟨rfl, rfl⟩ (.bool (t2 != [])) (fun w => aO w) (fun w => pQ w) ?_
 have e1 : (t2 != []) = b := mT0 (P := Fits p.pure s.pure) (by
   by_cases ft : Fits p.pure s.pure
   · have := hH0 s.pure
     simp [i1 ft, ft, this]
   · simp [i2 ft, ft]) hbb
 rw [e1]
 refine CaseB.mk (fun g => by simp at g) (fun _ => ?_)
 apply CaseB.mk <;> intro g
 · exact aG ⟨rfl, rfl⟩ (fun _ => rfl)
 have ft := hbb.1 z85
 have to := ft.textOk
 have tl := iW0 to
 rw [← i1 ft] at tl
 have hcnt : t2.count 63 = s.status.count 1 := by rw [i1 ft]; exact aQ0 to.len
 have sl4 : s.status.length ≤ 4 := by have := to.len; have := to.l4; omega
 refine LoopW.mk ⟨{ q : Nat // q ≤ t2.length },
   fun q => .mk [(4, .p 1 0), (5, .v (.string (bs t2))), (7, .v (.int .i64 ((t2.take q.1).count 63 : Nat))), (8, .v (.int .i64 0)), (9, .v (.int .i64 (q.1 : Int)))] 2 0 [(0, 38, 5), (1, 46, 9)] [((1, 1), .v (s.h1.val s.status.length))] [fN (aJ s)],
   fun q => t2.length - q.1, ⟨0, Nat.zero_le _⟩, ?_, ?_⟩
 · exact aC [1] zw2 zw0 zw2 zw5 zw4 rfl rfl
 rintro ⟨k, k1⟩
 simp only at k1 ⊢
 have cl := iX0 (63 : UInt8) t2 k
 refine eA aA rfl rfl rfl rfl rfl rfl ⟨rfl, rfl⟩ ?_
 apply CaseB.mk <;> intro g
 · have hlt : k < t2.length := by have := of_decide_eq_true g; omega
   have hw := bA k _ hlt (by omega)
   have hc := bD0 (63 : UInt8) hlt
   refine gR aA rfl rfl rfl rfl ⟨rfl, rfl⟩ (k) rfl z37 ?_
   refine CaseB.mk (fun g2 => ?_) (fun g2 => ?_)
   · have e : t2[k] = 63 := (xQ _ 63).1 z82
     rw [if_pos e] at hc
     have hw2 : IntKind.i64.wrap (((t2.take k).count 63 : Nat) + 1) = (((t2.take (k + 1)).count 63 : Nat) : Int) := by rw [hc, IntKind.wrap_i64]; omega
     refine ⟨⟨k + 1, hlt⟩, ?_, by simp only; omega⟩
     exact aC [0] zw11 zw0 zw11 zw5 zw26 rfl rfl
   have e : ¬ t2[k] = 63 := fun h => by rw [h] at g2; simp at g2
   rw [if_neg e] at hc
   refine ⟨⟨k + 1, hlt⟩, ?_, by simp only; omega⟩
   exact aC [0] zw10 zw0 zw10 zw5 zw25 rfl rfl
 have hke : k = t2.length := by have := of_decide_eq_false g; omega
 subst hke
 rw [List.take_length]
 refine LoopW.mk ⟨{ q : Nat // q ≤ s.status.length },
   fun q => .mk [(4, .p 1 0), (7, .v (.int .i64 (t2.count 63 : Nat))), (8, .v (.int .i64 ((s.status.take q.1).count 1 : Nat))), (10, .v (.int .i64 (q.1 : Int)))] 2 0 [(0, 38, 5), (1, 46, 9)] [((1, 1), .v (s.h1.val s.status.length))] [fN (aJ s)],
   fun q => s.status.length - q.1, ⟨0, Nat.zero_le _⟩, ?_, ?_⟩
 · exact aC [0] zw2 zw0 zw2 zw5 zw4 rfl rfl
 rintro ⟨k, k1⟩
 simp only at k1 ⊢
 have cl2 := iX0 (1 : Int) s.status k
 apply CaseB.mk <;> intro g
 · have hlt : k < s.status.length := by simpa using g
   have hw := bA k _ hlt (by omega)
   have hc := bD0 (1 : Int) hlt
   refine aF aI aA rfl rfl rfl rfl rfl ⟨rfl, rfl⟩ (aN 0 rfl (.trans (oG _) (.ofR (cR s)))) k rfl z37 (fun ad => ?_)
   refine CaseB.mk (fun g2 => ?_) (fun g2 => ?_)
   · have e : s.status[k] = 1 := by simpa using g2
     rw [if_pos e] at hc
     have hw2 : IntKind.i64.wrap (((s.status.take k).count 1 : Nat) + 1) = (((s.status.take (k + 1)).count 1 : Nat) : Int) := by rw [hc, IntKind.wrap_i64]; omega
     refine ⟨⟨k + 1, hlt⟩, ?_, by simp only; omega⟩
     exact aC [0] zw11 zw0 zw11 zw5 zw26 rfl rfl
   have e : ¬ s.status[k] = 1 := by simpa using g2
   rw [if_neg e] at hc
   refine ⟨⟨k + 1, hlt⟩, ?_, by simp only; omega⟩
   exact aC [0] zw10 zw0 zw10 zw5 zw25 rfl rfl
 have hke : k = s.status.length := by have := of_decide_eq_false g; omega
 subst hke
 rw [List.take_length]
 refine aG ⟨?_, rfl⟩ (fun _ => rfl)
 simp [hcnt]
end Go.Proofs.YtchkcjeeknfchaaGreatDoor
namespace Go.Sx
set_option maxRecDepth 100000
set_option maxHeartbeats 100000000
open Go Go.RowKit Go.ChangeShapes Go.WideShapes
theorem qF {H : Type} {enc : TypeId × Value → H} {P : Program} (hl : laidOutB P = true) {W W' : World} (hb : Below W.heap.size W W') (sp : Nat → Bool) : ∀ {ts : List TypeId} {vs : List Value} {ds : List (DataW H)} {ps : List MemPlace}, (∀ t ∈ ts, P.readableRec t = true ∧ t < P.types.size) →
   DataW.TrodAll enc P W 0 (fun _ => true) true ts vs ds ps → (∀ x ∈ ps, x.block < W.heap.size) → (∀ x ∈ ps, sp x.block = true) → DataW.TrodAll enc P W' 0 sp true ts vs ds ps
 | [], [], [], ps, _, h, _, _ => h
 | t :: ts, v :: vs, d :: ds, ps, hr, h, hlt, hsp => by
   obtain ⟨p, q, h1, h2, rfl⟩ := h
   have ht := hr t (by simp)
   exact ⟨p, q, WideElems.Trod_stays hl ht.1 ht.2 h1 (fun x hx => hb.same (hlt x (by simp [hx]))) (fun x hx => hsp x (by simp [hx])),
     qF hl hb sp (fun t ht => hr t (by simp [ht])) h2 (fun x hx => hlt x (by simp [hx])) (fun x hx => hsp x (by simp [hx])), rfl⟩
 | [], _ :: _, _, _, _, h, _, _ => h.elim
 | _ :: _, [], _, _, _, h, _, _ => h.elim
 | [], [], _ :: _, _, _, h, _, _ => h.elim
 | _ :: _, _ :: _, [], _, _, h, _, _ => h.elim
theorem iY0 {H : Type} {enc : TypeId × Value → H} {P : Program} {f : Func} {s : ChangeSpec} {apart fresh handsOn again : Bool} {W W' : World} {args : Array Value} {ds gs : List (DataW H)} {before : List MemPlace} {tb : TypeId} {pl : List TypeId}
   (hl : laidOutB P = true) (hpl : f.params.toList = pl) (hp : pl.all (fun t => P.readableRec t && decide (t < P.types.size)) = true) (hvars : s.vars = []) (hres : f.resultTypes = #[tb]) (htb : P.underlying tb = some .bool)
   (hspec : s.fn H (ds ++ gs) = { results := [.lit (.bool true)], args := ds })
   (hW : DataW.Whole enc P f.params.toList s.vars apart W args.toList ds gs before) (hb : Below W.heap.size W W') :
   s.post enc P f apart fresh handsOn again W args (.bool true) W' := by
 have hold : ∀ p ∈ before, p.block < W.heap.size := fun p hp => by simpa using hW.lt p hp
 have hW0 := hW
 obtain ⟨pa, pv, hA, hV, hbef, hfz, hnd⟩ := hW
 have hbef' := hbef.symm; clear hbef
 rw [hvars] at hV
 obtain ⟨rfl, rfl⟩ := trodVars_none hV
 rw [List.append_nil] at hbef'
 subst hbef'
 rw [List.append_nil] at hspec
 have hp' : ∀ t ∈ f.params.toList, P.readableRec t = true ∧ t < P.types.size := fun t ht => by
   rw [hpl] at ht
   have := List.all_eq_true.1 hp t ht
   simpa using this
 have hB : ∀ (b : Nat) (sp : Nat → Bool) (hd : Bool), DataW.Trod enc P W' b sp hd tb (.bool true) (.lit (.bool true)) [] := fun b sp hd => ⟨1, by simp [DataW.trod, Value.cells, htb]⟩
 have hrl : (Value.bool true).resultList f.resultTypes.size = [.bool true] := by rw [hres]; rfl
 have hR : ∀ (b : Nat) (sp : Nat → Bool) (hd : Bool), DataW.TrodAll enc P W' b sp hd f.resultTypes.toList ((Value.bool true).resultList f.resultTypes.size) [.lit (.bool true)] [] := fun b sp hd => by
   rw [hrl, hres]; exact trodAll_mk1 (hB b sp hd)
 have hAr := fun sp h => qF hl hb sp hp' hA hold h
 have hvv : ∀ sp, DataW.TrodVars enc P W' sp s.vars ([] : List (DataW H)) [] := fun sp => by rw [hvars]; rfl
 refine ⟨ds, [], pa, [], pa, [], hW0, ?_, ?_, ?_, ?_, fun _ => ⟨?_, [.lit (.bool true)] ++ ds, [], [] ++ pa, ⟨[] ++ pa, [], trodAll_append (hAr _ (fun _ _ => rfl)) (hR _ _ _), hvv _, by simp, ?_, ?_⟩, fun p hp _ => by simpa using hp⟩⟩
 · simp only [List.append_nil, hspec]; exact hR _ _ _
 · simp only [List.append_nil, hspec]; exact hAr _ (fun p hp => by simpa using hold p hp)
 · simp only [List.append_nil, hspec]; exact hvv _
 · exact World.keptBut_mono (fun p hp => hp.elim) (hb.frame (fun _ => False))
 · intro j t r hj hv
   rw [hrl] at hv
   rw [hres] at hj
   cases j with
   | succ j => simp at hv
   | zero =>
     simp at hj hv
     subst hj; subst hv
     simp [Value.okWide, htb, Cell.okWide, Cell.ok]
 · intro b off hp
   rw [hb.frozen (hold _ (by simpa using hp))]
   exact hfz b off (by simpa using hp)
 · intro h
   simpa using hnd h
section
variable {H : Type} {enc : TypeId × Value → H} {P : Program} {W : World}
theorem fU0 {α : Type} {el : α → List Value} {sz : Nat} (he : Enc el sz) (h0 : 0 < sz) {xs : List α} {j : Nat} {u : Value} (h : (cells el xs)[j]? = some u) : ∃ (k r : Nat) (hk : k < xs.length), j = k * sz + r ∧ (el xs[k])[r]? = some u := by
 have hlt : j < xs.length * sz := by rw [← kH he]; exact (List.getElem?_eq_some_iff.1 h).1
 have hk : j / sz < xs.length := Nat.div_lt_of_lt_mul (by rwa [Nat.mul_comm] at hlt)
 have hr : j % sz < sz := Nat.mod_lt _ h0
 have hj : j = j / sz * sz + j % sz := (Nat.div_add_mod' j sz).symm
 refine ⟨j / sz, j % sz, hk, hj, ?_⟩
 have hr' : j % sz < (el xs[j / sz]).length := by rw [he.len]; exact hr
 have := oQ he hk (List.getElem?_eq_getElem hr')
 rw [← hj, h] at this
 rw [List.getElem?_eq_getElem hr', ← this]
theorem kM0 {α : Type} {el : α → List Value} {sz : Nat} (he : Enc el sz) (h0 : 0 < sz) {t e : TypeId} {fuel : Nat} {cs : List Value} {x : DataW H × List MemPlace} (ht : P.underlying t = some (.slice e)) (hc : P.cellsOf e = sz)
   (hel : ∀ n cs y, DataW.trod enc P W 0 (fun _ => true) true n e cs = some y → ∃ a : α, cs = el a)
   (h : DataW.trod enc P W 0 (fun _ => true) true fuel t cs = some x) :
   ∃ (i : Sl) (xs : List α), cs = [i.val xs.length] ∧ RdS W i sz (cells el xs) xs.length ∧ ∀ b, (fSl true i sz (cells el xs) xs.length).foot b → b < W.heap.size := by
 rcases Deep.open_slice ht h with ⟨rfl, rfl⟩ | ⟨a, len, cap, m, n, D, Pl, rfl, hb, hl, hm, hmm, rfl, hx⟩
 · exact ⟨⟨none, 0⟩, [], rfl, ⟨by simp [cells], by simp, by simp [maxLen], fun h => by simp at h⟩, fun b hb => by have := hb.1; simp at this⟩
 · rw [hc] at hx
   have hlm : len ≤ m := by rw [hmm]; simp; omega
   have hone : ∀ i, i < len → ∃ y : α, ∀ r u, (el y)[r]? = some u → W.cell? (a.add (i * sz + r)) = some u := fun i hi => by
     obtain ⟨cs', h1, h2⟩ := hx i (by omega)
     obtain ⟨y, rfl⟩ := hel _ _ _ h2
     obtain ⟨_, g1, g2⟩ := World.cells?_some h1
     refine ⟨y, fun r u hu => ?_⟩
     have hr : r < sz := by rw [← g1]; exact (List.getElem?_eq_some_iff.1 hu).1
     have := g2 r hr
     rw [gL, hu] at this
     exact this
   rcases Nat.eq_zero_or_pos len with hz | hz
   · subst hz
     exact ⟨⟨some a, cap⟩, [], rfl, ⟨by simp [cells], by simp, hm, fun h => by simp at h⟩, fun b hb => by have := hb.1; simp at this⟩
   · have : Inhabited α := ⟨(hone 0 hz).choose⟩
     obtain ⟨X, hX⟩ := Deep.choose_lt hone
     have hlen : ((List.range len).map X).length = len := by simp
     refine ⟨⟨some a, cap⟩, (List.range len).map X, by rw [hlen]; rfl, ⟨by rw [kH he], by rw [hlen]; exact hl, hm, fun _ => ⟨a, rfl, fun j u hu => ?_⟩⟩, ?_⟩
     · obtain ⟨k, r, hk, rfl, hu'⟩ := fU0 he h0 hu
       have hk' : k < len := by simpa using hk
       exact hX k hk' r u (by simpa using hu')
     · rintro b ⟨_, ad, had, rfl⟩
       injection had with had
       subst had
       have hr : 0 < (el (X 0)).length := by rw [he.len]; exact h0
       have hc0 := hX 0 hz 0 _ (List.getElem?_eq_getElem hr)
       unfold World.cell? at hc0
       rw [sM] at hc0
       cases hh : W.heap[a.block]? with
       | none => rw [hh] at hc0; simp at hc0
       | some o => exact (Array.getElem?_eq_some_iff.1 hh).1
theorem fV0 {base : Nat} {t e : TypeId} {r : Reach} {v : Value} {i : Sl} {n : Nat} (ht : P.underlying t = some (.slice e)) (hv : Value.okWide P W r base t v) (h : v.cells.toList = [i.val n]) : v = i.val n := by
 obtain ⟨a, len, cap, rfl⟩ := okWide_slice ht hv
 simpa [Value.cells] using h
end
end Go.Sx
namespace Go.Proofs.YtchkcjeeknfchaaGreatDoor
set_option maxRecDepth 100000
set_option maxHeartbeats 100000000
open Go Go.Sx Go.RowKit Go.ChangeShapes Go.WideShapes
theorem kN0 : ownKnob Tryz.prog.godebug = none := by kernel_rfl
theorem kO0 : laidOutB Tryz.prog = true := by kernel_rfl
theorem undB : Tryz.prog.underlying 51 = some (.slice 5) := by kernel_rfl
theorem und8 : Tryz.prog.underlying 5 = some (.int .u8) := by kernel_rfl
theorem kP0 : Tryz.prog.underlying 4 = some .bool := by kernel_rfl
theorem cZ0 {H : Type} {enc : TypeId × Value → H} {W : World} {base : Nat} {v : Value} {d : DataW H} {p : List MemPlace} (hv : Value.okWide Tryz.prog W .any base 51 v)
   (h : DataW.Trod enc Tryz.prog W 0 (fun _ => true) true 51 v d p) : ∃ (i : Sl) (xs : List UInt8), v = i.val xs.length ∧ At W [slo i eI 1 xs] := by
 obtain ⟨fuel, hf⟩ := h
 obtain ⟨i, xs, h1, h2, h3⟩ := kM0 (el := eI) rF Nat.zero_lt_one undB z88 (fun n cs y hy => by
   obtain ⟨k, h1, _, h2⟩ := DataW.trod_int und8 hy
   subst h1
   simp only [Lit.wf, Bool.and_eq_true, decide_eq_true_eq] at h2
   obtain ⟨h2, h3⟩ := h2
   have e1 : IntKind.u8.min = 0 := rfl
   have e2 : IntKind.u8.max = 255 := rfl
   rw [e1] at h2
   rw [e2] at h3
   refine ⟨UInt8.ofNat k.toNat, ?_⟩
   have : (UInt8.ofNat k.toNat).toNat = k.toNat := by rw [UInt8.toNat_ofNat']; omega
   simp only [eI, this, List.cons.injEq, Value.int.injEq, true_and, and_true]
   omega) hf
 exact ⟨i, xs, fV0 undB hv h1, ⟨h2, h3⟩, trivial⟩
end Go.Proofs.YtchkcjeeknfchaaGreatDoor
namespace Go.Sx
set_option maxRecDepth 100000
set_option maxHeartbeats 100000000
open Go Go.RowKit Go.ChangeShapes Go.WideShapes
def AllR (W : World) (G : List Fct) : Prop := ∀ f ∈ G, f.aged.P W ∧ ∀ b, f.aged.foot b → b < W.heap.size
theorem AllR.nil (W : World) : AllR W [] := fun _ h => by cases h
theorem AllR.cons {W : World} {f : Fct} {G : List Fct} (h : f.aged.P W ∧ ∀ b, f.aged.foot b → b < W.heap.size) (k : AllR W G) : AllR W (f :: G) := fun g hg => by
 rcases List.mem_cons.1 hg with rfl | hg
 · exact h
 · exact k g hg
theorem AllR.append {W : World} {G H : List Fct} (h : AllR W G) (k : AllR W H) : AllR W (G ++ H) := fun g hg => by
 rcases List.mem_append.1 hg with hg | hg
 · exact h g hg
 · exact k g hg
theorem AllR.at {W : World} {G : List Fct} (h : AllR W G) : (fR G).P W ∧ ∀ b, (fR G).foot b → b < W.heap.size := by
 refine ⟨fun g hg => ?_, ?_⟩
 · obtain ⟨f, hf, rfl⟩ := List.mem_map.1 hg
   exact (h f hf).1
 · rintro b ⟨g, hg, hb⟩
   obtain ⟨f, hf, rfl⟩ := List.mem_map.1 hg
   exact (h f hf).2 b hb
section
variable {H : Type} {enc : TypeId × Value → H} {P : Program} {W : World}
end
end Go.Sx
namespace Go.Proofs.YtchkcjeeknfchaaGreatDoor
set_option maxRecDepth 100000
set_option maxHeartbeats 100000000
open Go Go.Sx Go.RowKit Go.ChangeShapes Go.WideShapes
theorem wQ {f : FuncId} {fn : Func} {s : ChangeSpec} {conds : List PathCond} {X : World → Array Value → Prop} (hX : ∀ (w w' : World) (args : Array Value), w.heap = w'.heap → X w args → X w' args) (hf : Tryz.checked.prog.funcs[f]? = some fn) (hfn : Tryz.checked.prog.inits.idxOf? f = none) (hpl : fn.params = #[51]) (hres : fn.resultTypes = #[4]) (hvars : s.vars = [])
   (hspec : ∀ (H : Type) (d : DataW H), s.fn H [d] = { results := [.lit (.bool true)], args := [d] })
   (hc : ∀ (i : Sl) (xs : List UInt8) (w : World), At w [slo i eI 1 xs] → Calls Tryz.prog f #[i.val xs.length] w (Ret w fun v L => v = .bool true ∧ L = []))
   (os : Os) (started : os.Started) (H : Type) (enc : TypeId × Value → H)
   (wit : ∃ (w : World) (tape : Tape) (i : Input), w.os = os ∧ (w.forCall tape i).Shaped Tryz.checked.prog ∧ i.vars = [] ∧ Input.okWide Tryz.checked.prog (w.forCall tape i) .any w.heap.size f i ∧
     ((s.pre enc Tryz.checked.prog fn conds false (w.forCall tape i).memory i.args ∧ X (w.forCall tape i).memory i.args) ∧ sizedMet enc Tryz.checked.prog fn (OpenSpec.ofChange s) false (w.forCall tape i).memory i.args) ∧ ({} : Assume).holds Tryz.checked.prog (lone (Frame.enter Tryz.checked.prog f i.args .normal) [] (w.forCall tape i))) :
   ReturnsInHanded {} Tryz.checked os f .any (fun w args => (s.pre enc Tryz.checked.prog fn conds false w args ∧ X w args) ∧ sizedMet enc Tryz.checked.prog fn (OpenSpec.ofChange s) false w args) (s.post enc Tryz.checked.prog fn false true false false) := by
 refine returnsInHanded_of_change_and (C := Tryz.checked) (X := X) hX kN0 started hfn hf wit ?_
 intro W base args ds gs before hval hW _ _ _ _
 have hW' := hW
 obtain ⟨p, q, hA0, hV, _, _, _⟩ := hW
 rw [hpl] at hA0
 have hA : DataW.TrodAll enc Tryz.prog W 0 (fun _ => true) true [51] args.toList ds p := hA0
 obtain ⟨v0, d0, rfl, rfl, h0⟩ := trodAll_one hA
 obtain ⟨i, xs, rfl, hat⟩ := cZ0 (hval 0 51 v0 (by rw [hpl]; rfl) rfl) h0
 refine (hc i xs W hat).mono fun e W' hR => ?_
 obtain ⟨v, L, rfl, he, _, rfl, _⟩ := hR
 rw [hvars] at hV
 obtain ⟨rfl, _⟩ := trodVars_none hV
 exact ⟨_, rfl, iY0 (P := Tryz.prog) kO0 (pl := [51]) (by rw [hpl]) z88 hvars hres kP0 (hspec H d0) hW' he.below⟩
end Go.Proofs.YtchkcjeeknfchaaGreatDoor
