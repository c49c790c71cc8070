/- FnReadyThreads: texts that its proof stands on, part 1. -/
import Derived.Test.YtjkkoonennpceaaGreatQStepOthersn
namespace Go.Proofs.YtjkkoonennpceaaGreat
open Go Go.Sx Go.RowKit
set_option maxHeartbeats 16000000 in
set_option maxRecDepth 100000 in
theorem lawReadyThreads_c (i : Sl) (xs : List UInt8) (w : World) (h : At w [slo i cByte 1 xs]) :
   Calls Tryz.prog 9 #[i.val xs.length] w (Ret w fun v L => v = .bool true ∧ L = []) := by
 refine calls1 Tryz.func9 rfl tabOk w _ rfl _ rfl _ h ⟨rfl, rfl, trivial⟩ _ (by decide) ?_
 refine CaseB.mk (fun h0 => ?_) (fun h0 => ?_)
 · exact retw [] ⟨rfl, rfl⟩ trivial rfl trivial (fun _ => rfl)
 have hb : xs.length ≤ 4294967296 := by simp at h0; omega
 refine stop_call _ cl29 rfl rfl rfl rfl ⟨rfl, rfl⟩ (fun A w hW => (readyD_c i xs w ⟨z29, trivial⟩ hb)) ?_
 rintro v L ⟨p, s, rfl, ok, nr, rfl⟩
 have hp := ok.small20
 have hs := nr.sm
 have hsb : s.status.length ≤ 1048576 := hs.2.1
 refine stop_call _ cl28 rfl rfl rfl rfl ⟨rfl, rfl⟩ (fun A w hW => readyThreads_c p s w ⟨hW.get 0 rfl (.O_R fun _ h => h), hW.get 1 rfl (fN_fR _), trivial⟩ hp hs) ?_
 rintro v L ⟨yr, rs, rfl, r1, r2, rfl⟩
 refine stop_call _ cl31 rfl rfl rfl rfl ⟨rfl, rfl⟩ (fun A w hW => readyThreadsS_c p s w ⟨hW.get 1 rfl (.O_R fun _ h => h), hW.get 2 rfl (fN_fR _), trivial⟩ hp hs) ?_
 rintro v L ⟨yq, rq, rfl, q1, q2, rfl⟩
 obtain rfl := ready_same r1 r2 q1 q2
 have hrl := ready_len r1 r2
 have hrl2 : rs.length ≤ 1048576 := Nat.le_trans hrl hsb
 refine stop_call _ cl30 rfl rfl rfl rfl ⟨rfl, rfl⟩ (fun A w hW => (wkInts_c yr yq rs rs w ⟨z29, z29, trivial⟩ (by omega) (by omega))) ?_
 rintro v L ⟨rfl, rfl⟩
 refine CaseB.mk (fun g => by simp at g) (fun _ => ?_)
 refine stop_call _ cl18 rfl rfl rfl rfl ⟨rfl, rfl⟩ (fun A w hW => stateFits_c p s w ⟨hW.get 2 rfl (.O_R fun _ h => h), hW.get 3 rfl (fN_fR _), trivial⟩ hp hs) ?_
 rintro v L ⟨b, rfl, hbb, rfl⟩
 apply CaseB.mk <;> intro g
 · refine stop_call _ cl31 rfl rfl rfl rfl ⟨rfl, rfl⟩ (fun A w hW => readyThreadsS_c p s w ⟨hW.get 2 rfl (.O_R fun _ h => h), hW.get 3 rfl (fN_fR _), trivial⟩ hp hs) ?_
   rintro v L ⟨yq2, rq2, rfl, q3, q4, rfl⟩
   obtain rfl := ready_same r1 r2 q3 q4
   refine stop_call _ cl30 rfl rfl rfl rfl ⟨rfl, rfl⟩ (fun A w hW => (wkInts_c yr yq2 rs rs w ⟨z29, z29, trivial⟩ (by omega) (by omega))) ?_
   rintro v L ⟨rfl, rfl⟩
   refine retw [] ⟨?_, rfl⟩ trivial rfl trivial (fun _ => rfl)
   simp
 have ft : Fits p.pure s.pure := hbb.1 z91
 refine CaseB.mk (fun g64 => ?_) (fun g64 => ?_)
 · refine stop_call _ cl31 rfl rfl rfl rfl ⟨rfl, rfl⟩ (fun A w hW => readyThreadsS_c p s w ⟨hW.get 2 rfl (.O_R fun _ h => h), hW.get 3 rfl (fN_fR _), trivial⟩ hp hs) ?_
   rintro v L ⟨yq2, rq2, rfl, q3, q4, rfl⟩
   obtain rfl := ready_same r1 r2 q3 q4
   refine stop_call _ cl30 rfl rfl rfl rfl ⟨rfl, rfl⟩ (fun A w hW => (wkInts_c yr yq2 rs rs w ⟨z29, z29, trivial⟩ (by omega) (by omega))) ?_
   rintro v L ⟨rfl, rfl⟩
   refine retw [] ⟨?_, rfl⟩ trivial rfl trivial (fun _ => rfl)
   simp
 have h64 : s.pure.said.length < 64 := by
   have l := ft.lsaid
   have n : ¬ (s.said.length : Int) = 64 := by simpa using g64
   have e : s.pure.said.length = s.said.length := rfl
   omega
 have hok := fun t => step_ready ft h64 nr.ba t
 have hnp : s.status.length = p.threads.length := by have := ft.ns; simpa [StateH.pure, ProgH.pure] using this
 obtain rfl := r1 ft
 refine LoopW.mk ⟨{ k : Nat // k ≤ s.status.length },
   fun k => .mk [(3, .p 0 0), (4, .p 1 0), (5, .v (yr.val (readyM s.pure).length)), (6, .v (.int .i64 ((rdyBefore s.pure k.1).length : Int))), (7, .v (.int .i64 (k.1 : Int)))] 2 0 [(1, 30, 9), (0, 37, 5)] [((0, 0), .v (p.h0.val p.sems.length)), ((0, 1), .v (p.h1.val p.groups.length)), ((0, 2), .v (p.h2.val p.barriers.length)), ((0, 3), .v (p.h3.val p.rooms.length)), ((0, 4), .v (p.h4.val p.threads.length)), ((1, 0), .v (s.h0.val s.places.length)), ((1, 1), .v (s.h1.val s.status.length)), ((1, 2), .v (s.h2.val s.sems.length)), ((1, 3), .v (s.h3.val s.onces.length)), ((1, 4), .v (s.h4.val s.groups.length)), ((1, 5), .v (s.h5.val s.barriers.length)), ((1, 6), .v (s.h6.val s.chans.length)), ((1, 7), .v (s.h7.val s.said.length)), ((1, 8), .v (.int .i64 s.fault))] [own yr 3 cInt 1 (readyM s.pure), fN (stateO s), fO (progO p)],
   fun k => s.status.length - k.1, ⟨0, Nat.zero_le _⟩, ?_, ?_⟩
 · have e0 : (rdyBefore s.pure 0).length = 0 := by rw [rdyBefore]; split <;> rfl
   refine weak_mk [1, 3, 2] ?_ ?_ ?_ ?_ ?_ rfl rfl
   · repeat (first | exact trivial | refine ⟨⟨_, rfl, (by first | exact .of rfl | exact .lit rfl | exact .of (by first | ((first | rfl | simp only [e0]; rfl))) | exact .lit (by first | ((first | rfl | simp only [e0]; rfl)))), (by first | exact trivial | exact Nat.le_of_ble_eq_true rfl | exact small1 rfl)⟩, ?_⟩)
   · exact zw0
   · repeat (first | exact trivial | refine ⟨⟨_, rfl, (by first | exact .of rfl | exact .lit rfl | exact .of (by first | ((first | rfl | simp only [e0]; rfl))) | exact .lit (by first | ((first | rfl | simp only [e0]; rfl)))), (by first | exact trivial | exact Nat.le_of_ble_eq_true rfl | exact small1 rfl)⟩, ?_⟩)
   · exact zw5
   · repeat (first | exact trivial | refine ⟨.inl ⟨_, rfl, (by first | rfl | ((first | rfl | simp only [e0]; rfl)))⟩, ?_⟩ | refine ⟨.inr z128, ?_⟩)
 rintro ⟨k, hk⟩
 simp only
 refine CaseB.mk (fun gk => ?_) (fun gk => ?_)
 · have hlt : k < s.status.length := by have := of_decide_eq_true gk; omega
   have hw := e_succ k _ hlt (by omega)
   refine stop_call _ cl35 rfl rfl rfl rfl ⟨rfl, rfl⟩ (fun A w hW => stepThread_c p s (k : Int) w ⟨hW.get 2 rfl (.O_R fun _ h => h), hW.get 1 rfl (fN_fR _), trivial⟩ hp hs) ?_
   rintro v L ⟨y, b2, rfl, i1, _, _, rfl⟩
   refine CaseB.mk (fun g2 => ?_) (fun g2 => ?_)
   · have hm := (hok k).1 (i1.1 z87)
     obtain ⟨hn, hat⟩ := rdyBefore_at (s := s.pure) hlt hm
     have hy := rdyBefore_yes hm
     refine CaseB.mk (fun g => by have := of_decide_eq_true g; omega) (fun _ => ?_)
     refine stop_idx encInt tabOk rfl rfl rfl rfl rfl ⟨rfl, rfl⟩ z30 (rdyBefore s.pure k).length rfl z38 (fun ad1 => ?_)
     rw [hat]
     refine CaseB.mk (fun g => by simp at g) (fun _ => ?_)
     have hw2 := e_succ (rdyBefore s.pure k).length _ hn (by omega)
     have hl : (rdyBefore s.pure (k + 1)).length = (rdyBefore s.pure k).length + 1 := by rw [hy]; simp
     refine ⟨⟨k + 1, hlt⟩, ?_, by simp only; omega⟩
     simp only [hl]
     refine weak_mk [1, 2, 3] ?_ ?_ ?_ ?_ ?_ rfl rfl
     · repeat (first | exact trivial | refine ⟨⟨_, rfl, (by first | exact .of rfl | exact .lit rfl | exact .of (by first | ((first | exact congrArg (fun z => SV.v (Value.int .i64 z)) hw | exact congrArg (fun z => SV.v (Value.int .i64 z)) hw2))) | exact .lit (by first | ((first | exact congrArg (fun z => SV.v (Value.int .i64 z)) hw | exact congrArg (fun z => SV.v (Value.int .i64 z)) hw2)))), (by first | exact trivial | exact Nat.le_of_ble_eq_true rfl | exact small1 rfl)⟩, ?_⟩)
     · exact zw0
     · repeat (first | exact trivial | refine ⟨⟨_, rfl, (by first | exact .of rfl | exact .lit rfl | exact .of (by first | ((first | exact congrArg (fun z => SV.v (Value.int .i64 z)) hw | exact congrArg (fun z => SV.v (Value.int .i64 z)) hw2))) | exact .lit (by first | ((first | exact congrArg (fun z => SV.v (Value.int .i64 z)) hw | exact congrArg (fun z => SV.v (Value.int .i64 z)) hw2)))), (by first | exact trivial | exact Nat.le_of_ble_eq_true rfl | exact small1 rfl)⟩, ?_⟩)
     · exact zw5
     · repeat (first | exact trivial | refine ⟨.inl ⟨_, rfl, (by first | rfl | ((first | exact congrArg (fun z => SV.v (Value.int .i64 z)) hw | exact congrArg (fun z => SV.v (Value.int .i64 z)) hw2)))⟩, ?_⟩ | refine ⟨.inr z128, ?_⟩)
   · have hm : (k : Int) ∉ readyM s.pure := fun hm => by rw [i1.2 ((hok k).2 hm)] at g2; cases g2
     have hy := rdyBefore_no (s := s.pure) hlt hm
     refine ⟨⟨k + 1, hlt⟩, ?_, by simp only; omega⟩
     simp only [hy]
     exact weak_mk [1, 2, 3] zw1 zw0 zw1 zw5 zw3 rfl rfl
 have hke : s.status.length ≤ k := by have := of_decide_eq_false gk; omega
 have hall := rdyBefore_all s.pure (k := k) hke
 rw [hall]
 refine CaseB.mk (fun _ => ?_) (fun g => by simp at g)
 refine CaseB.mk (fun _ => ?_) (fun gf => ?_)
 · refine retw [] ⟨?_, rfl⟩ trivial rfl trivial (fun _ => rfl)
   first | rfl | simp_all [resV, SV.den]
 · have f0 : ¬ s.pure.fault = 0 := by show ¬ s.fault = 0; simpa using gf
   have e : readyM s.pure = [] := by rw [readyM, if_neg f0]
   refine retw [] ⟨?_, rfl⟩ trivial rfl trivial (fun _ => rfl)
   rw [e]; rfl
end Go.Proofs.YtjkkoonennpceaaGreat
namespace Go.Proofs.YtjkkoonennpceaaGreat
open Go Go.Sx Go.RowKit Go.ChangeShapes Go.WideShapes
theorem ownNone : ownKnob Tryz.prog.godebug = none := by kernel_rfl
theorem laidOut : laidOutB Tryz.prog = true := by kernel_rfl
theorem undB : Tryz.prog.underlying 22 = some (.slice 5) := by kernel_rfl
theorem und8 : Tryz.prog.underlying 5 = some (.int .u8) := by kernel_rfl
theorem undBool : Tryz.prog.underlying 4 = some .bool := by kernel_rfl
set_option maxRecDepth 100000 in
theorem open_bytes {H : Type} {enc : TypeId × Value → H} {W : World} {base : Nat} {v : Value} {d : DataW H} {p : List MemPlace} (hv : Value.okWide Tryz.prog W .any base 22 v)
   (h : DataW.Trod enc Tryz.prog W 0 (fun _ => true) true 22 v d p) : ∃ (i : Sl) (xs : List UInt8), v = i.val xs.length ∧ At W [slo i cByte 1 xs] := by
 obtain ⟨fuel, hf⟩ := h
 obtain ⟨i, xs, h1, h2, h3⟩ := open_sl (el := cByte) encByte Nat.zero_lt_one undB z95 (fun n cs y hy => by
   obtain ⟨k, h1, _, h2⟩ := DataW.trod_int und8 hy
   subst h1
   simp only [Lit.wf, Bool.and_eq_true, decide_eq_true_eq] at h2
   obtain ⟨h2, h3⟩ := h2
   have e1 : IntKind.u8.min = 0 := rfl
   have e2 : IntKind.u8.max = 255 := rfl
   rw [e1] at h2
   rw [e2] at h3
   refine ⟨UInt8.ofNat k.toNat, ?_⟩
   have : (UInt8.ofNat k.toNat).toNat = k.toNat := by rw [UInt8.toNat_ofNat']; omega
   simp only [cByte, this, List.cons.injEq, Value.int.injEq, true_and, and_true]
   omega) hf
 exact ⟨i, xs, val_slice undB hv h1, ⟨h2, h3⟩, trivial⟩
set_option maxRecDepth 100000 in
theorem bytes_lifted {f : FuncId} {fn : Func} {s : ChangeSpec} {conds : List PathCond} (hf : Tryz.checked.prog.funcs[f]? = some fn) (hfn : Tryz.checked.prog.inits.idxOf? f = none) (hpl : fn.params = #[22]) (hres : fn.resultTypes = #[4]) (hvars : s.vars = [])
   (hspec : ∀ (H : Type) (d : DataW H), s.fn H [d] = { results := [.lit (.bool true)], args := [d] })
   (hc : ∀ (i : Sl) (xs : List UInt8) (w : World), At w [slo i cByte 1 xs] → Calls Tryz.prog f #[i.val xs.length] w (Ret w fun v L => v = .bool true ∧ L = []))
   (os : Os) (started : os.Started) (H : Type) (enc : TypeId × Value → H)
   (wit : ∃ (w : World) (tape : Tape) (i : Input), w.os = os ∧ (w.forCall tape i).Shaped Tryz.checked.prog ∧ i.vars = [] ∧ Input.okWide Tryz.checked.prog (w.forCall tape i) .any w.heap.size f i ∧
     s.pre6 enc Tryz.checked.prog fn conds false (w.forCall tape i).memory i.args ∧ ({} : Assume).holds Tryz.checked.prog (lone (Frame.enter Tryz.checked.prog f i.args .normal) [] (w.forCall tape i))) :
   ReturnsInHanded {} Tryz.checked os f .any (s.pre6 enc Tryz.checked.prog fn conds false) (s.post enc Tryz.checked.prog fn false true false false) := by
 refine returnsInHanded_of_change (C := Tryz.checked) ownNone started hfn hf wit ?_
 intro W base args ds gs before hval hW _ _
 have hW' := hW
 obtain ⟨p, q, hA0, hV, _, _, _⟩ := hW
 rw [hpl] at hA0
 have hA : DataW.TrodAll enc Tryz.prog W 0 (fun _ => true) true [22] args.toList ds p := hA0
 obtain ⟨v0, d0, rfl, rfl, h0⟩ := trodAll_one hA
 obtain ⟨i, xs, rfl, hat⟩ := open_bytes (hval 0 22 v0 (by rw [hpl]; rfl) rfl) h0
 refine (hc i xs W hat).mono fun e W' hR => ?_
 obtain ⟨v, L, rfl, he, _, rfl, _⟩ := hR
 rw [hvars] at hV
 obtain ⟨rfl, _⟩ := trodVars_none hV
 exact ⟨_, rfl, law_post (P := Tryz.prog) laidOut (pl := [22]) (by rw [hpl]) z95 hvars hres undBool (hspec H d0) hW' he.below⟩
end Go.Proofs.YtjkkoonennpceaaGreat
