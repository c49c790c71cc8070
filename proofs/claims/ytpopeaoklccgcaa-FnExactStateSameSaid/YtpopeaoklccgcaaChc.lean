/- The drawer's reader. -/
import Derived.Test.YtpopeaoklccgcaaChb
import Derived.Test.YtpopeaoklccgcaaSxn
namespace Go.Proofs.Ytpopeaoklccgcaa

open Go Go.Sx Go.RowKit

def cByte (x : UInt8) : List Value := [.int .u8 (x.toNat : Int)]

theorem encByte : Enc cByte 1 := ⟨fun _ => rfl, fun _ u hu => by simp [cByte] at hu; subst hu; rfl⟩

/-- The reader's variable. -/
def rdrV (bi : Sl) (bs : List UInt8) (p : Nat) : List Value := [bi.val bs.length, .int .i64 (p : Int)]

theorem wrap_nn {x : Int} (h0 : 0 ≤ x) (h : x < 9223372036854775808) : IntKind.i64.wrap x = x := by
  rw [IntKind.wrap_i64]; omega

theorem xor_nn {x y : Int} (hx0 : 0 ≤ x) (hx : x < 9223372036854775808) (hy0 : 0 ≤ y) (hy : y < 9223372036854775808) :
    ∃ z : Nat, IntKind.i64.wrap ((BitVec.ofInt IntKind.i64.bits x ^^^ BitVec.ofInt IntKind.i64.bits y).toNat : Int) = (z : Int) ∧ z < 9223372036854775808 := by
  have h1 : (BitVec.ofInt IntKind.i64.bits x ^^^ BitVec.ofInt IntKind.i64.bits y).toNat = x.toNat ^^^ y.toNat := by
    rw [BitVec.toNat_xor, BitVec.toNat_ofInt, BitVec.toNat_ofInt]
    have e : ((2 ^ IntKind.i64.bits : Nat) : Int) = 18446744073709551616 := by decide
    rw [e, Int.emod_eq_of_lt hx0 (by omega), Int.emod_eq_of_lt hy0 (by omega)]
  rw [h1]
  have h2 : x.toNat ^^^ y.toNat < 2 ^ 63 := Nat.xor_lt_two_pow (by omega) (by omega)
  have h2' : x.toNat ^^^ y.toNat < 9223372036854775808 := h2
  exact ⟨_, wrap_nn (by omega) (by omega), h2'⟩

theorem sum_wrap {b1 b2 p q X : Nat} (h1 : b1 < 256) (h2 : b2 < 256) (hp : p < 1000000000) (hq : q ≤ p) (hX : X = b1 * 131 + b2 * 1117 + p * 29 + q * 53) :
    IntKind.i64.wrap (IntKind.i64.wrap (IntKind.i64.wrap (IntKind.i64.wrap (IntKind.i64.wrap (b1 : Int) * 131) + IntKind.i64.wrap (IntKind.i64.wrap (b2 : Int) * 1117)) + IntKind.i64.wrap ((p : Int) * 29)) + IntKind.i64.wrap ((q : Int) * 53)) = (X : Int) := by
  have w1 : IntKind.i64.wrap (b1 : Int) = b1 := wrap_nn (by omega) (by omega)
  have w2 : IntKind.i64.wrap (b2 : Int) = b2 := wrap_nn (by omega) (by omega)
  have w3 : IntKind.i64.wrap ((b1 : Int) * 131) = (b1 : Int) * 131 := wrap_nn (by omega) (by omega)
  have w4 : IntKind.i64.wrap ((b2 : Int) * 1117) = (b2 : Int) * 1117 := wrap_nn (by omega) (by omega)
  have w5 : IntKind.i64.wrap ((p : Int) * 29) = (p : Int) * 29 := wrap_nn (by omega) (by omega)
  have w6 : IntKind.i64.wrap ((q : Int) * 53) = (q : Int) * 53 := wrap_nn (by omega) (by omega)
  rw [w1, w2, w3, w4, w5, w6]
  rw [wrap_nn (x := (b1 : Int) * 131 + (b2 : Int) * 1117) (by omega) (by omega), wrap_nn (x := (b1 : Int) * 131 + (b2 : Int) * 1117 + (p : Int) * 29) (by omega) (by omega), wrap_nn (by omega) (by omega)]
  omega

set_option maxRecDepth 100000 in
theorem pick_c (g : Nat) (bi : Sl) (bs : List UInt8) (p : Nat) (n : Int) (w : World) (hg : Blk w g 183 (rdrV bi bs p)) (h : AtP w g [slo bi cByte 1 bs]) (hb : bs.length ≤ 2000) (hp : p < 1000000000) :
    Calls Try.prog 139 #[.pointer (some ⟨g, 0, none⟩), .int .i64 n] w (RetP w g 183 2 fun v cs L => ∃ k : Nat, v = .int .i64 (k : Int) ∧ (1 ≤ n → (k : Int) < n) ∧ (n < 1 → k = 0) ∧ cs = rdrV bi bs (p + 1) ∧ L = []) := by
  have e1 : IntKind.i64.wrap ((p : Int) + 1) = ((p + 1 : Nat) : Int) := by rw [wrap_nn] <;> omega
  have e2 : IntKind.i64.wrap (((p + 1 : Nat) : Int) - 1) = (p : Int) := by rw [wrap_nn] <;> omega
  refine callsP2 Try.func139 rfl tabOk w _ rfl _ rfl _ 183 _ 2 rfl hg _ h ⟨rfl, rfl, trivial⟩ _ (by decide) ?_
  refine CaseB.mk (fun h => ?_) (fun h => ?_)
  · refine retP [] ⟨0, rfl, ?_, fun _ => rfl, ?_, rfl⟩ rfl rfl trivial rfl trivial (fun _ => rfl)
    · intro h1
      simp at h; omega
    · simp only [rdrV, e1]
  · have hn1 : 1 ≤ n := by simp at h; omega
    refine CaseB.mk (fun h => ?_) (fun h => ?_)
    · exact retP [] ⟨0, rfl, fun _ => by omega, fun _ => rfl, by simp only [rdrV, e1], rfl⟩ rfl rfl trivial rfl trivial (fun _ => rfl)
    · have hL : 0 < bs.length := by
        rcases Nat.eq_zero_or_pos bs.length with h0 | h0
        · rw [h0] at h; simp at h
        · exact h0
      have e3 : IntKind.i64.wrap (IntKind.i64.wrap ((p : Int) + 1) - 1) = (p : Int) := by rw [e1, e2]
      refine CaseB.mk (fun h => ?_) (fun h => ?_)
      · rw [e3] at h
        have hlt : p < bs.length := by simpa using h
        have hb8 := bs[p].toNat_lt
        have e4 : IntKind.i64.wrap (bs[p].toNat : Int) = (bs[p].toNat : Int) := by rw [wrap_nn] <;> omega
        have e5 : ((bs[p].toNat % n.toNat : Nat) : Int) = (IntKind.i64.wrap (bs[p].toNat : Int)).tmod n := by
          rw [e4, Int.tmod_eq_emod_of_nonneg (by omega), Int.natCast_emod, Int.toNat_of_nonneg (by omega)]
        refine stop_idx encByte tabOk rfl rfl rfl rfl rfl ⟨rfl, rfl⟩ (by first | exact rdAt 0 rfl | exact rdOwnAt 0 rfl | exact rdAt 1 rfl | exact rdOwnAt 1 rfl | exact rdAt 2 rfl | exact rdOwnAt 2 rfl | exact rdAt 3 rfl | exact rdOwnAt 3 rfl | exact rdAt 4 rfl | exact rdOwnAt 4 rfl | exact rdAt 5 rfl | exact rdOwnAt 5 rfl | exact rdAt 6 rfl | exact rdOwnAt 6 rfl | exact rdAt 7 rfl | exact rdOwnAt 7 rfl | exact rdAt 8 rfl | exact rdOwnAt 8 rfl | exact rdAt 9 rfl | exact rdOwnAt 9 rfl | exact rdAt 10 rfl | exact rdOwnAt 10 rfl | exact rdAt 11 rfl | exact rdOwnAt 11 rfl | exact rdAt 12 rfl | exact rdOwnAt 12 rfl | exact rdAt 13 rfl | exact rdOwnAt 13 rfl | exact rdAt 14 rfl | exact rdOwnAt 14 rfl | exact rdAt 15 rfl | exact rdOwnAt 15 rfl | exact rdAt 16 rfl | exact rdOwnAt 16 rfl | exact rdAt 17 rfl | exact rdOwnAt 17 rfl | exact rdAt 18 rfl | exact rdOwnAt 18 rfl | exact rdAt 19 rfl | exact rdOwnAt 19 rfl | exact rdAt 20 rfl | exact rdOwnAt 20 rfl | exact rdAt 21 rfl | exact rdOwnAt 21 rfl | exact rdAt 22 rfl | exact rdOwnAt 22 rfl | exact rdAt 23 rfl | exact rdOwnAt 23 rfl) p e3 (by first | omega | (simp; done) | (simp; omega) | (unfold maxLen; omega) | (unfold maxLen; simp; done) | (unfold maxLen; simp; omega)) (fun ad => ?_)
        refine stop_bin rfl rfl rfl ⟨rfl, rfl⟩ (.int .i64 ((bs[p].toNat % n.toNat : Nat) : Int)) (fun w => eqGuard_int w) (fun w => rem_run (by omega) e5 w) ?_
        refine retP [] ⟨_, rfl, fun _ => ?_, fun _ => by omega, by simp only [rdrV, e1], rfl⟩ rfl rfl trivial rfl trivial (fun _ => rfl)
        rw [Int.natCast_emod, Int.toNat_of_nonneg (by omega)]
        exact Int.emod_lt_of_pos _ (by omega)
      · refine draw_start tabOk (by kernel_rfl) (by kernel_rfl) (by kernel_rfl) 200 [((0, 0), .v (bi.val bs.length)), ((0, 1), .v (.int .i64 (IntKind.i64.wrap ((p : Int) + 1))))] [0] [_] ⟨⟨_, rfl, rfl, (by first | exact trivial | exact Nat.le_of_ble_eq_true rfl)⟩, ⟨_, rfl, rfl, (by first | exact trivial | exact Nat.le_of_ble_eq_true rfl)⟩, trivial⟩ ⟨⟨_, rfl⟩, ⟨_, rfl⟩, trivial⟩ ⟨rfl, trivial⟩ rfl ?_
        have r1 : ((p % bs.length : Nat) : Int) = (IntKind.i64.wrap (IntKind.i64.wrap ((p : Int) + 1) - 1)).tmod (bs.length : Int) := by
          rw [e3, Int.tmod_eq_emod_of_nonneg (by omega), Int.natCast_emod]
        have hm := Nat.mod_lt p hL
        refine d_bin rfl rfl rfl ⟨rfl, rfl⟩ (.int .i64 ((p % bs.length : Nat) : Int)) (fun w => eqGuard_int w) (fun w => rem_run (by omega) r1 w) ?_
        refine d_idx (ti := tiOf tab) encByte tabOk rfl rfl rfl rfl rfl ⟨rfl, rfl⟩ (by first | exact rdAt 0 rfl | exact rdOwnAt 0 rfl | exact rdAt 1 rfl | exact rdOwnAt 1 rfl | exact rdAt 2 rfl | exact rdOwnAt 2 rfl | exact rdAt 3 rfl | exact rdOwnAt 3 rfl | exact rdAt 4 rfl | exact rdOwnAt 4 rfl | exact rdAt 5 rfl | exact rdOwnAt 5 rfl | exact rdAt 6 rfl | exact rdOwnAt 6 rfl | exact rdAt 7 rfl | exact rdOwnAt 7 rfl | exact rdAt 8 rfl | exact rdOwnAt 8 rfl | exact rdAt 9 rfl | exact rdOwnAt 9 rfl | exact rdAt 10 rfl | exact rdOwnAt 10 rfl | exact rdAt 11 rfl | exact rdOwnAt 11 rfl | exact rdAt 12 rfl | exact rdOwnAt 12 rfl | exact rdAt 13 rfl | exact rdOwnAt 13 rfl | exact rdAt 14 rfl | exact rdOwnAt 14 rfl | exact rdAt 15 rfl | exact rdOwnAt 15 rfl | exact rdAt 16 rfl | exact rdOwnAt 16 rfl | exact rdAt 17 rfl | exact rdOwnAt 17 rfl | exact rdAt 18 rfl | exact rdOwnAt 18 rfl | exact rdAt 19 rfl | exact rdOwnAt 19 rfl | exact rdAt 20 rfl | exact rdOwnAt 20 rfl | exact rdAt 21 rfl | exact rdOwnAt 21 rfl | exact rdAt 22 rfl | exact rdOwnAt 22 rfl | exact rdAt 23 rfl | exact rdOwnAt 23 rfl) (p % bs.length) rfl (by first | omega | (simp; done) | (simp; omega) | (unfold maxLen; omega) | (unfold maxLen; simp; done) | (unfold maxLen; simp; omega)) (fun ad => ?_)
        have r2 : (((p * 7 + 3) % bs.length : Nat) : Int) = (IntKind.i64.wrap (IntKind.i64.wrap (IntKind.i64.wrap (IntKind.i64.wrap ((p : Int) + 1) - 1) * 7) + 3)).tmod (bs.length : Int) := by
          rw [e3, show IntKind.i64.wrap ((p : Int) * 7) = ((p * 7 : Nat) : Int) by rw [wrap_nn] <;> omega, show IntKind.i64.wrap (((p * 7 : Nat) : Int) + 3) = ((p * 7 + 3 : Nat) : Int) by rw [wrap_nn] <;> omega, Int.tmod_eq_emod_of_nonneg (by omega), Int.natCast_emod]
        have hm2 := Nat.mod_lt (p * 7 + 3) hL
        refine d_bin rfl rfl rfl ⟨rfl, rfl⟩ (.int .i64 (((p * 7 + 3) % bs.length : Nat) : Int)) (fun w => eqGuard_int w) (fun w => rem_run (by omega) r2 w) ?_
        refine d_idx (ti := tiOf tab) encByte tabOk rfl rfl rfl rfl rfl ⟨rfl, rfl⟩ (by first | exact rdAt 0 rfl | exact rdOwnAt 0 rfl | exact rdAt 1 rfl | exact rdOwnAt 1 rfl | exact rdAt 2 rfl | exact rdOwnAt 2 rfl | exact rdAt 3 rfl | exact rdOwnAt 3 rfl | exact rdAt 4 rfl | exact rdOwnAt 4 rfl | exact rdAt 5 rfl | exact rdOwnAt 5 rfl | exact rdAt 6 rfl | exact rdOwnAt 6 rfl | exact rdAt 7 rfl | exact rdOwnAt 7 rfl | exact rdAt 8 rfl | exact rdOwnAt 8 rfl | exact rdAt 9 rfl | exact rdOwnAt 9 rfl | exact rdAt 10 rfl | exact rdOwnAt 10 rfl | exact rdAt 11 rfl | exact rdOwnAt 11 rfl | exact rdAt 12 rfl | exact rdOwnAt 12 rfl | exact rdAt 13 rfl | exact rdOwnAt 13 rfl | exact rdAt 14 rfl | exact rdOwnAt 14 rfl | exact rdAt 15 rfl | exact rdOwnAt 15 rfl | exact rdAt 16 rfl | exact rdOwnAt 16 rfl | exact rdAt 17 rfl | exact rdOwnAt 17 rfl | exact rdAt 18 rfl | exact rdOwnAt 18 rfl | exact rdAt 19 rfl | exact rdOwnAt 19 rfl | exact rdAt 20 rfl | exact rdOwnAt 20 rfl | exact rdAt 21 rfl | exact rdOwnAt 21 rfl | exact rdAt 22 rfl | exact rdOwnAt 22 rfl | exact rdAt 23 rfl | exact rdOwnAt 23 rfl) ((p * 7 + 3) % bs.length) rfl (by first | omega | (simp; done) | (simp; omega) | (unfold maxLen; omega) | (unfold maxLen; simp; done) | (unfold maxLen; simp; omega)) (fun ad2 => ?_)
        have r3 : ((p / bs.length : Nat) : Int) = IntKind.i64.wrap ((IntKind.i64.wrap (IntKind.i64.wrap ((p : Int) + 1) - 1)).tdiv (bs.length : Int)) := by
          have := Nat.div_le_self p bs.length
          have h0 : 0 ≤ ((p / bs.length : Nat) : Int) := Int.natCast_nonneg _
          rw [e3, Int.tdiv_eq_ediv_of_nonneg (by omega), ← Int.natCast_ediv, wrap_nn] <;> omega
        refine d_bin rfl rfl rfl ⟨rfl, rfl⟩ (.int .i64 ((p / bs.length : Nat) : Int)) (fun w => eqGuard_int w) (fun w => quo_run (by omega) r3 w) ?_
        have hb1 := bs[p % bs.length].toNat_lt
        have hb2 := bs[(p * 7 + 3) % bs.length].toNat_lt
        have hdl := Nat.div_le_self p bs.length
        obtain ⟨X, hX⟩ : ∃ X : Nat, X = bs[p % bs.length].toNat * 131 + bs[(p * 7 + 3) % bs.length].toNat * 1117 + p * 29 + p / bs.length * 53 := ⟨_, rfl⟩
        have r4 : IntKind.i64.wrap (IntKind.i64.wrap (IntKind.i64.wrap (IntKind.i64.wrap (IntKind.i64.wrap (bs[p % bs.length].toNat : Int) * 131) + IntKind.i64.wrap (IntKind.i64.wrap (bs[(p * 7 + 3) % bs.length].toNat : Int) * 1117)) + IntKind.i64.wrap (IntKind.i64.wrap (IntKind.i64.wrap ((p : Int) + 1) - 1) * 29)) + IntKind.i64.wrap (((p / bs.length : Nat) : Int) * 53)) = (X : Int) := by
          rw [e3]
          exact sum_wrap hb1 hb2 hp hdl hX
        have hXlt : X < 100000000000 := by
          generalize p / bs.length = q at *
          omega
        have r5 : ((X / 64 : Nat) : Int) = IntKind.i64.wrap ((IntKind.i64.wrap (IntKind.i64.wrap (IntKind.i64.wrap (IntKind.i64.wrap (IntKind.i64.wrap (bs[p % bs.length].toNat : Int) * 131) + IntKind.i64.wrap (IntKind.i64.wrap (bs[(p * 7 + 3) % bs.length].toNat : Int) * 1117)) + IntKind.i64.wrap (IntKind.i64.wrap (IntKind.i64.wrap ((p : Int) + 1) - 1) * 29)) + IntKind.i64.wrap (((p / bs.length : Nat) : Int) * 53))).tdiv 64) := by
          rw [r4, Int.tdiv_eq_ediv_of_nonneg (by omega), wrap_nn] <;> omega
        refine stop_bin rfl rfl rfl ⟨rfl, rfl⟩ (.int .i64 ((X / 64 : Nat) : Int)) (fun w => eqGuard_int w) (fun w => quo_run (by omega) r5 w) ?_
        obtain ⟨z, hz, hz2⟩ := xor_nn (x := (X : Int)) (y := ((X / 64 : Nat) : Int)) (by omega) (by omega) (by omega) (by omega)
        refine stop_bin rfl rfl rfl ⟨rfl, rfl⟩ (.int .i64 (z : Int)) (fun w => eqGuard_int w) (fun w => xor_run (by rw [r4]; exact hz.symm) w) ?_
        have r6 : ((z % n.toNat : Nat) : Int) = (z : Int).tmod n := by
          rw [Int.tmod_eq_emod_of_nonneg (by omega), Int.natCast_emod, Int.toNat_of_nonneg (by omega)]
        refine stop_bin rfl rfl rfl ⟨rfl, rfl⟩ (.int .i64 ((z % n.toNat : Nat) : Int)) (fun w => eqGuard_int w) (fun w => rem_run (by omega) r6 w) ?_
        refine retP [] ⟨_, rfl, fun _ => ?_, fun _ => by omega, by simp only [rdrV, e1], rfl⟩ rfl rfl trivial rfl trivial (fun _ => rfl)
        rw [Int.natCast_emod, Int.toNat_of_nonneg (by omega)]
        exact Int.emod_lt_of_pos _ (by omega)

end Go.Proofs.Ytpopeaoklccgcaa
