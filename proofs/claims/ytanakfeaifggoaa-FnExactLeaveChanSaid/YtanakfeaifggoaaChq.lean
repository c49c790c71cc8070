/- Channels: the plain laws. -/
import Derived.Test.YtanakfeaifggoaaChp
namespace Go.Proofs.Ytanakfeaifggoaa
open Go Go.Sx Go.RowKit

theorem distinct_sub {xs ys : List Int} (h : ys.Sublist xs) (hd : distinct xs = true) : distinct ys = true := by
  simp only [distinct, decide_eq_true_eq] at hd ⊢
  exact ⟨hd.1.sublist h, fun x hx => hd.2 x (h.subset hx)⟩
theorem distinct_snoc {xs : List Int} {t : Int} (hd : distinct xs = true) (h1 : isThread t = true) (h2 : ¬ t ∈ xs) : distinct (xs ++ [t]) = true := by
  simp only [distinct, decide_eq_true_eq] at hd ⊢
  refine ⟨?_, fun x hx => ?_⟩
  · rw [List.nodup_append]
    refine ⟨hd.1, by simp, fun a ha b hb => ?_⟩
    simp at hb; subst hb
    rintro rfl; exact h2 ha
  · rcases List.mem_append.1 hx with hx | hx
    · exact hd.2 x hx
    · simp at hx; subst hx; exact h1
theorem zero_small : Chan.zero.small := by simp [Chan.small, Chan.zero]
theorem send_small (m : Chan) (t u : Int) : (m.send t u).1.small ∧ (m.send t u).2.1.length ≤ 1 := by
  cases h : (m.send t u).2.2.2 with
  | true =>
    refine ⟨(send_small8 h).small, ?_⟩
    rw [Chan.send] at h ⊢
    split at h
    · rename_i hc
      rw [if_pos hc]
      split
      · simp
      · split <;> simp
    · cases h
  | false =>
    rw [Chan.send] at h ⊢
    split at h
    · split at h
      · cases h
      · split at h <;> cases h
    · rename_i hc
      rw [if_neg hc]
      exact ⟨zero_small, by simp⟩
theorem get_small (m : Chan) (t : Int) : (m.get t).1.small ∧ (m.get t).2.2.2.1.length ≤ 1 := by
  cases h : (m.get t).2.2.2.2 with
  | true =>
    refine ⟨(get_small8 h).small, ?_⟩
    rw [Chan.get] at h ⊢
    split at h
    · rename_i hc
      rw [if_pos hc]
      have : m.gWho.length ≤ 1 := by simp [Chan.gWho]; omega
      split
      · exact this
      · split <;> simp
    · cases h
  | false =>
    rw [Chan.get] at h ⊢
    split at h
    · split at h
      · cases h
      · split at h <;> cases h
    · rename_i hc
      rw [if_neg hc]
      exact ⟨zero_small, by simp⟩
theorem close_small (m : Chan) (hm : m.small) : m.close.1.small ∧ m.close.2.1.length ≤ 4294967296 := by
  rw [Chan.close]
  split
  · exact ⟨⟨hm.1, by simp, by simp⟩, hm.2.2⟩
  · exact ⟨zero_small, by simp⟩
theorem send_ok {m : Chan} {t u : Int} (h : (m.send t u).2.2.2 = true) : m.Valid ∧ m.closed = false ∧ isThread t = true ∧ isValue u = true ∧ ¬ t ∈ m.threads := by
  rw [Chan.send] at h
  split at h
  · assumption
  · cases h
theorem get_ok {m : Chan} {t : Int} (h : (m.get t).2.2.2.2 = true) : m.Valid ∧ isThread t = true ∧ ¬ t ∈ m.threads := by
  rw [Chan.get] at h
  split at h
  · assumption
  · cases h
theorem close_ok {m : Chan} (h : m.close.2.2 = true) : m.Valid ∧ m.closed = false ∧ m.senders = [] := by
  rw [Chan.close] at h
  split at h
  · assumption
  · cases h
theorem send_valid {m : Chan} {t u : Int} (h : (m.send t u).2.2.2 = true) : (m.send t u).1.Valid := by
  have hc := send_ok h
  obtain ⟨hv, h2, h3, h4, h5⟩ := hc
  rw [Chan.send, if_pos ⟨hv, h2, h3, h4, h5⟩]
  split
  · rename_i hg
    have hg' : m.getters ≠ [] := fun e => by rw [e] at hg; simp at hg
    have hs : m.senders = [] := Classical.byContradiction fun hn => hg' (hv.se hn).2.1
    refine ⟨hv.r0, hv.r1, hv.it, hv.iv, hv.sv, distinct_sub ?_ hv.di, fun hn => absurd hs hn, fun _ => hv.ge hg'⟩
    exact List.Sublist.append (List.Sublist.refl _) (List.drop_sublist _ _)
  · rename_i hg
    have hg' : m.getters = [] := by simpa using hg
    split
    · rename_i hi
      have hs : m.senders = [] := Classical.byContradiction fun hn => by have := (hv.se hn).1; omega
      refine ⟨hv.r0, hv.r1, by simp; omega, fun x hx => ?_, hv.sv, hv.di, fun hn => absurd hs hn, fun hn => absurd hg' hn⟩
      rcases List.mem_append.1 hx with hx | hx
      · exact hv.iv x hx
      · simp at hx; subst hx; exact h4
    · rename_i hi
      have := hv.it
      refine ⟨hv.r0, hv.r1, hv.it, hv.iv, fun x hx => ?_, ?_, fun _ => ⟨by simp; omega, hg', h2⟩, fun hn => absurd hg' hn⟩
      · rcases List.mem_append.1 hx with hx | hx
        · exact hv.sv x hx
        · simp at hx; subst hx; exact h4
      · have e : (Chan.threads { m with senders := m.senders ++ [⟨t, u⟩] }) = m.threads ++ [t] := by simp [Chan.threads, hg']
        rw [e]
        exact distinct_snoc hv.di h3 h5
theorem get_valid {m : Chan} {t : Int} (h : (m.get t).2.2.2.2 = true) : (m.get t).1.Valid := by
  obtain ⟨hv, h3, h5⟩ := get_ok h
  rw [Chan.get, if_pos ⟨hv, h3, h5⟩]
  split
  · rename_i hI
    have hg : m.getters = [] := Classical.byContradiction fun hn => by
      have h1 := (hv.ge hn).1
      have hs : m.senders = [] := Classical.byContradiction fun hs => hn (hv.se hs).2.1
      rw [Chan.gItems, h1, hs] at hI
      simp at hI
    have hall : ∀ x ∈ m.gItems, isValue x = true := fun x hx => by
      rcases List.mem_append.1 hx with hx | hx
      · exact hv.iv x hx
      · obtain ⟨l, hl, rfl⟩ := List.mem_map.1 hx
        exact hv.sv l (List.mem_of_mem_take hl)
    have hlen : ((m.gItems.drop 1).length : Int) ≤ m.room ∧ (m.senders ≠ [] → ((m.gItems.drop 1).length : Int) = m.room) := by
      have := hv.it
      cases hs : m.senders with
      | nil => simp [Chan.gItems, hs]; omega
      | cons a r => have := (hv.se (by simp [hs])).1; simp [Chan.gItems, hs]; omega
    refine ⟨hv.r0, hv.r1, hlen.1, fun x hx => hall x (List.mem_of_mem_drop hx), fun l hl => hv.sv l (List.mem_of_mem_drop hl), distinct_sub ?_ hv.di, fun hn => ?_, fun hn => absurd hg hn⟩
    · exact List.Sublist.append (List.Sublist.map _ (List.drop_sublist _ _)) (List.Sublist.refl _)
    · have hs : m.senders ≠ [] := fun e => by rw [e] at hn; simp at hn
      exact ⟨hlen.2 hs, hg, (hv.se hs).2.2⟩
  · rename_i hI
    have hI2 : m.items = [] ∧ m.senders = [] := by
      simp [Chan.gItems] at hI
      refine ⟨hI.1, ?_⟩
      cases hs : m.senders with
      | nil => rfl
      | cons a r => simp [hs] at hI
    have e : ({ m with items := [], senders := [] } : Chan) = m := by rw [← hI2.1]; cases m; simp at hI2; simp [hI2]
    split
    · rw [e]; exact hv
    · rename_i hcl
      have hcl' : m.closed = false := by simpa using hcl
      refine ⟨hv.r0, hv.r1, by have := hv.r0; simpa using this, by simp, by simp, ?_, fun hn => absurd rfl hn, fun _ => ⟨rfl, hcl'⟩⟩
      have e2 : (Chan.threads { m with items := [], senders := [], getters := m.getters ++ [t] }) = m.threads ++ [t] := by simp [Chan.threads, hI2.2]
      rw [e2]
      exact distinct_snoc hv.di h3 h5
theorem close_valid {m : Chan} (h : m.close.2.2 = true) : m.close.1.Valid := by
  obtain ⟨hv, h1, h2⟩ := close_ok h
  rw [Chan.close, if_pos ⟨hv, h1, h2⟩]
  refine ⟨hv.r0, hv.r1, hv.it, hv.iv, by simp, ?_, fun hn => absurd rfl hn, fun hn => absurd rfl hn⟩
  simp [Chan.threads, distinct]
/-- What is sent comes last. -/
theorem send_pending {m : Chan} {t u : Int} (h : (m.send t u).2.2.2 = true) (hw : (m.send t u).2.1 = []) : (m.send t u).1.getters = [] ∧ (m.send t u).1.pending = (m.pending.1 ++ [u], true) := by
  have hv' := send_valid h
  obtain ⟨hv, h2, h3, h4, h5⟩ := send_ok h
  have hp : m.pending = (m.items ++ m.senders.map Letter.v, true) := by rw [Chan.pending, if_pos hv]
  rw [Chan.pending, if_pos hv', hp]
  rw [Chan.send, if_pos ⟨hv, h2, h3, h4, h5⟩] at hw ⊢
  split at hw
  · cases hw
  · rename_i hg
    have hg' : m.getters = [] := by simpa using hg
    rw [dif_neg hg]
    split
    · rename_i hi
      have hs : m.senders = [] := Classical.byContradiction fun hn => by have := (hv.se hn).1; omega
      simp [hs, hg']
    · simp [hg']
theorem pending_len (m : Chan) (hm : m.small) : m.pending.1.length ≤ 8589934592 := by
  rw [Chan.pending]
  split
  · simp; have := hm.1; have := hm.2.1; omega
  · simp
theorem pending_ok_len {m : Chan} {a : List Int} (h : m.pending = (a, true)) : a.length ≤ 10 := by
  rw [Chan.pending] at h
  split at h
  · rename_i hv
    have := hv.len
    have e : m.items ++ m.senders.map Letter.v = a := by cases h; rfl
    rw [← e]; simp; omega
  · cases h
end Go.Proofs.Ytanakfeaifggoaa

