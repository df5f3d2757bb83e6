/- What is proved: plain: names that come once. Conditions: those that each theorem states. -/
import Derived.Test.YtclpkbgjaiacpaaTallyF
import Derived.Lib.RowBridge
namespace Go.Proofs.Ytclpkbgjaiacpaa
open Go.RowKit Go.Sort Go.Proofs.YtclpkbgjaiacpaaW.PrintWords Go.Proofs.YtclpkbgjaiacpaaW.PrintLast Go.Proofs.YtclpkbgjaiacpaaW.PrintMore
set_option linter.unusedVariables false
/-! ### plain: names that come once -/
theorem sortB_le (ns : List ByteArray) : (sortB ns).Pairwise (· ≤ ·) := by
  have tr : ∀ a b c : List UInt8, decide (a ≤ b) = true → decide (b ≤ c) = true → decide (a ≤ c) = true := fun a b c h1 h2 => by simp only [decide_eq_true_eq] at *; exact List.le_trans h1 h2
  have tt : ∀ a b : List UInt8, (decide (a ≤ b) || decide (b ≤ a)) = true := fun a b => by simp only [Bool.or_eq_true, decide_eq_true_eq]; exact List.le_total a b
  exact (List.pairwise_mergeSort tr tt (ns.map blist)).imp (fun h => of_decide_eq_true h)
theorem blist_inj {s t : ByteArray} (h : blist s = blist t) : s = t := Go.WideShapes.bytes_inj h
theorem sortB_perm (ns : List ByteArray) : (sortB ns).Perm (ns.map blist) := List.mergeSort_perm _ _
theorem sortB_nodup {ns : List ByteArray} : (sortB ns).Nodup ↔ ns.Nodup := by
  rw [(sortB_perm ns).nodup_iff]
  constructor
  · intro h
    exact (List.pairwise_map.1 h).imp (fun hne e => hne (by rw [e]))
  · intro h
    exact List.pairwise_map.2 (h.imp (fun hne e => hne (blist_inj e)))
theorem compact_iff (zs : List (List UInt8)) (hs : zs.Pairwise (· ≤ ·)) : (Lib.compact zs).length = zs.length ↔ zs.Nodup := by
  constructor
  · intro h
    unfold Lib.compact Lib.compactUpTo at h
    rw [List.length_map] at h
    have h1 : ∀ j, j < zs.length → Lib.keeps zs.toArray j = true := by
      have h2 := List.length_filter_eq_length_iff.1 (h.trans (List.length_range (n := zs.length)).symm)
      exact fun j hj => h2 j (List.mem_range.2 hj)
    rw [List.Nodup, List.pairwise_iff_getElem]
    intro i j hi hj hij e
    have h3 := h1 j hj
    simp only [Lib.keeps, decide_eq_true_eq] at h3
    rcases h3 with h3 | h3
    · omega
    · apply h3
      have e1 : zs.toArray[j]! = zs[j] := by simp [hj]
      have e2 : zs.toArray[j - 1]! = zs[j - 1] := by rw [List.getElem!_toArray, getElem!_pos _ _ (by omega)]
      rw [e1, e2]
      have l1 : zs[j - 1] ≤ zs[j] := (List.pairwise_iff_getElem.1 hs) (j - 1) j (by omega) hj (by omega)
      have l2 : zs[j] ≤ zs[j - 1] := by
        rw [← e]
        rcases Nat.lt_or_ge i (j - 1) with h | h
        · exact (List.pairwise_iff_getElem.1 hs) i (j - 1) hi (by omega) h
        · have : i = j - 1 := by omega
          subst this
          exact List.le_refl _
      exact List.le_antisymm l2 l1
  · intro h
    rw [Lib.compact_all zs]
    intro j hj
    rcases Nat.eq_zero_or_pos j with h0 | h0
    · subst h0; simp [Lib.keeps]
    · apply Lib.keeps_pos
      have e1 : zs.toArray[j]! = zs[j] := by simp [hj]
      have e2 : zs.toArray[j - 1]! = zs[j - 1] := by rw [List.getElem!_toArray, getElem!_pos _ _ (by omega)]
      rw [e1, e2]
      exact fun e => (List.pairwise_iff_getElem.1 h) (j - 1) j (by omega) hj (by omega) e.symm
theorem compact_nodup (ns : List ByteArray) : (Lib.compact (sortB ns)).length = ns.length ↔ ns.Nodup := by
  rw [← sortB_nodup, ← compact_iff _ (sortB_le ns), sortB_len]
theorem sortN_nodup {ns : List ByteArray} (h : ns.Nodup) : (sortN ns).Nodup := by
  have h1 := sortB_nodup.2 h
  rw [← blist_sortN] at h1
  exact (List.pairwise_map.1 h1).imp (fun hne e => hne (by rw [e]))
theorem sortN_has {ns : List ByteArray} {s : ByteArray} (h : s ∈ ns) : s ∈ sortN ns := by
  have h1 : blist s ∈ sortB ns := (sortB_perm ns).mem_iff.2 (List.mem_map.2 ⟨s, h, rfl⟩)
  rw [← blist_sortN] at h1
  obtain ⟨t, ht, e⟩ := List.mem_map.1 h1
  rw [← blist_inj e]
  exact ht
theorem at_of_mem {ns : List ByteArray} (hn : ns.Nodup) {s : ByteArray} (h : s ∈ ns) : ∃ i, At ns s i := by
  obtain ⟨i, hi, e⟩ := List.getElem_of_mem h
  refine ⟨i, hi, by simp [rdOf, hi, e], fun j hj hne e2 => ?_⟩
  have e3 : ns[j] = ns[i] := by rw [e]; simpa [rdOf, hj] using e2
  rcases Nat.lt_trichotomy i j with h1 | h1 | h1
  · exact (List.pairwise_iff_getElem.1 hn) i j hi hj h1 e3.symm
  · omega
  · exact (List.pairwise_iff_getElem.1 hn) j i hj hi h1 e3
theorem notAt_of {ns : List ByteArray} {s : ByteArray} (h : s ∉ ns) : NotAt ns s := fun i hi e => h (by
  rw [← e]
  simp [rdOf, hi])
end Go.Proofs.Ytclpkbgjaiacpaa
