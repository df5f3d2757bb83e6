/- What is proved: plain laws of what both have; what Hear does where they agree. Conditions: those that each theorem states. -/
import Derived.Test.YtclpkbgjaiacpaaNegoE
import Derived.WalkSpells
import Derived.Deep.DeepMust
import Derived.Deep.RegionHeld3
import Derived.StillTactics
namespace Go.Proofs.Ytclpkbgjaiacpaa
open Go.RowKit Go.Proofs.YtclpkbgjaiacpaaW.PrintWords Go.Proofs.YtclpkbgjaiacpaaW.PrintLast Go.Proofs.YtclpkbgjaiacpaaW.PrintMore
open Go.Proofs.Ytclpkbgjaiacpaa.PNegoAgrees Go.Proofs.Ytclpkbgjaiacpaa.PSrt
set_option linter.unusedVariables false
set_option linter.unusedSimpArgs false
/-! ### plain: the functions of the law -/
/-- It comes to r from some fuel on. -/
def Ev {α : Type} (F : Nat → Option α) (r : α) : Prop := ∃ k0, ∀ k, k0 ≤ k → F k = some r
theorem Ev.step {α : Type} {F G : Nat → Option α} {r : α} (h : ∀ k, F (k + 1) = G k) (hg : Ev G r) : Ev F r := by
  obtain ⟨k0, hk⟩ := hg
  exact ⟨k0 + 1, fun k hle => by
    obtain ⟨k, rfl⟩ : ∃ m, k = m + 1 := ⟨k - 1, by omega⟩
    rw [h]; exact hk k (by omega)⟩
theorem Ev.of {α : Type} {F : Nat → Option α} {r : α} (h : ∀ k, F (k + 1) = some r) : Ev F r := ⟨1, fun k hle => by
    obtain ⟨k, rfl⟩ : ∃ m, k = m + 1 := ⟨k - 1, by omega⟩
    exact h k⟩
theorem Ev.some {α : Type} {F : Nat → Option α} {r : α} (h : Ev F r) : ∃ k, F k = Option.some r := let ⟨k, hk⟩ := h; ⟨k, hk k (Nat.le_refl _)⟩
theorem refName_l0 (s : ByteArray) (hs : s.size ≤ 4611686018427387904) (d : Nat) : ∀ (k i : Nat), i + d = s.size → d < k →
    vitrineref10_Name.l0 k s (i : Int) = some (((List.range' i d).all fun j => decide (33 ≤ bt s j) && decide (bt s j ≤ 126)) && (!s.toList.isEmpty && decide ((s.size : Int) ≤ 40))) := by
  induction d with
  | zero =>
    intro k i hi hk
    obtain ⟨k, rfl⟩ : ∃ m, k = m + 1 := ⟨k - 1, by omega⟩
    simp only [vitrineref10_Name.l0]
    rw [if_neg (by omega)]
    have hl : s.toList.isEmpty = decide (s.size = 0) := by
      have h2 : s.toList.length = s.size := by rw [ByteArray.toList_eq, Array.length_toList]; rfl
      cases h : s.toList with
      | nil => rw [h] at h2; simp at h2; simp [← h2]
      | cons x xs => rw [h, List.length_cons] at h2; exact (decide_eq_false (by omega)).symm
    rw [hl]
    by_cases h0 : (s.size : Int) ≥ 1
    · rw [if_pos h0]
      have : ¬ s.size = 0 := by omega
      simp [this]
    · rw [if_neg h0]
      have : s.size = 0 := by omega
      simp [this]
  | succ d ih =>
    intro k i hi hk
    obtain ⟨k, rfl⟩ : ∃ m, k = m + 1 := ⟨k - 1, by omega⟩
    simp only [vitrineref10_Name.l0]
    rw [if_pos (by omega), if_pos (by omega), List.range'_succ, List.all_cons]
    by_cases h1 : bt s i < 33
    · rw [if_pos h1, decide_eq_false (by omega)]; simp
    · rw [if_neg h1]
      by_cases h2 : bt s i > 126
      · rw [if_pos h2, decide_eq_true (by omega), decide_eq_false (by omega)]; simp
      · rw [if_neg h2, w64 (by omega) (by omega), decide_eq_true (by omega), decide_eq_true (by omega)]
        have := ih k (i + 1) (by omega) (by omega)
        rw [show ((i + 1 : Nat) : Int) = (i : Int) + 1 from by omega] at this
        rw [this]; simp
theorem refName_f (s : ByteArray) (hs : s.size ≤ 4611686018427387904) : vitrineref10_Name.f (s.size + 1) s = some (nameB s) := refName_l0 s hs s.size (s.size + 1) 0 (by omega) (by omega)
def hostHas (host : List Int) (f : Int) : Bool := host.any fun x => decide (Int.tmod x 5 = f)
theorem once_l1 (host out : List Int) (f : Int) (ho : out.length < 100) (hn : host.length ≤ 4611686018427387904) (r : List Int)
    (hnx : Ev (fun k => vitrinelaw10_once.l0 k host (if hostHas host f then out ++ [f] else out) ((f + 1) % 256)) r) :
    Ev (fun k => vitrinelaw10_once.l1 k host out f host (host.length : Int) 0) r := by
  have key : ∀ (d i : Nat), i + d = host.length → (hostHas host f = (host.drop i).any fun x => decide (Int.tmod x 5 = f)) → Ev (fun k => vitrinelaw10_once.l1 k host out f host (host.length : Int) (i : Int)) r := by
    intro d
    induction d with
    | zero =>
      intro i hi hh
      refine Ev.step (fun k => ?_) hnx
      rw [hh, List.drop_of_length_le (by omega)]
      simp only [vitrinelaw10_once.l1, List.any_nil]
      rw [if_neg (by omega)]
      simp
    | succ d ih =>
      intro i hi hh
      have hd : host.drop i = rd host i :: host.drop (i + 1) := by
        rw [List.drop_eq_getElem_cons (by omega), rd_get host i (by omega)]
      rw [hd, List.any_cons] at hh
      by_cases hf : Int.tmod (rd host i) 5 = f
      · refine Ev.step (fun k => ?_) hnx
        rw [hh, decide_eq_true hf]
        simp only [vitrinelaw10_once.l1]
        rw [if_pos (by omega), if_pos (by omega), if_pos (by omega), if_pos hf, if_pos (by omega)]
        simp
      · rw [decide_eq_false hf, Bool.false_or] at hh
        refine Ev.step (fun k => ?_) (ih (i + 1) (by omega) hh)
        simp only [vitrinelaw10_once.l1]
        rw [if_pos (by omega), if_pos (by omega), if_pos (by omega), if_neg hf, w64 (by omega) (by omega)]
        rfl
  exact key host.length 0 (by omega) (by rw [List.drop_zero]; rfl)
def onceL (host : List Int) : List Int := ([0, 1, 2, 3, 4] : List Int).filter (hostHas host)
theorem once_f (host : List Int) (hn : host.length ≤ 4611686018427387904) : Ev (fun k => vitrinelaw10_once.f k host) (onceL host) := by
  have st : ∀ (f : Int) (out r : List Int), f ≤ 4 → out.length < 100 → Ev (fun k => vitrinelaw10_once.l0 k host (if hostHas host f then out ++ [f] else out) ((f + 1) % 256)) r → Ev (fun k => vitrinelaw10_once.l0 k host out f) r := by
    intro f out r hf ho h
    refine Ev.step (fun k => ?_) (once_l1 host out f ho hn r h)
    simp only [vitrinelaw10_once.l0]
    rw [if_pos hf]
  unfold vitrinelaw10_once.f
  refine st 0 _ _ (by omega) (by simp) ?_
  refine st 1 _ _ (by omega) (by split <;> simp) ?_
  refine st 2 _ _ (by omega) (by split <;> split <;> simp) ?_
  refine st 3 _ _ (by omega) (by split <;> split <;> split <;> simp) ?_
  refine st 4 _ _ (by omega) (by split <;> split <;> split <;> split <;> simp) ?_
  refine Ev.of fun k => ?_
  simp only [vitrinelaw10_once.l0]
  rw [if_neg (by decide)]
  unfold onceL
  simp only [List.filter_cons, List.filter_nil]
  split <;> split <;> split <;> split <;> split <;> simp
def bothL (fl l : List Int) : List Int := l.flatMap fun f => fl.filter fun x => decide (x = f)
theorem both_l1 (fl l out : List Int) (f : Int) (i : Int) (hn : fl.length ≤ 4611686018427387904) (ho : out.length + fl.length < 140737488355328) (r : List Int)
    (hnx : Ev (fun k => vitrinelaw10_both.l0 k fl (out ++ fl.filter fun x => decide (x = f)) l (l.length : Int) (wrap64 (i + 1))) r) :
    Ev (fun k => vitrinelaw10_both.l1 k fl out f l (l.length : Int) i fl (fl.length : Int) 0) r := by
  have key : ∀ (d j : Nat) (o : List Int), j + d = fl.length → o.length ≤ out.length + j → (out ++ fl.filter fun x => decide (x = f)) = (o ++ (fl.drop j).filter fun x => decide (x = f)) → Ev (fun k => vitrinelaw10_both.l1 k fl o f l (l.length : Int) i fl (fl.length : Int) (j : Int)) r := by
    intro d
    induction d with
    | zero =>
      intro j o hj hol hh
      rw [hh, List.drop_of_length_le (by omega), List.filter_nil, List.append_nil] at hnx
      refine Ev.step (fun k => ?_) hnx
      simp only [vitrinelaw10_both.l1]
      rw [if_neg (by omega)]
    | succ d ih =>
      intro j o hj hol hh
      have hd : fl.drop j = rd fl j :: fl.drop (j + 1) := by
        rw [List.drop_eq_getElem_cons (by omega), rd_get fl j (by omega)]
      rw [hd, List.filter_cons] at hh
      by_cases hf : rd fl j = f
      · rw [decide_eq_true hf, if_pos rfl, hf] at hh
        refine Ev.step (fun k => ?_) (ih (j + 1) (o ++ [f]) (by omega) (by simp; omega) (by rw [hh]; simp))
        simp only [vitrinelaw10_both.l1]
        rw [if_pos (by omega), if_pos (by omega), if_pos (by omega), if_pos hf, if_pos (by omega), w64 (by omega) (by omega)]
        rfl
      · rw [decide_eq_false hf, if_neg (by simp)] at hh
        refine Ev.step (fun k => ?_) (ih (j + 1) o (by omega) (by omega) hh)
        simp only [vitrinelaw10_both.l1]
        rw [if_pos (by omega), if_pos (by omega), if_pos (by omega), if_neg hf, w64 (by omega) (by omega)]
        rfl
  exact key fl.length 0 out (by omega) (by omega) (by rw [List.drop_zero])
theorem both_l0 (fl l : List Int) (hl : l.length ≤ 1000) (hfl : fl.length ≤ 1000) : ∀ (d i : Nat) (out : List Int), i + d = l.length → out.length ≤ i * 1000 → Ev (fun k => vitrinelaw10_both.l0 k fl out l (l.length : Int) (i : Int)) (out ++ bothL fl (l.drop i)) := by
  intro d
  induction d with
  | zero =>
    intro i out hi ho
    refine Ev.of fun k => ?_
    simp only [vitrinelaw10_both.l0]
    rw [if_neg (by omega), List.drop_of_length_le (by omega)]
    simp [bothL]
  | succ d ih =>
    intro i out hi ho
    have hd : l.drop i = rd l i :: l.drop (i + 1) := by
      rw [List.drop_eq_getElem_cons (by omega), rd_get l i (by omega)]
    have hfl2 : (fl.filter fun x => decide (x = rd l i)).length ≤ fl.length := List.length_filter_le _ _
    have h1 := ih (i + 1) (out ++ fl.filter fun x => decide (x = rd l i)) (by omega) (by rw [List.length_append]; omega)
    have h2 : out ++ bothL fl (l.drop i) = out ++ (fl.filter fun x => decide (x = rd l i)) ++ bothL fl (l.drop (i + 1)) := by
      rw [hd]; simp [bothL]
    rw [h2]
    refine Ev.step (fun k => ?_) (both_l1 fl l out (rd l i) i (by omega) (by omega) _ (by rw [w64 (by omega) (by omega)]; exact h1))
    simp only [vitrinelaw10_both.l0]
    rw [if_pos (by omega), if_pos (by omega), if_pos (by omega)]
theorem once_len (host : List Int) : (onceL host).length ≤ 5 := List.length_filter_le _ [0, 1, 2, 3, 4]
theorem both_f (fl host : List Int) (hn : host.length ≤ 4611686018427387904) (hfl : fl.length ≤ 1000) : Ev (fun k => vitrinelaw10_both.f k fl host) (bothL fl (onceL host)) := by
  obtain ⟨k0, h0⟩ := once_f host hn
  obtain ⟨k1, h1⟩ := both_l0 fl (onceL host) (by have := once_len host; omega) hfl _ 0 [] (Nat.zero_add _) (by simp)
  refine ⟨max k0 k1, fun k hk => ?_⟩
  unfold vitrinelaw10_both.f
  have e0 := h0 k (by omega)
  have e1 := h1 k (by omega)
  simp only at e0 e1 ⊢
  rw [e0, Option.bind_some]
  simpa using e1
/-! ### plain: what both have -/
theorem u8_inj {x y : Int} (hx0 : 0 ≤ x) (hx1 : x < 256) (hy0 : 0 ≤ y) (hy1 : y < 256) (h : UInt8.ofNat x.toNat = UInt8.ofNat y.toNat) : x = y := by
  have := congrArg UInt8.toNat h
  rw [UInt8.toNat_ofNat', UInt8.toNat_ofNat'] at this
  omega
theorem at1_mem (fl : List Int) (f : Int) (hf0 : 0 ≤ f) (hf1 : f < 256) (hr : ∀ x ∈ fl, 0 ≤ x ∧ x < 256) : 0 ≤ at1 fl f ↔ f ∈ fl := by
  constructor
  · intro h
    obtain ⟨o, ho⟩ := Int.eq_ofNat_of_zero_le h
    have hs := (Lib.indexByte_some (l := Lib.bytesOf fl) (c := f.toNat.toUInt8) (o := o) ho).1
    unfold Lib.bytesOf at hs
    rw [List.getElem?_map] at hs
    cases hx : fl[o]? with
    | none => rw [hx] at hs; cases hs
    | some x =>
      rw [hx] at hs
      have hm := List.mem_of_getElem? hx
      have h2 : UInt8.ofNat x.toNat = UInt8.ofNat f.toNat := Option.some.inj hs
      rw [← u8_inj (hr x hm).1 (hr x hm).2 hf0 hf1 h2]
      exact hm
  · intro h
    rcases Int.lt_or_le (at1 fl f) 0 with h0 | h0
    · have h1 := at1_ge fl f
      have h2 : Lib.indexByte (Lib.bytesOf fl) f.toNat.toUInt8 = -1 := by unfold at1 at h0 h1; omega
      obtain ⟨k, hk, hkf⟩ := List.getElem_of_mem h
      refine absurd ?_ (Lib.indexByte_none h2 k)
      unfold Lib.bytesOf
      rw [List.getElem?_map, List.getElem?_eq_getElem hk, hkf]
      rfl
    · exact h0
theorem rises_lt (l : List Int) (h : risesB l = true) : ∀ (d i : Nat), i + (d + 1) < l.length → rd l i < rd l ((i + (d + 1) : Nat) : Int) := by
  have st : ∀ j : Nat, j + 1 < l.length → rd l j < rd l ((j + 1 : Nat) : Int) := by
    intro j hj
    unfold risesB at h
    rw [List.all_eq_true] at h
    have := h (j + 1) (List.mem_range'_1.2 (by omega))
    simp only [Bool.and_eq_true, Bool.or_eq_true, decide_eq_true_eq] at this
    have h2 := this.2.resolve_left (by omega)
    rwa [Nat.add_sub_cancel] at h2
  intro d
  induction d with
  | zero => intro i hi; exact st i hi
  | succ d ih =>
    intro i hi
    have h1 := ih i (by omega)
    have h2 := st (i + (d + 1)) (by omega)
    have e : i + (d + 1 + 1) = i + (d + 1) + 1 := by omega
    rw [e]
    omega
theorem rises_nodup (l : List Int) (h : risesB l = true) : l.Nodup := by
  rw [List.nodup_iff_pairwise_ne, List.pairwise_iff_getElem]
  intro i j hi hj hij
  have h1 := rises_lt l h (j - i - 1) i (by omega)
  have e : i + (j - i - 1 + 1) = j := by omega
  rw [e, rd_get l i hi, rd_get l j hj] at h1
  omega
theorem filter_eq_nodup (fl : List Int) (h : fl.Nodup) (f : Int) : (fl.filter fun x => decide (x = f)) = if f ∈ fl then [f] else [] := by
  induction fl with
  | nil => simp
  | cons a t ih =>
    obtain ⟨h1, h2⟩ := List.nodup_cons.1 h
    rw [List.filter_cons, ih h2]
    by_cases e : a = f
    · subst e
      rw [if_neg h1]
      simp
    · simp only [decide_eq_false e, List.mem_cons]
      simp [Ne.symm e]
theorem both_common (fl l : List Int) (h : fl.Nodup) (hr : ∀ x ∈ fl, 0 ≤ x ∧ x < 256) (hl : ∀ x ∈ l, 0 ≤ x ∧ x < 256) : bothL fl l = commonL fl l := by
  unfold bothL commonL
  induction l with
  | nil => rfl
  | cons a t ih =>
    have ha := hl a (List.mem_cons_self ..)
    rw [List.flatMap_cons, ih (fun x hx => hl x (List.mem_cons_of_mem _ hx)), filter_eq_nodup fl h a, List.filter_cons]
    have hm := at1_mem fl a ha.1 ha.2 hr
    by_cases e : a ∈ fl
    · rw [if_pos e, decide_eq_true (hm.2 e), if_pos rfl]; rfl
    · rw [if_neg e, decide_eq_false (fun h => e (hm.1 h)), if_neg (by simp)]; rfl
def Five (l : List Int) : Prop := l.Sublist [0, 1, 2, 3, 4]
theorem five_once (host : List Int) : Five (onceL host) := List.filter_sublist
theorem five_common (fl l : List Int) (h : Five l) : Five (commonL fl l) := List.Sublist.trans List.filter_sublist h
theorem five_mem {l : List Int} (h : Five l) : ∀ x ∈ l, 0 ≤ x ∧ x < 256 := fun x hx => by
  have := h.subset hx
  simp at this
  omega
theorem five_len {l : List Int} (h : Five l) : l.length ≤ 5 := h.length_le
theorem five_pair {l : List Int} (h : Five l) : l.Pairwise (· < ·) := List.Pairwise.sublist h (by decide)
theorem five_onceB {l : List Int} (h : Five l) : onceB l = true := by
  unfold Five at h
  simp only [List.sublist_cons_iff, List.sublist_nil] at h
  have : l ∈ ([[], [0], [1], [2], [3], [4], [0, 1], [0, 2], [0, 3], [0, 4], [1, 2], [1, 3], [1, 4], [2, 3], [2, 4], [3, 4], [0, 1, 2], [0, 1, 3], [0, 1, 4], [0, 2, 3], [0, 2, 4], [0, 3, 4], [1, 2, 3], [1, 2, 4], [1, 3, 4], [2, 3, 4], [0, 1, 2, 3], [0, 1, 2, 4], [0, 1, 3, 4], [0, 2, 3, 4], [1, 2, 3, 4], [0, 1, 2, 3, 4]] : List (List Int)) := by
    rcases h with ((((rfl | ⟨_, rfl, rfl⟩) | ⟨_, rfl, rfl | ⟨_, rfl, rfl⟩⟩) | ⟨_, rfl, (rfl | ⟨_, rfl, rfl⟩) | ⟨_, rfl, rfl | ⟨_, rfl, rfl⟩⟩⟩) | ⟨_, rfl, ((rfl | ⟨_, rfl, rfl⟩) | ⟨_, rfl, rfl | ⟨_, rfl, rfl⟩⟩) | ⟨_, rfl, (rfl | ⟨_, rfl, rfl⟩) | ⟨_, rfl, rfl | ⟨_, rfl, rfl⟩⟩⟩⟩) | ⟨_, rfl, (((rfl | ⟨_, rfl, rfl⟩) | ⟨_, rfl, rfl | ⟨_, rfl, rfl⟩⟩) | ⟨_, rfl, (rfl | ⟨_, rfl, rfl⟩) | ⟨_, rfl, rfl | ⟨_, rfl, rfl⟩⟩⟩) | ⟨_, rfl, ((rfl | ⟨_, rfl, rfl⟩) | ⟨_, rfl, rfl | ⟨_, rfl, rfl⟩⟩) | ⟨_, rfl, (rfl | ⟨_, rfl, rfl⟩) | ⟨_, rfl, rfl | ⟨_, rfl, rfl⟩⟩⟩⟩⟩ <;> decide
  revert this
  generalize l = x
  intro hx
  have hall : ([[], [0], [1], [2], [3], [4], [0, 1], [0, 2], [0, 3], [0, 4], [1, 2], [1, 3], [1, 4], [2, 3], [2, 4], [3, 4], [0, 1, 2], [0, 1, 3], [0, 1, 4], [0, 2, 3], [0, 2, 4], [0, 3, 4], [1, 2, 3], [1, 2, 4], [1, 3, 4], [2, 3, 4], [0, 1, 2, 3], [0, 1, 2, 4], [0, 1, 3, 4], [0, 2, 3, 4], [1, 2, 3, 4], [0, 1, 2, 3, 4]] : List (List Int)).all onceB = true := by decide +kernel
  exact List.all_eq_true.1 hall x hx
theorem sorted_same {r l : List Int} (hp : r.Perm l) (hs : SortedTo r l.length) (hl : l.Pairwise (· < ·)) : r = l := by
  have hn := hp.length_eq
  refine hp.eq_of_pairwise (le := fun a b => a ≤ b) (fun a b _ _ h1 h2 => by omega) ?_ (hl.imp (fun h => by omega))
  rw [List.pairwise_iff_getElem]
  intro i j hi hj hij
  have := hs i j hij (by omega)
  rwa [rd_get r i hi, rd_get r j hj] at this
theorem common_all (fl l : List Int) (h : allIn fl l = true) : commonL fl l = l := by
  unfold commonL
  rw [List.filter_eq_self]
  intro a ha
  unfold allIn at h
  exact List.all_eq_true.1 h a ha
theorem allIn_common (fl l : List Int) : allIn fl (commonL fl l) = true := by
  unfold allIn commonL
  rw [List.all_eq_true]
  intro a ha
  exact (List.mem_filter.1 ha).2
/-! ### Hear where they agree -/
theorem eqB_2 (t : List Int) : eqB (2 :: t) [8, 2] = false := by
  unfold eqB
  rw [beq_eq_false_iff_ne]
  intro e
  rw [Lib.strOfNums_toList, Lib.strOfNums_toList] at e
  exact absurd (List.cons.inj e).1 (by decide)
theorem eqB_3 (t : List Int) : eqB (3 :: t) [8, 2] = false := by
  unfold eqB
  rw [beq_eq_false_iff_ne]
  intro e
  rw [Lib.strOfNums_toList, Lib.strOfNums_toList] at e
  exact absurd (List.cons.inj e).1 (by decide)
def givenL (nm : ByteArray) : List Int := [2, 4, 73, 66, 77, 45, 51, 50, 55, 56, 45, 50, 1] ++ bytesOf nm
theorem at1_given (t : List Int) : at1 (73 :: 66 :: 77 :: 45 :: 51 :: 50 :: 55 :: 56 :: 45 :: 50 :: 1 :: t) 1 = 10 := by
  unfold at1 Lib.bytesOf
  simp only [List.map_cons]
  rfl
theorem strOf_bytesOf (s : ByteArray) : Go.strOfNums (bytesOf s) = s := by
  unfold bytesOf
  unfold Go.strOfNums
  have : ∀ l : List UInt8, (l.map fun b => (b.toNat : Int)).map (fun n : Int => UInt8.ofNat n.toNat) = l := fun l => by
    rw [List.map_map]
    conv => rhs; rw [← List.map_id l]
    exact List.map_congr_left fun b _ => by simp
  rw [this]
theorem name_known : nameB (Go.strOfNums [73, 66, 77, 45, 51, 50, 55, 56, 45, 50]) = true := by decide +kernel
theorem gotB_given (nm : ByteArray) (h : nameB nm = true) : gotB ((givenL nm).drop 2) = true := by
  have e : (givenL nm).drop 2 = 73 :: 66 :: 77 :: 45 :: 51 :: 50 :: 55 :: 56 :: 45 :: 50 :: 1 :: bytesOf nm := rfl
  rw [e]
  unfold gotB
  rw [at1_given]
  show (decide ((0 : Int) ≤ 10) && (nameB (Go.strOfNums [73, 66, 77, 45, 51, 50, 55, 56, 45, 50]) && nameB (Go.strOfNums (bytesOf nm)))) = true
  rw [name_known, strOf_bytesOf, h]
  rfl
theorem gotS_given (nm : ByteArray) : gotS ((givenL nm).drop 2) = nm := by
  have e : (givenL nm).drop 2 = 73 :: 66 :: 77 :: 45 :: 51 :: 50 :: 55 :: 56 :: 45 :: 50 :: 1 :: bytesOf nm := rfl
  rw [e]
  unfold gotS
  rw [at1_given, if_pos (by decide)]
  show Go.strOfNums (bytesOf nm) = nm
  exact strOf_bytesOf nm
theorem hear_given (w : World) (g : Nat) (ty dev : ByteArray) (F : Option Addr) (nf cf : Nat) (fl : List Int) (d : ByteArray) (G : Option Addr) (ng cg : Nat) (h : EndB w g ty dev (.slice F nf cf) 1 d (.slice G ng cg)) (hF : Kd.C (Kd.int .u8) w F nf fl) (hnf : nf ≤ 1000000)
    (nm : ByteArray) (hnm : nameB nm = true) (A : Option Addr) (n c : Nat) (hr : Kd.C (Kd.int .u8) w A n (givenL nm)) (hc : n ≤ c) (hm : n ≤ 140737488355328) :
    Calls Try.prog 28 #[.pointer (some ⟨g, 0, none⟩), .int .u8 40, .slice A n c] w fun e w' => ∃ v co, e = .returned (.tuple #[v, .int .i64 co]) ∧ (co = 0 ∧ OwnB w' w.heap.size v ([3, 7] ++ fl) ∧ EndB w' g ty dev (.slice F nf cf) 2 nm (.slice none 0 0) ∧ Fr (only g) w w') := by
  have hl : n = 13 + (bytesOf nm).length := by have := hr.1; simp only [givenL, List.length_append, List.length_cons, List.length_nil] at this; omega
  refine hear_dev w g A (givenL nm) n c hr hc (eqB_2 _) (by omega) rfl _ ?_
  intro W hW A2 hA2 hC2
  refine (dev_ok W g ty dev F nf cf fl d G ng cg (h.below hW) (Kd.C_below hF hW) hnf A2 ((givenL nm).drop 1) (n - 1) (c - 1) hC2 (by omega) (by omega) (by omega) rfl ?_).mono ?_
  · rw [List.drop_drop]; exact gotB_given nm hnm
  · rintro e w' ⟨v, rfl, ho, hE, hf⟩
    rw [List.drop_drop, gotS_given] at hE
    exact ⟨_, _, rfl, rfl, ho.lower hW.size, hE, (Fr.of_below (S := only g) hW).then_ hf (fun i hi => .inl hi)⟩
theorem hear_is (w : World) (g : Nat) (ty dev : ByteArray) (F : Option Addr) (nf cf : Nat) (fl : List Int) (d : ByteArray) (ag : Value) (h : EndB w g ty dev (.slice F nf cf) 2 d ag) (hF : Kd.C (Kd.int .u8) w F nf fl) (hzf : F = none → cf = 0)
    (l : List Int) (h5 : Five l) (hown : allIn fl l = true) (A : Option Addr) (n c : Nat) (hr : Kd.C (Kd.int .u8) w A n ([3, 4] ++ l)) (hc : n ≤ c) :
    Calls Try.prog 28 #[.pointer (some ⟨g, 0, none⟩), .int .u8 40, .slice A n c] w fun e w' => ∃ v co, e = .returned (.tuple #[v, .int .i64 co]) ∧ (v = .slice none 0 0 ∧ co = 0 ∧ ∃ u, OwnB w' w.heap.size u l ∧ EndB w' g ty dev (.slice F nf cf) 3 d u ∧ Fr (only g) w w') := by
  have h55 := five_len h5
  have hl : n = 2 + l.length := by have := hr.1; simp only [List.length_append, List.length_cons, List.length_nil] at this; omega
  refine hear_fun w g A ([3, 4] ++ l) n c hr hc (eqB_3 _) (by omega) rfl _ ?_
  intro W hW A2 hA2 hC2
  refine (fun_is W g ty dev F nf cf fl d ag (h.below hW) (Kd.C_below hF hW) hzf A2 (4 :: l) (n - 1) (c - 1) hC2 (by omega) (by omega) (by omega) rfl (show onceB l = true from five_onceB h5) hown (by omega)).mono ?_
  rintro e w' ⟨u, r, rfl, ho, hp, hs, hE, hf⟩
  have hp' : r.Perm l := hp
  have hs' : SortedTo r l.length := by rwa [show n - 1 - 1 = l.length from by omega] at hs
  have e1 := sorted_same hp' hs' (five_pair h5)
  subst e1
  exact ⟨_, _, rfl, rfl, rfl, _, ho.lower hW.size, hE, (Fr.of_below (S := only g) hW).then_ hf (fun i hi => .inl hi)⟩
theorem hear_req_own (w : World) (g : Nat) (ty dev : ByteArray) (F : Option Addr) (nf cf : Nat) (fl : List Int) (st : Int) (hst : st = 2 ∨ st = 3) (d : ByteArray) (G : Option Addr) (ng cg : Nat) (h : EndB w g ty dev (.slice F nf cf) st d (.slice G ng cg)) (hF : Kd.C (Kd.int .u8) w F nf fl) (hzf : F = none → cf = 0)
    (l : List Int) (h5 : Five l) (hown : allIn fl l = true) (A : Option Addr) (n c : Nat) (hr : Kd.C (Kd.int .u8) w A n ([3, 7] ++ l)) (hc : n ≤ c) :
    Calls Try.prog 28 #[.pointer (some ⟨g, 0, none⟩), .int .u8 40, .slice A n c] w fun e w' => ∃ v co, e = .returned (.tuple #[v, .int .i64 co]) ∧ (co = 0 ∧ OwnB w' w.heap.size v ([3, 4] ++ l) ∧ ∃ u, OwnB w' w.heap.size u l ∧ EndB w' g ty dev (.slice F nf cf) 3 d u ∧ Fr (only g) w w') := by
  have h55 := five_len h5
  have hl : n = 2 + l.length := by have := hr.1; simp only [List.length_append, List.length_cons, List.length_nil] at this; omega
  refine hear_fun w g A ([3, 7] ++ l) n c hr hc (eqB_3 _) (by omega) rfl _ ?_
  intro W hW A2 hA2 hC2
  refine (fun_asks W g ty dev F nf cf fl st d G ng cg (h.below hW) hst (Kd.C_below hF hW) hzf A2 (7 :: l) (n - 1) (c - 1) hC2 (by omega) (by omega) (by omega) rfl (show onceB l = true from five_onceB h5) hown (by omega)).mono ?_
  rintro e w' ⟨u, r, v, rfl, ho, hp, hs, hE, hf, hv⟩
  have hp' : r.Perm l := hp
  have hs' : SortedTo r l.length := by rwa [show n - 1 - 1 = l.length from by omega] at hs
  have e1 := sorted_same hp' hs' (five_pair h5)
  subst e1
  exact ⟨_, _, rfl, rfl, hv.lower hW.size, _, ho.lower hW.size, hE, (Fr.of_below (S := only g) hW).then_ hf (fun i hi => .inl hi)⟩
theorem hear_req_cut (w : World) (g : Nat) (ty dev : ByteArray) (F : Option Addr) (nf cf : Nat) (fl : List Int) (st : Int) (hst : st = 2 ∨ st = 3) (d : ByteArray) (G : Option Addr) (ng cg : Nat) (h : EndB w g ty dev (.slice F nf cf) st d (.slice G ng cg)) (hF : Kd.C (Kd.int .u8) w F nf fl) (hzf : F = none → cf = 0)
    (l : List Int) (h5 : Five l) (hown : allIn fl l = false) (A : Option Addr) (n c : Nat) (hr : Kd.C (Kd.int .u8) w A n ([3, 7] ++ l)) (hc : n ≤ c) :
    Calls Try.prog 28 #[.pointer (some ⟨g, 0, none⟩), .int .u8 40, .slice A n c] w fun e w' => ∃ v co, e = .returned (.tuple #[v, .int .i64 co]) ∧ (co = 0 ∧ OwnB w' w.heap.size v ([3, 7] ++ commonL fl l) ∧ EndB w' g ty dev (.slice F nf cf) 2 d (.slice none 0 0) ∧ Fr (only g) w w') := by
  have h55 := five_len h5
  have hl : n = 2 + l.length := by have := hr.1; simp only [List.length_append, List.length_cons, List.length_nil] at this; omega
  refine hear_fun w g A ([3, 7] ++ l) n c hr hc (eqB_3 _) (by omega) rfl _ ?_
  intro W hW A2 hA2 hC2
  refine (fun_cuts W g ty dev F nf cf fl st d G ng cg (h.below hW) hst (Kd.C_below hF hW) hzf A2 (7 :: l) (n - 1) (c - 1) hC2 (by omega) (by omega) (by omega) rfl (show onceB l = true from five_onceB h5) hown).mono ?_
  rintro e w' ⟨v, rfl, hE, hf, hv⟩
  exact ⟨_, _, rfl, rfl, hv.lower hW.size, hE, (Fr.of_below (S := only g) hW).then_ hf (fun i hi => .inl hi)⟩
theorem device_at (w : World) (g : Nat) (ty dev : ByteArray) (fs : Value) (st : Int) (d : ByteArray) (ag : Value) (h : EndB w g ty dev fs st d ag) :
    Calls Try.prog 36 #[.pointer (some ⟨g, 0, none⟩)] w fun e w' => e = .returned (.string d) ∧ w = w' := by
  have hc4 : w.cell? ⟨g, 4, none⟩ = some (.string d) := blk_cell h 4
  clear h
  go_enter Try.func36, Try.ntmps36
  go_wp2
  go_ret
  exact ⟨rfl, rfl⟩
theorem same_any (w : World) (A0 A1 : Option Addr) (n0 n1 c0 c1 : Nat) (l0 l1 : List Int) (hr0 : Kd.C (Kd.int .u8) w A0 n0 l0) (hc0 : n0 ≤ c0) (hr1 : Kd.C (Kd.int .u8) w A1 n1 l1) (hc1 : n1 ≤ c1) :
    Calls Try.prog 37 #[.slice A0 n0 c0, .slice A1 n1 c1] w fun e w' => e = .returned (.bool (eqB l0 l1)) ∧ ∃ m, w' = w.drewN m := by
  obtain rfl : l0.length = n0 := hr0.1
  obtain rfl : l1.length = n1 := hr1.1
  exact (vitrineref01_Same.calls A0 c0 l0 A1 c1 l1 _ w hr0 hc0 hr1 hc1 rfl).mono fun _ _ ⟨he, ⟨hw⟩⟩ => ⟨he, hw⟩
theorem eqB_self (l : List Int) : eqB l l = true := beq_self_eq_true _
end Go.Proofs.Ytclpkbgjaiacpaa
