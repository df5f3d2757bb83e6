/- What is proved: the reference's New; both ends side by side; same. Conditions: those that each theorem states. -/
import Derived.Test.YtclpkbgjaiacpaaNegoH
import Derived.Test.YtclpkbgjaiacpaaPNpx2
import Derived.WalkSpells
import Derived.Deep.DeepMust
import Derived.Deep.RegionHeld3
import Derived.StillTactics
import Derived.Lib.SlBytesConst
namespace Go.Proofs.Ytclpkbgjaiacpaa
open Go.RowKit Go.Proofs.YtclpkbgjaiacpaaW.PrintWords Go.Proofs.YtclpkbgjaiacpaaW.PrintLast Go.Proofs.YtclpkbgjaiacpaaW.PrintMore
open Go.Proofs.Ytclpkbgjaiacpaa.PNegoAgrees Go.Proofs.Ytclpkbgjaiacpaa.PSrt
set_option linter.unusedVariables false
set_option linter.unusedSimpArgs false
/-! ### the reference's New -/
theorem isEmpty_size (s : ByteArray) : s.toList.isEmpty = decide (s.size = 0) := by
  have h2 : s.toList.length = s.size := by rw [ByteArray.toList_eq, Array.length_toList]; rfl
  cases h : s.toList with
  | nil => rw [h] at h2; simp at h2; simp [← h2]
  | cons x xs => rw [h, List.length_cons] at h2; exact (decide_eq_false (by omega)).symm
def codeNew (t1 t2 : ByteArray) (l : List Int) : Int := if nameB t1 = false ∨ (t2.toList.isEmpty = false ∧ nameB t2 = false) then 4 else if risesB l = false then 1 else 0
theorem new_fail2 (w : World) (t1 t2 : ByteArray) (A : Option Addr) (l : List Int) (n c : Nat) (hr : Kd.C (Kd.int .u8) w A n l) (hc : n ≤ c) (h1 : t1.size ≤ 45) (h2 : t2.size ≤ 45) (hl : n ≤ 140737488355328)
    (hno : codeNew t1 t2 l ≠ 0) :
    Calls Try.prog 26 #[.agg #[.string t1, .string t2, .slice A n c]] w fun e w' => e = .returned (.tuple #[.pointer none, .int .i64 (codeNew t1 t2 l)]) ∧ Below w.heap.size w w' := by
  obtain rfl : l.length = n := hr.1
  have n1 := name_f t1 (by omega)
  have n2 := name_f t2 (by omega)
  have n3 := rises_f l (by omega)
  unfold codeNew at hno ⊢
  by_cases hb : nameB t1 = false ∨ (t2.toList.isEmpty = false ∧ nameB t2 = false)
  · rw [if_pos hb]
    exact new_bad w t1 t2 A l c _ _ _ _ n1 n2 hb
  · rw [if_neg hb] at hno ⊢
    by_cases h3 : risesB l = false
    · rw [if_pos h3]
      rw [h3] at n3
      have b1 : nameB t1 = true := by cases h : nameB t1 with | true => rfl | false => exact absurd (.inl h) hb
      rw [b1] at n1
      refine new_list w t1 t2 A l c _ _ _ _ n1 n2 ?_ n3 hr hc
      cases he : t2.toList.isEmpty with
      | true => exact .inl rfl
      | false =>
        refine .inr ⟨rfl, ?_⟩
        cases h : nameB t2 with | true => rfl | false => exact absurd (.inr ⟨he, h⟩) hb
    · rw [if_neg h3] at hno
      exact absurd rfl hno
theorem code_ok {t1 t2 : ByteArray} {l : List Int} (h : codeNew t1 t2 l = 0) : nameB t1 = true ∧ (t2.toList.isEmpty = true ∨ nameB t2 = true) ∧ risesB l = true := by
  unfold codeNew at h
  by_cases hb : nameB t1 = false ∨ (t2.toList.isEmpty = false ∧ nameB t2 = false)
  · rw [if_pos hb] at h; cases h
  · rw [if_neg hb] at h
    by_cases h3 : risesB l = false
    · rw [if_pos h3] at h; cases h
    · refine ⟨?_, ?_, by simpa using h3⟩
      · cases h : nameB t1 with | true => rfl | false => exact absurd (.inl h) hb
      · cases he : t2.toList.isEmpty with
        | true => exact .inl rfl
        | false =>
          refine .inr ?_
          cases h : nameB t2 with | true => rfl | false => exact absurd (.inr ⟨he, h⟩) hb
/-- Is the k-th of a list a function that rises? -/
def stepB (l : List Int) (j : Nat) : Bool := decide (rd l j ≤ 4) && (decide (j = 0) || decide (rd l (j - 1 : Nat) < rd l j))
theorem rises_all {l : List Int} (h : ∀ j, j < l.length → stepB l j = true) : risesB l = true := by
  unfold risesB
  rw [List.all_eq_true]
  intro j hj
  exact h j (by have := List.mem_range'_1.1 hj; omega)
theorem rises_not {l : List Int} {j : Nat} (hj : j < l.length) (h : stepB l j = false) : risesB l = false := by
  unfold risesB
  rw [List.all_eq_false]
  refine ⟨j, List.mem_range'_1.2 (by omega), ?_⟩
  rw [show (decide (rd l j ≤ 4) && (decide (j = 0) || decide (rd l (j - 1 : Nat) < rd l j))) = stepB l j from rfl, h]
  simp
def lastOf (l : List Int) (k : Nat) : Int := if k = 0 then -1 else rd l (k - 1 : Nat)
theorem stepB_last (l : List Int) (k : Nat) (h0 : 0 ≤ rd l k) : stepB l k = (!decide (rd l k ≤ lastOf l k) && !decide (rd l k > 4)) := by
  unfold stepB lastOf
  rw [Bool.eq_iff_iff]
  by_cases hz : k = 0
  · rw [if_pos hz]
    simp only [Bool.and_eq_true, Bool.or_eq_true, decide_eq_true_eq, Bool.not_eq_true', decide_eq_false_iff_not]
    omega
  · rw [if_neg hz]
    simp only [Bool.and_eq_true, Bool.or_eq_true, decide_eq_true_eq, Bool.not_eq_true', decide_eq_false_iff_not]
    omega
theorem conv53 (x : Int) (h0 : 0 ≤ x) (h1 : x < 256) (W : World) : (convert 5 3 (.int .u8 x)).run Try.prog W = .ok (.int .i64 x) W := by
  have e : IntKind.i64.wrap x = x := by
    have e1 : IntKind.i64.bits = 64 := rfl
    unfold IntKind.wrap
    rw [e1]
    simp
    omega
  simp [convert, run_underlying Try.underlying5, run_underlying Try.underlying3, Conv.intToInt, e]
set_option maxHeartbeats 1000000 in
theorem refnew_any (w : World) (t1 t2 : ByteArray) (A : Option Addr) (l : List Int) (n c : Nat) (hr : Kd.C (Kd.int .u8) w A n l) (h1 : t1.size ≤ 45) (h2 : t2.size ≤ 45) (hl : n ≤ 140737488355328) (hrng : ∀ x ∈ l, 0 ≤ x ∧ x < 256) :
    Calls Try.prog 39 #[.agg #[.string t1, .string t2, .slice A n c]] w fun e w' => Below w.heap.size w w' ∧ ((codeNew t1 t2 l ≠ 0 ∧ e = .returned (.tuple #[.pointer none, .int .i64 (codeNew t1 t2 l)])) ∨
      (codeNew t1 t2 l = 0 ∧ ∃ h, e = .returned (.tuple #[.pointer (some ⟨h, 0, none⟩), .int .i64 0]) ∧ RefB w' h t1 t2 (.slice A n c) 0 (⟨#[]⟩ : ByteArray) (.slice none 0 0) ∧ w.heap.size ≤ h)) := by
  obtain rfl : l.length = n := hr.1
  have n1 := refName_f t1 (by omega)
  have n2 := refName_f t2 (by omega)
  have he := isEmpty_size t2
  obtain ⟨k1, ek1⟩ : ∃ k, k = t1.size + 1 := ⟨_, rfl⟩
  obtain ⟨k2, ek2⟩ : ∃ k, k = t2.size + 1 := ⟨_, rfl⟩
  rw [← ek1] at n1
  rw [← ek2] at n2
  have HN1 := Aside0.mk n1
  have HN2 := Aside0.mk n2
  have HR := Aside0.mk hr
  have HG := Aside0.mk hrng
  have hm : l.length ≤ 9223372036854775807 := by omega
  have HLL := Aside0.mk hl
  clear n1 n2 ek1 ek2 hr hrng hl
  by_cases hb : nameB t1 = false ∨ (t2.toList.isEmpty = false ∧ nameB t2 = false)
  · have hcode : codeNew t1 t2 l = 4 := by unfold codeNew; rw [if_pos hb]
    rw [hcode]
    clear hcode
    generalize nameB t1 = b1 at *
    generalize nameB t2 = b2 at *
    cases b1 with
    | false =>
      clear hb he
      go_enter Try.func39, Try.ntmps39
      go_wp2_with (go_at_call 34; go_must (refine (refName_q k1 _ t1 _ HN1.out).mono ?_; rintro e w3 ⟨rfl, q3, rfl⟩))
      go_ret2
      exact ⟨pw_below_drewN (below_alloc (Below.refl _ _) _) _, .inl ⟨by decide, rfl⟩⟩
    | true =>
      obtain ⟨hx, rfl⟩ := hb.resolve_left (by simp)
      have hs : decide ((t2.size : Int) > 0) = true := decide_eq_true (by rw [he] at hx; have := of_decide_eq_false hx; omega)
      have hs2 : (0 : Int) < (t2.size : Int) := of_decide_eq_true hs
      clear hb he hx
      go_enter Try.func39, Try.ntmps39
      go_wp2_with (first | (go_at_call 34; have tk := HN1; go_must (clear tk; refine (refName_q k1 _ t1 _ HN1.out).mono ?_; rintro e w3 ⟨rfl, q3, rfl⟩; clear HN1)) | (go_at_call 34; go_must (refine (refName_q k2 _ t2 _ HN2.out).mono ?_; rintro e w3 ⟨rfl, q4, rfl⟩)))
      go_ret2
      exact ⟨pw_below_drewN (below_alloc (Below.refl _ _) _) _, .inl ⟨by decide, rfl⟩⟩
  · have HCD := Aside0.mk (show codeNew t1 t2 l = if risesB l = false then 1 else 0 by unfold codeNew; rw [if_neg hb])
    have hb1 : nameB t1 = true := by cases h : nameB t1 with | true => rfl | false => exact absurd (.inl h) hb
    rw [hb1] at HN1
    by_cases hz : t2.size = 0
    · have hs : decide ((t2.size : Int) > 0) = false := decide_eq_false (by omega)
      have hz2 : (t2.size : Int) = 0 := by omega
      clear hb he hb1 hz
      go_enter Try.func39, Try.ntmps39
      go_wp2_with ((go_at_call 34; have tk := HN1; go_must (clear tk; refine (refName_q k1 _ t1 _ HN1.out).mono ?_; rintro e w3 ⟨rfl, q3, hw3⟩; have BK := (show w3.heap[w.heap.size]? = some (.cells #[.string t1, .string t2, .slice A l.length c] 51 (0, 0)) from by rw [hw3]; exact blk_drewN (blk_new w _) _); have x1 := (blk_cell BK 1).trans rfl; have x0 := (blk_cell BK 0).trans rfl; have x2 := (blk_cell BK 2).trans rfl; have HX3 := Aside0.mk BK; have HB3 := Aside0.mk (show Below w.heap.size w w3 from by rw [hw3]; exact pw_below_drewN (below_alloc (Below.refl _ _) _) _); clear hw3 BK HN1)))
      go_loop [4, 26] (fun lv i => ∃ k : Nat, k ≤ l.length ∧ i = .int .i64 k ∧ lv = .int .i64 (lastOf l k) ∧ Aside0 (∀ j, j < k → stepB l j = true)) (fun _ i => l.length - (intOf i).toNat)
      case atStart => exact ⟨0, Nat.zero_le _, rfl, rfl, ⟨fun j hj => absurd hj (by omega)⟩⟩
      case round =>
        obtain ⟨k, hk, rfl, rfl, HA⟩ := hrel
        by_cases hlt : k < l.length
        · obtain ⟨ad, e, hx⟩ := cell0 (Kd.C_below HR.out HB3.out) k hlt
          have hk0 : (0 : Int) ≤ (k : Int) := Int.natCast_nonneg k
          have hk1 : (k : Int) < (l.length : Int) := Int.ofNat_lt.2 hlt
          have hxr := HG.out (rd l k) (by rw [rd_get l k hlt]; exact List.getElem_mem hlt)
          have hcv := conv53 (rd l k) hxr.1 hxr.2
          have hla := stepB_last l k hxr.1
          have HNX := Aside0.mk (show lastOf l (k + 1) = rd l k from by unfold lastOf; rw [if_neg (by omega), Nat.add_sub_cancel])
          subst e
          have HLA := Aside0.mk hla
          clear hla
          cases hd1 : decide (rd l k ≤ lastOf l k) with
          | true =>
            have HF := Aside0.mk (show codeNew t1 t2 l = 1 by rw [HCD.out]; exact if_pos (rises_not hlt (by rw [HLA.out, hd1]; rfl)))
            go_wp2
            go_ret2
            exact ⟨HB3.out, .inl ⟨by rw [HF.out]; decide, by rw [HF.out]; rfl⟩⟩
          | false =>
            cases hd2 : decide (rd l k > 4) with
            | true =>
              have HF := Aside0.mk (show codeNew t1 t2 l = 1 by rw [HCD.out]; exact if_pos (rises_not hlt (by rw [HLA.out, hd1, hd2]; rfl)))
              go_wp2
              go_ret2
              exact ⟨HB3.out, .inl ⟨by rw [HF.out]; decide, by rw [HF.out]; rfl⟩⟩
            | false =>
              have HA2 := Aside0.mk (show ∀ j, j < k + 1 → stepB l j = true from fun j hj => by
                rcases Nat.lt_or_ge j k with h | h
                · exact HA.out j h
                · obtain rfl : j = k := by omega
                  rw [HLA.out, hd1, hd2]; rfl)
              clear HA
              go_wp2
              go_round
              case rel => exact ⟨k + 1, hlt, by go_num, by rw [HNX.out], HA2⟩
              case measure => simp [intOf]; omega
        · obtain rfl : k = l.length := by omega
          have HF := Aside0.mk (show codeNew t1 t2 l = 0 by rw [HCD.out]; exact if_neg (by rw [rises_all HA.out]; simp))
          clear HA
          go_wp2
          go_ret2
          exact ⟨below_alloc HB3.out _, .inr ⟨HF.out, _, rfl, blk_new _ _, HB3.out.size⟩⟩
    · have hs : decide ((t2.size : Int) > 0) = true := decide_eq_true (by omega)
      have hz2 : (0 : Int) < (t2.size : Int) := by omega
      have hb2 : nameB t2 = true := by
        cases h : nameB t2 with
        | true => rfl
        | false => exact absurd (.inr ⟨by rw [he]; exact decide_eq_false hz, h⟩) hb
      rw [hb2] at HN2
      clear hb he hb1 hz hb2
      go_enter Try.func39, Try.ntmps39
      go_wp2_with (first | (go_at_call 34; have tk := HN1; go_must (clear tk; refine (refName_q k1 _ t1 _ HN1.out).mono ?_; rintro e w3 ⟨rfl, q3, hw3⟩; have BK := (show w3.heap[w.heap.size]? = some (.cells #[.string t1, .string t2, .slice A l.length c] 51 (0, 0)) from by rw [hw3]; exact blk_drewN (blk_new w _) _); have x1 := (blk_cell BK 1).trans rfl; have x0 := (blk_cell BK 0).trans rfl; have x2 := (blk_cell BK 2).trans rfl; have HX3 := Aside0.mk BK; have HB3 := Aside0.mk (show Below w.heap.size w w3 from by rw [hw3]; exact pw_below_drewN (below_alloc (Below.refl _ _) _) _); clear hw3 BK HN1)) | (go_at_call 34; go_must (refine (refName_q k2 _ t2 _ HN2.out).mono ?_; rintro e w4 ⟨rfl, q4, hw4⟩; have BK := (show w4.heap[w.heap.size]? = some (.cells #[.string t1, .string t2, .slice A l.length c] 51 (0, 0)) from by rw [hw4]; exact blk_drewN HX3.out _); have x1 := (blk_cell BK 1).trans rfl; have x0 := (blk_cell BK 0).trans rfl; have x2 := (blk_cell BK 2).trans rfl; have HX4 := Aside0.mk BK; have HB4 := Aside0.mk (show Below w.heap.size w w4 from by rw [hw4]; exact pw_below_drewN HB3.out _); clear hw4 BK HX3)))
      go_loop [4, 26] (fun lv i => ∃ k : Nat, k ≤ l.length ∧ i = .int .i64 k ∧ lv = .int .i64 (lastOf l k) ∧ Aside0 (∀ j, j < k → stepB l j = true)) (fun _ i => l.length - (intOf i).toNat)
      case atStart => exact ⟨0, Nat.zero_le _, rfl, rfl, ⟨fun j hj => absurd hj (by omega)⟩⟩
      case round =>
        obtain ⟨k, hk, rfl, rfl, HA⟩ := hrel
        by_cases hlt : k < l.length
        · obtain ⟨ad, e, hx⟩ := cell0 (Kd.C_below HR.out HB4.out) k hlt
          have hk0 : (0 : Int) ≤ (k : Int) := Int.natCast_nonneg k
          have hk1 : (k : Int) < (l.length : Int) := Int.ofNat_lt.2 hlt
          have hxr := HG.out (rd l k) (by rw [rd_get l k hlt]; exact List.getElem_mem hlt)
          have hcv := conv53 (rd l k) hxr.1 hxr.2
          have hla := stepB_last l k hxr.1
          have HNX := Aside0.mk (show lastOf l (k + 1) = rd l k from by unfold lastOf; rw [if_neg (by omega), Nat.add_sub_cancel])
          subst e
          have HLA := Aside0.mk hla
          clear hla
          cases hd1 : decide (rd l k ≤ lastOf l k) with
          | true =>
            have HF := Aside0.mk (show codeNew t1 t2 l = 1 by rw [HCD.out]; exact if_pos (rises_not hlt (by rw [HLA.out, hd1]; rfl)))
            go_wp2
            go_ret2
            exact ⟨HB4.out, .inl ⟨by rw [HF.out]; decide, by rw [HF.out]; rfl⟩⟩
          | false =>
            cases hd2 : decide (rd l k > 4) with
            | true =>
              have HF := Aside0.mk (show codeNew t1 t2 l = 1 by rw [HCD.out]; exact if_pos (rises_not hlt (by rw [HLA.out, hd1, hd2]; rfl)))
              go_wp2
              go_ret2
              exact ⟨HB4.out, .inl ⟨by rw [HF.out]; decide, by rw [HF.out]; rfl⟩⟩
            | false =>
              have HA2 := Aside0.mk (show ∀ j, j < k + 1 → stepB l j = true from fun j hj => by
                rcases Nat.lt_or_ge j k with h | h
                · exact HA.out j h
                · obtain rfl : j = k := by omega
                  rw [HLA.out, hd1, hd2]; rfl)
              clear HA
              go_wp2
              go_round
              case rel => exact ⟨k + 1, hlt, by go_num, by rw [HNX.out], HA2⟩
              case measure => simp [intOf]; omega
        · obtain rfl : k = l.length := by omega
          have HF := Aside0.mk (show codeNew t1 t2 l = 0 by rw [HCD.out]; exact if_neg (by rw [rises_all HA.out]; simp))
          clear HA
          go_wp2
          go_ret2
          exact ⟨below_alloc HB4.out _, .inr ⟨HF.out, _, rfl, blk_new _ _, HB4.out.size⟩⟩
/-! ### both ends side by side -/
/-- The program's end at g and the document's at h, both with the state (st, d, gl); what was there when w0 was is as it was. -/
structure Pair (w0 w : World) (g h : Nat) (ty dev : ByteArray) (F : Option Addr) (nf cf : Nat) (F2 : Option Addr) (nf2 cf2 : Nat) (fl : List Int) (st : Int) (d : ByteArray) (G : Option Addr) (ng cg : Nat) (G2 : Option Addr) (ng2 cg2 : Nat) (gl : List Int) : Prop where
  b : Below w0.heap.size w0 w
  e : EndB w g ty dev (.slice F nf cf) st d (.slice G ng cg)
  r : RefB w h ty dev (.slice F2 nf2 cf2) st d (.slice G2 ng2 cg2)
  f : Kd.C (Kd.int .u8) w F nf fl
  fz : F = none → cf = 0
  f2 : Kd.C (Kd.int .u8) w F2 nf2 fl
  f2c : nf2 ≤ cf2
  a : st = 3 → Kd.C (Kd.int .u8) w G ng gl
  a2 : st = 3 → Kd.C (Kd.int .u8) w G2 ng2 gl
  a2c : st = 3 → ng2 ≤ cg2
  g0 : w0.heap.size ≤ g
  h0 : w0.heap.size ≤ h
  gh : g ≠ h
  len : fl.length ≤ 8
  glen : gl.length ≤ 5
section
variable {w0 w w' : World} {g h : Nat} {ty dev : ByteArray} {F : Option Addr} {nf cf : Nat} {F2 : Option Addr} {nf2 cf2 : Nat} {fl : List Int} {st : Int} {d : ByteArray} {G : Option Addr} {ng cg : Nat} {G2 : Option Addr} {ng2 cg2 : Nat} {gl : List Int}
theorem Pair.below (hp : Pair w0 w g h ty dev F nf cf F2 nf2 cf2 fl st d G ng cg G2 ng2 cg2 gl) (hb : Below w.heap.size w w') : Pair w0 w' g h ty dev F nf cf F2 nf2 cf2 fl st d G ng cg G2 ng2 cg2 gl where
  b := hp.b.trans (hb.mono hp.b.size)
  e := blk_below hp.e hb
  r := blk_below hp.r hb
  f := Kd.C_below hp.f hb
  fz := hp.fz
  f2 := Kd.C_below hp.f2 hb
  f2c := hp.f2c
  a := fun h3 => Kd.C_below (hp.a h3) hb
  a2 := fun h3 => Kd.C_below (hp.a2 h3) hb
  a2c := hp.a2c
  g0 := hp.g0
  h0 := hp.h0
  gh := hp.gh
  len := hp.len
  glen := hp.glen
end
/-- What is agreed on. -/
def wantL (st : Int) (gl : List Int) : List Int := if st = 3 then gl else []
theorem functions_any (w : World) (g : Nat) (ty dev : ByteArray) (fs : Value) (st : Int) (d : ByteArray) (G : Option Addr) (ng cg : Nat) (gl : List Int) (hE : EndB w g ty dev fs st d (.slice G ng cg)) (ha : st = 3 → Kd.C (Kd.int .u8) w G ng gl) (hl : gl.length ≤ 5) :
    Calls Try.prog 32 #[.pointer (some ⟨g, 0, none⟩)] w fun e w' => ∃ v, e = .returned v ∧ OwnB w' w.heap.size v (wantL st gl) ∧ Below w.heap.size w w' := by
  unfold wantL
  by_cases h3 : st = 3
  · subst h3
    rw [if_pos rfl]
    have hc := ha rfl
    exact functions_ready w g ty dev fs d G ng cg gl hE hc (by have := hc.1; omega)
  · rw [if_neg h3]
    exact (functions_not w g ty dev fs st d _ hE h3).mono fun e w' ⟨he, hw⟩ => by
      subst hw
      exact ⟨_, he, Kd.R_nil _ _ _ _ _, Below.refl _ _⟩
theorem has_any (w : World) (g : Nat) (ty dev : ByteArray) (fs : Value) (st : Int) (d : ByteArray) (G : Option Addr) (ng cg : Nat) (gl : List Int) (hE : EndB w g ty dev fs st d (.slice G ng cg)) (ha : st = 3 → Kd.C (Kd.int .u8) w G ng gl) (hl : gl.length ≤ 5) (x : Int) :
    Calls Try.prog 64 #[.pointer (some ⟨g, 0, none⟩), .int .u8 x] w fun e w' => e = .returned (.bool (decide (0 ≤ at1 (wantL st gl) x))) ∧ Below w.heap.size w w' := by
  have HF := Aside0.mk (functions_any w g ty dev fs st d G ng cg gl hE ha hl)
  clear hE ha hl
  go_enter Try.func64, Try.ntmps64
  go_wp2_with (first | (go_at_call 32; go_must (refine HF.out.mono ?_; rintro e w1 ⟨v, rfl, ho, hb⟩; obtain ⟨A1, n1, c1, rfl, _, hC1, hz1⟩ := OwnB.open ho; have HO := Aside0.mk (And.intro hC1 hz1); have HB := Aside0.mk hb; clear ho hb hC1 hz1)) | (go_at_call 81; go_must (refine (indexByte_any _ _ _ _ _ x HO.out.1 HO.out.2).mono ?_; rintro e w2 ⟨rfl, rfl⟩)))
  go_ret
  exact ⟨rfl, HB.out⟩
theorem conv35 (x : Int) (h0 : 0 ≤ x) (h1 : x < 256) (W : World) : (convert 3 5 (.int .i64 x)).run Try.prog W = .ok (.int .u8 x) W := by
  have e : IntKind.u8.wrap x = x := by
    have e1 : IntKind.u8.bits = 8 := rfl
    have e2 : IntKind.u8.signed = false := rfl
    unfold IntKind.wrap
    rw [e1, e2]
    simp
    omega
  simp [convert, run_underlying Try.underlying5, run_underlying Try.underlying3, Conv.intToInt, e]
/-! ### same -/
def hasK (l : List Int) (f : Int) (k : Nat) : Bool := (l.take k).any fun x => decide (x = f)
theorem hasK_succ (l : List Int) (f : Int) (k : Nat) (hk : k < l.length) : hasK l f (k + 1) = (hasK l f k || decide (rd l k = f)) := by
  unfold hasK
  rw [List.take_succ_eq_append_getElem hk, List.any_append, rd_get l k hk]
  simp
theorem hasK_all (l : List Int) (f : Int) (h0 : 0 ≤ f) (h1 : f < 256) (hr : ∀ x ∈ l, 0 ≤ x ∧ x < 256) : hasK l f l.length = decide (0 ≤ at1 l f) := by
  unfold hasK
  rw [List.take_of_length_le (Nat.le_refl _), Bool.eq_iff_iff, List.any_eq_true, decide_eq_true_eq, at1_mem l f h0 h1 hr]
  constructor
  · rintro ⟨x, hx, e⟩
    rw [← of_decide_eq_true e]; exact hx
  · intro h
    exact ⟨f, h, decide_eq_true rfl⟩
theorem want_len {st : Int} {gl : List Int} (h : gl.length ≤ 5) : (wantL st gl).length ≤ 5 := by
  unfold wantL; split
  · exact h
  · simp
theorem want_rng {st : Int} {gl : List Int} (h : ∀ x ∈ gl, 0 ≤ x ∧ x < 256) : ∀ x ∈ wantL st gl, 0 ≤ x ∧ x < 256 := by
  unfold wantL; split
  · exact h
  · intro x hx; cases hx
set_option maxRecDepth 100000 in
set_option maxHeartbeats 4000000 in
theorem same_pair (w : World) (g h : Nat) (ty dev : ByteArray) (F : Option Addr) (nf cf : Nat) (F2 : Option Addr) (nf2 cf2 : Nat) (fl : List Int) (st : Int) (d : ByteArray) (G : Option Addr) (ng cg : Nat) (G2 : Option Addr) (ng2 cg2 : Nat) (gl : List Int)
    (w0 : World) (hp : Pair w0 w g h ty dev F nf cf F2 nf2 cf2 fl st d G ng cg G2 ng2 cg2 gl) (hgr : ∀ x ∈ gl, 0 ≤ x ∧ x < 256) :
    Calls Try.prog 43 #[.pointer (some ⟨g, 0, none⟩), .pointer (some ⟨h, 0, none⟩)] w fun e w' => e = .returned (.bool true) ∧ Below w.heap.size w w' := by
  have HP := Aside0.mk hp
  have hc3 : w.cell? ⟨h, 3, none⟩ = some (.int .i64 st) := blk_cell hp.r 3
  have hc5 : w.cell? ⟨h, 5, none⟩ = some (.slice G2 ng2 cg2) := blk_cell hp.r 5
  -- what is wanted: the slice that slot 5 holds
  have hW : ∃ A n c, (if st = 3 then Value.slice G2 ng2 cg2 else .slice none 0 0) = .slice A n c ∧ Kd.C (Kd.int .u8) w A n (wantL st gl) ∧ n ≤ c := by
    unfold wantL
    by_cases h3 : st = 3
    · rw [if_pos h3, if_pos h3]; exact ⟨_, _, _, rfl, hp.a2 h3, hp.a2c h3⟩
    · rw [if_neg h3, if_neg h3]; exact ⟨_, _, _, rfl, Kd.C_nil _ _, Nat.le_refl _⟩
  obtain ⟨A, n, c, hv, hCw, hnc⟩ := hW
  have HW := Aside0.mk (And.intro hCw hnc)
  have HWR := Aside0.mk (want_rng (st := st) hgr)
  have HWN := Aside0.mk (show (wantL st gl).length = n from hCw.1)
  have hn5 : n ≤ 9223372036854775807 := by have := want_len (st := st) hp.glen; have := hCw.1; omega
  have hd3 : (st == 3) = true ∨ (st == 3) = false := by cases st == 3 <;> simp
  have HHAS := Aside0.mk (fun (wr : World) (hb : Below w.heap.size w wr) (x : Int) => has_any wr g ty dev _ st d G ng cg gl (hp.below hb).e (hp.below hb).a hp.glen x)
  have HFUN := Aside0.mk (fun (wr : World) (hb : Below w.heap.size w wr) => functions_any wr g ty dev _ st d G ng cg gl (hp.below hb).e (hp.below hb).a hp.glen)
  have HST := Aside0.mk (fun (wr : World) (hb : Aside0 (Below w.heap.size w wr)) => state_at wr g ty dev _ st d _ (hp.below hb.out).e)
  have HRD := Aside0.mk (fun (wr : World) (hb : Aside0 (Below w.heap.size w wr)) => ready_at wr g ty dev _ st d _ (hp.below hb.out).e)
  have HDV := Aside0.mk (fun (wr : World) (hb : Aside0 (Below w.heap.size w wr)) => device_at wr g ty dev _ st d _ (hp.below hb.out).e)
  have HCEL := Aside0.mk (fun (wr : World) (hb : Below w.heap.size w wr) => (show wr.cell? ⟨h, 3, none⟩ = some (.int .i64 st) ∧ wr.cell? ⟨h, 4, none⟩ = some (.string d) from ⟨blk_cell (hp.below hb).r 3, blk_cell (hp.below hb).r 4⟩))
  clear hp hgr hCw hnc
  generalize hwl : wantL st gl = wl at *
  clear hwl
  have hwn := HWN.out
  clear HWN
  subst hwn
  rcases hd3 with hd3 | hd3
  · have h3 : st = 3 := by simpa using hd3
    rw [if_pos h3] at hv
    injection hv with e1 e2 e3
    subst e1 e2 e3
    clear h3
    go_enter Try.func43, Try.ntmps43
    go_wp2
    go_loopw [19] (fun i wr => ∃ f : Nat, f ≤ 6 ∧ i = .int .i64 f ∧ Aside0 (Below w.heap.size w wr)) (fun i _ => 6 - (intOf i).toNat)
    case atStart => exact ⟨0, Nat.zero_le _, rfl, ⟨Below.refl _ _⟩⟩
    case round =>
      obtain ⟨f, hf, rfl, HB⟩ := hrel
      by_cases hlt : f < 6
      · have hf0 : (0 : Int) ≤ (f : Int) := Int.natCast_nonneg f
        have hf6 : (f : Int) < 6 := by omega
        have hcv := conv35 (f : Int) hf0 (by omega)
        go_wp2
        go_loop [7, 24] (fun hv j => ∃ k : Nat, k ≤ wl.length ∧ j = .int .i64 k ∧ hv = .bool (hasK wl (f : Int) k)) (fun _ j => wl.length - (intOf j).toNat)
        case atStart => exact ⟨0, Nat.zero_le _, rfl, by simp [hasK]⟩
        case round =>
          obtain ⟨k, hk, rfl, rfl⟩ := hrel
          by_cases hlk : k < wl.length
          · obtain ⟨ad, e, hx⟩ := cell0 (Kd.C_below HW.out.1 HB.out) k hlk
            cases e
            have hk0 : (0 : Int) ≤ (k : Int) := Int.natCast_nonneg k
            have hkn := Int.ofNat_lt.2 hlk
            have hxr := HWR.out (rd wl k) (by rw [rd_get wl k hlk]; exact List.getElem_mem hlk)
            have hcv2 := conv53 (rd wl k) hxr.1 hxr.2
            have HS := Aside0.mk (hasK_succ wl (f : Int) k hlk)
            generalize hasK wl (f : Int) k = b at *
            cases b with
            | true =>
              go_wp2
              go_round
              case rel => exact ⟨k + 1, hlk, by go_num, by rw [HS.out]; rfl⟩
              case measure => simp [intOf]; omega
            | false =>
              go_wp2
              go_round
              case rel => exact ⟨k + 1, hlk, by go_num, by rw [HS.out]; rfl⟩
              case measure => simp [intOf]; omega
          · obtain rfl : k = wl.length := by omega
            have hHK := hasK_all wl (f : Int) hf0 (by omega) HWR.out
            rw [hHK]
            obtain ⟨b, hb⟩ : ∃ b, decide (0 ≤ at1 wl (f : Int)) = b := ⟨_, rfl⟩
            rw [hb]
            have HDB := Aside0.mk hb
            clear hHK hb
            cases b with
            | true =>
              go_wp2_with (go_at_call 64; go_must (refine (HHAS.out _ HB.out (f : Int)).mono ?_; rw [HDB.out]; rintro e w4 ⟨rfl, hb4⟩; have HB4 := Aside0.mk (HB.out.trans (hb4.mono HB.out.size)); clear hb4))
              go_roundw
              case rel => exact ⟨f + 1, hlt, by go_num, HB4⟩
              case measure => simp [intOf]; omega
            | false =>
              go_wp2_with (go_at_call 64; go_must (refine (HHAS.out _ HB.out (f : Int)).mono ?_; rw [HDB.out]; rintro e w4 ⟨rfl, hb4⟩; have HB4 := Aside0.mk (HB.out.trans (hb4.mono HB.out.size)); clear hb4))
              go_roundw
              case rel => exact ⟨f + 1, hlt, by go_num, HB4⟩
              case measure => simp [intOf]; omega
      · have hB0 : Aside0 (Below w.heap.size w wr.drew) := ⟨below_drew HB.out⟩
        obtain ⟨c3, c4⟩ := HCEL.out _ hB0.out
        obtain rfl : f = 6 := by omega
        go_wp2
        go_region_held3 (fun w' => w'.cell? ⟨h, 3, none⟩ = some (.int .i64 st) ∧ w'.cell? ⟨h, 4, none⟩ = some (.string d)) (first | assumption | go_keep) (first | (go_at_call 29; go_must (refine (HST.out _ (by assumption)).mono ?_; rintro e w5 ⟨rfl, rfl⟩)) | (go_at_call 31; go_must (refine (HRD.out _ (by assumption)).mono ?_; rintro e w5 ⟨rfl, rfl⟩)) | (go_at_call 36; go_must (refine (HDV.out _ (by assumption)).mono ?_; rintro e w5 ⟨rfl, rfl⟩)) | (go_at_call 32; go_must (refine (HFUN.out _ hB0.out).mono ?_; rintro e w5 ⟨v5, rfl, ho5, hb5⟩; have hB5 : Aside0 (Below w.heap.size w w5) := ⟨hB0.out.trans (hb5.mono hB0.out.size)⟩; obtain ⟨d3, d4⟩ := HCEL.out _ hB5.out; obtain ⟨A5, n5, c5, rfl, hc5, hC5, _⟩ := OwnB.open ho5; have HO5 := Aside0.mk (And.intro hc5 hC5); clear ho5 hb5 hc5 hC5)) | (go_at_call 37; go_must (refine (same_q _ _ _ _ _ _ _ wl HO5.out.2 HO5.out.1 (Kd.C_below HW.out.1 hB5.out) HW.out.2).mono ?_; rintro e w6 ⟨rfl, q6, rfl⟩; have hB6 : Aside0 (Below w.heap.size w (w5.drewN q6)) := ⟨pw_below_drewN hB5.out q6⟩; obtain ⟨g3, g4⟩ := HCEL.out _ hB6.out)))
        go_wp2
        go_ret
        exact ⟨rfl, hB6.out⟩
  · have h3 : ¬ st = 3 := by simpa using hd3
    rw [if_neg h3] at hv
    injection hv with e1 e2 e3
    subst e1 e3
    have hz0 : wl.length = 0 := e2.symm
    clear e2
    rw [hz0] at HW
    clear h3
    go_enter Try.func43, Try.ntmps43
    go_wp2
    go_loopw [19] (fun i wr => ∃ f : Nat, f ≤ 6 ∧ i = .int .i64 f ∧ Aside0 (Below w.heap.size w wr)) (fun i _ => 6 - (intOf i).toNat)
    case atStart => exact ⟨0, Nat.zero_le _, rfl, ⟨Below.refl _ _⟩⟩
    case round =>
      obtain ⟨f, hf, rfl, HB⟩ := hrel
      by_cases hlt : f < 6
      · have hf0 : (0 : Int) ≤ (f : Int) := Int.natCast_nonneg f
        have hf6 : (f : Int) < 6 := by omega
        have hcv := conv35 (f : Int) hf0 (by omega)
        go_wp2
        go_loop [7, 24] (fun hv j => ∃ k : Nat, k ≤ wl.length ∧ j = .int .i64 k ∧ hv = .bool (hasK wl (f : Int) k)) (fun _ j => wl.length - (intOf j).toNat)
        case atStart => exact ⟨0, Nat.zero_le _, rfl, by simp [hasK]⟩
        case round =>
          obtain ⟨k, hk, rfl, rfl⟩ := hrel
          · obtain rfl : k = 0 := by omega
            have hHK := hasK_all wl (f : Int) hf0 (by omega) HWR.out
            rw [hz0] at hHK
            rw [hHK]
            obtain ⟨b, hb⟩ : ∃ b, decide (0 ≤ at1 wl (f : Int)) = b := ⟨_, rfl⟩
            rw [hb]
            have HDB := Aside0.mk hb
            clear hHK hb
            cases b with
            | true =>
              go_wp2_with (go_at_call 64; go_must (refine (HHAS.out _ HB.out (f : Int)).mono ?_; rw [HDB.out]; rintro e w4 ⟨rfl, hb4⟩; have HB4 := Aside0.mk (HB.out.trans (hb4.mono HB.out.size)); clear hb4))
              go_roundw
              case rel => exact ⟨f + 1, hlt, by go_num, HB4⟩
              case measure => simp [intOf]; omega
            | false =>
              go_wp2_with (go_at_call 64; go_must (refine (HHAS.out _ HB.out (f : Int)).mono ?_; rw [HDB.out]; rintro e w4 ⟨rfl, hb4⟩; have HB4 := Aside0.mk (HB.out.trans (hb4.mono HB.out.size)); clear hb4))
              go_roundw
              case rel => exact ⟨f + 1, hlt, by go_num, HB4⟩
              case measure => simp [intOf]; omega
      · have hB0 : Aside0 (Below w.heap.size w wr.drew) := ⟨below_drew HB.out⟩
        obtain ⟨c3, c4⟩ := HCEL.out _ hB0.out
        obtain rfl : f = 6 := by omega
        go_wp2
        go_region_held3 (fun w' => w'.cell? ⟨h, 3, none⟩ = some (.int .i64 st) ∧ w'.cell? ⟨h, 4, none⟩ = some (.string d)) (first | assumption | go_keep) (first | (go_at_call 29; go_must (refine (HST.out _ (by assumption)).mono ?_; rintro e w5 ⟨rfl, rfl⟩)) | (go_at_call 31; go_must (refine (HRD.out _ (by assumption)).mono ?_; rintro e w5 ⟨rfl, rfl⟩)) | (go_at_call 36; go_must (refine (HDV.out _ (by assumption)).mono ?_; rintro e w5 ⟨rfl, rfl⟩)) | (go_at_call 32; go_must (refine (HFUN.out _ hB0.out).mono ?_; rintro e w5 ⟨v5, rfl, ho5, hb5⟩; have hB5 : Aside0 (Below w.heap.size w w5) := ⟨hB0.out.trans (hb5.mono hB0.out.size)⟩; obtain ⟨d3, d4⟩ := HCEL.out _ hB5.out; obtain ⟨A5, n5, c5, rfl, hc5, hC5, _⟩ := OwnB.open ho5; have HO5 := Aside0.mk (And.intro hc5 hC5); clear ho5 hb5 hc5 hC5)) | (go_at_call 37; go_must (refine (same_q _ _ _ _ _ _ _ wl HO5.out.2 HO5.out.1 (Kd.C_below HW.out.1 hB5.out) HW.out.2).mono ?_; rintro e w6 ⟨rfl, q6, rfl⟩; have hB6 : Aside0 (Below w.heap.size w (w5.drewN q6)) := ⟨pw_below_drewN hB5.out q6⟩; obtain ⟨g3, g4⟩ := HCEL.out _ hB6.out)))
        go_wp2
        go_ret
        exact ⟨rfl, hB6.out⟩
end Go.Proofs.Ytclpkbgjaiacpaa
