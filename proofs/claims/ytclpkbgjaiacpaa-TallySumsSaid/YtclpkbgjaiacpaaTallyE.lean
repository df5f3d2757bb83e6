/- What is proved: iterators over strings. Conditions: those that each theorem states. -/
import Derived.Test.YtclpkbgjaiacpaaTallyC
import Derived.WalkSpells
import Derived.Deep.DeepMust
import Derived.Deep.RegionHeld3
import Derived.StillTactics
import Derived.RangeFuncBox
import Derived.RangeFuncLeaves
import Derived.RangeFuncNested
import Derived.Shelf.Abstract
import Derived.OwnWalkIn
import Derived.TacticsInMore
import Derived.LoopNIn
import Derived.LoopIn
import Derived.Maps.AppendAt
namespace Go.Proofs.Ytclpkbgjaiacpaa
open Go.RowKit Go.Proofs.YtclpkbgjaiacpaaW.PrintWords Go.Proofs.YtclpkbgjaiacpaaW.PrintLast Go.Proofs.YtclpkbgjaiacpaaW.PrintMore
open Go.Proofs.Ytclpkbgjaiacpaa.PNegoAgrees
set_option linter.unusedVariables false
set_option linter.unusedSimpArgs false
/-! ### slices.Values, Collect, Sorted of strings -/
theorem info9 : (Try.prog.info? 9).map (fun i => (i.zero, i.size, i.bytes)) = some (some (.string ByteArray.empty), 1, 16) := by kernel_rfl
section iter
attribute [local go_sem] Oper.semAt_some
open Go.Shelf
theorem Fr.of_from {n₀ : Nat} {w w1 : World} (h : Below n₀ w w1) : Fr (fun k => n₀ ≤ k) w w1 := ⟨h.os, h.tape, h.output, h.size, fun k _ hn => h.block k (by omega)⟩
theorem take_rd (l : List ByteArray) (k : Nat) (h : k < l.length) : l.take (k + 1) = l.take k ++ [rdOf ByteArray.empty l (k : Int)] := by
  rw [List.take_succ_eq_append_getElem h]
  simp [rdOf, h]
set_option maxRecDepth 100000 in
set_option maxHeartbeats 2000000 in
theorem vals1_in (F : Fence) (n : Nat) (h7 : F.fn 67) (hro : F.round = none) (hn : 1 ≤ n) (l Bs n₀ : Nat) (A : Option Addr) (len cap : Nat) (zs : List ByteArray) (hm : len ≤ 140737488355328) (hb : ∀ ad, A = some ad → 0 < len → ad.block < n₀) (J Jx : List ByteArray → World → Prop)
    (hY : ∀ pre x W, J pre W → pre.length < len → YieldAt F (n - 1) Try.prog l #[.string x] W fun e W' =>
      (e = .returned (.bool true) ∧ J (pre ++ [x]) W' ∧ Below n₀ W W') ∨ (e = .returned (.bool false) ∧ Jx (pre ++ [x]) W'))
    (W : World) (hBs : W.cell? ⟨Bs, 0, none⟩ = some (.slice A len cap)) (hC : Kd.C Kd.string W A len zs) (h0 : J [] W) :
    CallsIn F n Try.prog 67 #[.func (.yield l) #[] #[], .pointer (some ⟨Bs, 0, none⟩)] W fun e W' => (∃ v, e = .returned v) ∧
      ((∃ ys, ys = zs ∧ J ys W') ∨ (∃ pre, True ∧ Jx pre W')) := by
  have HC := Aside0.mk hC
  have HB := Aside0.mk hb
  have HY := Aside0.mk hY
  have hlen : zs.length = len := hC.1
  have HLEN := Aside0.mk hlen
  clear hC hb hY hlen
  refine callsIn_of_wp Try.func67 rfl h7 ?_ hro
  simp only [Try.ntmps67, List.size_toArray, List.length_cons, List.length_nil, Nat.reduceAdd, Nat.reduceSub, Array.replicate_succ, Array.replicate_zero, List.push_toArray, List.append_toArray, List.nil_append, List.cons_append]
  gi_wp2
  gi_loopw [7] (fun i wr => ∃ k : Nat, k ≤ len ∧ i = .int .i64 k ∧ Aside0 (J (zs.take k) wr) ∧ Aside0 (Below n₀ W wr))
    (fun i _ => len - (intOf i).toNat)
  case atStart => exact ⟨0, Nat.zero_le _, rfl, ⟨h0⟩, ⟨Below.refl _ _⟩⟩
  case round =>
    obtain ⟨k, hk, rfl, hJs, hnx⟩ := hrel
    by_cases hlt : k < len
    · have hC2 := CS_fr HC.out (Fr.of_from hnx.out) (fun ad e hp hS => by have := HB.out ad e hp; omega)
      obtain ⟨ad, e, hx⟩ := strAt hC2 k hlt
      subst e
      clear hC2
      obtain ⟨fn, tmps, assign, body, hy, hR⟩ := HY.out _ (rdOf ByteArray.empty zs (k : Int)) wr hJs.out (by rw [List.length_take]; omega)
      have hk0 : (0 : Int) ≤ (k : Int) := Int.natCast_nonneg k
      have hk1 : (k : Int) < (len : Int) := Int.ofNat_lt.2 hlt
      gi_wp2
      refine hR.mono ?_
      rintro e W3 (⟨rfl, hJ3, hk3⟩ | ⟨rfl, hJx3⟩)
      · have HJ3 := Aside0.mk hJ3
        have HK3 := Aside0.mk (hnx.out.trans hk3)
        clear hJ3 hk3 hJs hnx
        gi_wp2
        go_roundw
        case rel => exact ⟨k + 1, hlt, by go_num, ⟨by rw [take_rd zs k (by have := HLEN.out; omega)]; exact HJ3.out⟩, HK3⟩
        case measure => simp [intOf]; omega
      · have HJ3 := Aside0.mk hJx3
        clear hJx3
        gi_wp2
        refine bodyPost_ret (results_none rfl _ _ _) rfl ?_
        exact ⟨⟨_, rfl⟩, .inr ⟨_, trivial, HJ3.out⟩⟩
    · have hke : k = len := by omega
      have hJf := Aside0.mk (show J zs wr by have h := hJs.out; rw [hke, ← HLEN.out, List.take_length] at h; exact h)
      clear hJs hke
      gi_wp2
      go_end0
      exact ⟨⟨_, rfl⟩, .inl ⟨_, rfl, hJf.out⟩⟩

/-- slices.Values(v) hands back a value that SeqStopsK. -/
theorem vals_stops (F : Fence) (n : Nat) (h7 : F.fn 67) (hro : F.round = none) (hn : 1 ≤ n) (Bs n₀ : Nat) (A : Option Addr) (len cap : Nat) (zs : List ByteArray) (hm : len ≤ 140737488355328) (w : World) (hBs : Bs < w.heap.size) (hn₀ : n₀ ≤ w.heap.size)
    (hb : ∀ ad, A = some ad → 0 < len → ad.block < n₀) (hc : w.cell? ⟨Bs, 0, none⟩ = some (.slice A len cap)) (hC : Kd.C Kd.string w A len zs) :
    SeqStopsK F n Try.prog 67 #[.pointer (some ⟨Bs, 0, none⟩)] (fun x : ByteArray => #[Value.string x]) (Below n₀) (fun ys => ys = zs) (fun _ => True) len w := fun l J Jx W hW _ _ hY h0 =>
  vals1_in F n h7 hro hn l Bs n₀ A len cap zs hm hb J Jx hY W ((hW.cell (p := ⟨Bs, 0, none⟩) hBs).trans hc) (Kd.C_below hC hW) h0

set_option maxRecDepth 100000 in
set_option maxHeartbeats 2000000 in
/-- slices.AppendSeq(nil, seq). -/
theorem appSeqS_in (F : Fence) (n : Nat) (h3 : F.fn 82) (h5 : F.fn 67) (hro : F.round = none) (hn : 3 ≤ n) (Bs : Nat) (A : Option Addr) (len cap : Nat) (zs : List ByteArray) (hm : len ≤ 1000000) (w : World) (hBs : Bs < w.heap.size)
    (hc : w.cell? ⟨Bs, 0, none⟩ = some (.slice A len cap)) (hC : Kd.C Kd.string w A len zs) :
    CallsIn F n Try.prog 82 #[.slice none 0 0, .func (.func 67) #[] #[.pointer (some ⟨Bs, 0, none⟩)]] w fun e W' => ∃ v, e = .returned v ∧ W'.ownsRow w.heap.size 9 1 v zs.length (zs.map (Value.string)) ∧ Below w.heap.size w W' := by
  have h1 : 1 ≤ n := by omega
  have hlen : zs.length = len := hC.1
  have hbl : ∀ ad, A = some ad → 0 < len → ad.block < w.heap.size := by
    rintro ad rfl hp
    obtain ⟨ad', e, hx⟩ := strAt hC 0 hp
    cases e
    exact World.block_lt_of_cell? w ad hx
  obtain ⟨i0, hi, hz0, hz1, hz2⟩ := info_parts info9
  refine callsIn_of_wp_marks Try.func82 rfl h3 ?_ hro
  simp only [Try.ntmps82, List.size_toArray, List.length_cons, List.length_nil, Nat.reduceAdd, Nat.reduceSub, Array.replicate_succ, Array.replicate_zero, List.push_toArray, List.append_toArray, List.nil_append, List.cons_append]
  gi_wp2
  have bO := Boxed.new w 22 (.slice none 0 0)
  have hB0 : Below w.heap.size w (w.alloc (.cells #[.slice none 0 0] 22)) := ((Below.refl _ w).alloc (Nat.le_refl _) _)
  refine wpIn_rangeFunc_ownG hro h1 (gf := 67) (lb := #[.pointer (some ⟨Bs, 0, none⟩)]) rfl h5 (enters_of Try.func67 (by kernel_rfl) rfl)
    (vals_stops F (n - 1) h5 hro (by omega) Bs w.heap.size A len cap zs (by omega) _ (by simp; omega) (by simp) hbl ((hB0.cell (p := ⟨Bs, 0, none⟩) hBs).trans hc) (Kd.C_alloc hC _)) belowK_t (belowK_b (by simp)) (Below.refl _ _) (fun _ => rfl)
    (fun (pre : List ByteArray) W => (∃ v, Boxed W w.heap.size 22 v ∧ W.ownsRow w.heap.size 9 1 v pre.length (pre.map (Value.string)) ∧ True) ∧ Below w.heap.size w W)
    (fun _ _ _ => False)
    (OwnFrom.and (Own.from (holdsRow_own w.heap.size w.heap.size 22 9 1 (fun (pre : List ByteArray) => pre.length) (fun (pre : List ByteArray) => pre.map (Value.string)) (fun (pre : List ByteArray) v => True)) _) (ownFrom_below (Nat.le_refl _) (by simp)))
    (fun _ _ _ _ _ hs _ _ => hs)
    ⟨⟨_, bO, World.ownsRow_nil _ _ _ _, trivial⟩, hB0⟩
    (fun x => { tmps := #[.slice none 0 0, .func (.func 67) #[] #[.pointer (some ⟨Bs, 0, none⟩)], .pointer (some ⟨w.heap.size, 0, none⟩), undef, .slice none 0 0, .string x, .func (.func 67) #[] #[.pointer (some ⟨Bs, 0, none⟩)], .string x, undef, undef, undef, undef, undef], defers := [] }) ?assign ?body ?done ?stop
  case assign =>
    intro l x W K hK
    gi_wp2
    exact hK
  case body =>
    rintro l pre x W ⟨⟨v, hv, hrow, _⟩, hB⟩ hlt
    have hc := hv.cell
    gi_wp2_with (gi_at_builtin; refine wpListIn_append_own _ rfl _ _ 22 rfl w.heap.size 9 i0 (.string ByteArray.empty) 1 16 Try.underlying22 hi hz0 hz1 hz2 rfl (by decide) _ _ _ rfl (hrow.alloc _) ⟨W.heap.size, 0, none⟩ 1 1 [.string x] rfl rfl (cell_one_new _ _ _) (by simp [Value.oneCell']) (by simp only [maxLen]; omega) (by omega) (by have := hB.size; simp; omega) ?_; intro v' w1 hown' hgrow _; obtain ⟨g', cap', rfl⟩ := ownsRow_succ hown'; obtain ⟨hv1, hv2, hr2, hk2, hb2⟩ := hv.appended (by decide) hrow hB.size (Nat.le_refl _) hown' hgrow; have hc1 := hv1.cell; have hf1 := hv1.frozen)
    exact ⟨hk2.from _, hb2, ⟨_, hv2, by simpa using hr2, trivial⟩, hB.trans hb2⟩
  case done =>
    rintro D ys W hD rfl ⟨⟨v, hv, hrow, _⟩, hB⟩ hK
    have hc := hv.cell
    gi_wp2
    refine ⟨by simp, .inl ⟨_, _, rfl, run_takeDeferred hK, ?_⟩⟩
    exact ⟨_, results_tmp rfl _ _ _, v, rfl, ownsRow_putObj hrow _ hK rfl, hB.trans (belowK_b (w := w) (Nat.le_refl _) W D _ _ (by simp at hD; omega) hK rfl rfl)⟩
  case stop =>
    rintro D c pre W _ _ h _
    exact h.elim
end iter
end Go.Proofs.Ytclpkbgjaiacpaa
