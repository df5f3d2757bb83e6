/- What is proved: All, as an iterator. Conditions: those that each theorem states. -/
import Derived.Test.YtclpkbgjaiacpaaTallyH
import Derived.Test.YtclpkbgjaiacpaaRangeR
import Derived.WalkSpells
import Derived.Deep.DeepMust
import Derived.Deep.RegionHeld3
import Derived.StillTactics
import Derived.RangeFuncBox
import Derived.RangeFuncLeaves
import Derived.RangeFuncNested
import Derived.RangeFuncCalls
import Derived.Shelf.Abstract
import Derived.OwnWalkIn
import Derived.TacticsInMore
import Derived.LoopNIn
import Derived.LoopIn
import Derived.Maps.AppendAt
namespace Go.Proofs.Ytclpkbgjaiacpaa
open Go.RowKit Go.Proofs.YtclpkbgjaiacpaaW.PrintWords Go.Proofs.YtclpkbgjaiacpaaW.PrintLast Go.Proofs.YtclpkbgjaiacpaaW.PrintMore
open Go.Proofs.Ytclpkbgjaiacpaa.PNegoAgrees
set_option linter.unusedVariables false
set_option linter.unusedSimpArgs false
/-! ### All, as an iterator -/
theorem own_fr {w w' : World} {S : Nat → Prop} {base : Nat} {e : TypeId} {size n : Nat} {v : Value} {xs : List Value} (h : w.ownsRow base e size v n xs) (hf : Fr S w w') (hs : ∀ b, v.ownBlock = some b → ¬ S b) : w'.ownsRow base e size v n xs := by
  refine ⟨h.1, ?_⟩
  rcases h.2 with h2 | ⟨g, cap, cur, rfl, h1, h2, h3⟩
  · exact .inl h2
  · exact .inr ⟨g, cap, cur, rfl, h1, (hf.block g (blk_lt h2) (hs g rfl)).trans h2, h3⟩
theorem own_ne {w : World} {base : Nat} {e : TypeId} {size n : Nat} {v : Value} {xs : List Value} (h : w.ownsRow base e size v n xs) {g : Nat} {cs : Array Value} {t : TypeId} (hg : w.heap[g]? = some (.cells cs t (0, 0))) (hne : e ≠ t) : v.ownBlock ≠ some g := by
  rcases h.2 with ⟨rfl, _⟩ | ⟨g', cap, cur, rfl, h1, h2, h3⟩
  · simp [Value.ownBlock]
  · intro e1
    have e2 : g' = g := by simpa [Value.ownBlock] using e1
    subst e2
    rw [h2] at hg
    simp at hg
    exact hne hg.2
theorem own_neT {w : World} {base : Nat} {size n : Nat} {v : Value} {l : List Value} (h : w.ownsRow base 9 size v n l) {g lb : Nat} {N : Option Addr} {cn : Nat} {ns : List ByteArray} {xs : List Int} (hT : Tal w g lb N cn ns xs) : v.ownBlock ≠ some g := by
  obtain ⟨d, mo, hB, _⟩ := hT.t
  exact own_ne h (t := 102) hB (by decide)
theorem t_get_g (w : World) (g lb : Nat) (N : Option Addr) (cn : Nat) (ns : List ByteArray) (xs : List Int) (s : ByteArray) (hT : Tal w g lb N cn ns xs) (hs : s.size ≤ 1000) (i : Nat) (hi : At ns s i) : Calls Try.prog 23 #[.pointer (some ⟨g, 0, none⟩), .string s] w fun e w' => e = .returned (.int .u64 (rd xs i)) ∧ Tal w' g lb N cn ns xs ∧ Fr (only g) w w' := by
  have HC := Aside0.mk (t_counter w g lb N cn ns xs hT s hs _ (.inr ⟨i, hi, rfl⟩))
  have HI := Aside0.mk hi.1
  clear hT hs hi
  go_enter Try.func23, Try.ntmps23
  go_wp2_with (first | (go_at_call 49; go_must (refine HC.out.mono ?_; rintro e w1 ⟨rfl, hT1, hf1⟩; have HX := Aside0.mk (And.intro hT1 hf1); clear hT1 hf1)) | (go_at_call 51; go_must (refine (a_load _ _ _ (HX.out.1.cell i HI.out).1).mono ?_; rintro e w2 ⟨rfl, rfl⟩)))
  go_ret
  exact ⟨rfl, HX.out.1, HX.out.2⟩
theorem namesO (w : World) (g lb : Nat) (N : Option Addr) (cn : Nat) (ns : List ByteArray) (xs : List Int) (hT : Tal w g lb N cn ns xs) : Calls Try.prog 24 #[.pointer (some ⟨g, 0, none⟩)] w fun e w' => ∃ v', e = .returned v' ∧ w'.ownsRow w.heap.size 9 1 v' ns.length (ns.map Value.string) ∧ Below w.heap.size w w' := by
  obtain ⟨d, mo, hB, _⟩ := hT.t
  have hc0 : w.cell? ⟨g, 0, none⟩ = some (.slice N ns.length cn) := blk_cell hB 0
  have HC : Aside0 (Calls Try.prog 47 #[.slice N ns.length cn] w fun e w' => ∃ v', e = .returned v' ∧ w'.ownsRow w.heap.size 9 1 v' ns.length (ns.map Value.string) ∧ Below w.heap.size w w') := ⟨by
    have h := hT.n
    have hn := hT.few
    cases N with
    | none =>
      have h0 : ns = [] := by
        rcases Nat.eq_zero_or_pos ns.length with h1 | h1
        · exact List.eq_nil_of_length_eq_zero h1
        · obtain ⟨ad, e, _⟩ := h.2.2 h1
          cases e
      subst h0
      refine (Try.slices_Clone_string_nil _ cn w).mono ?_
      rintro e w' ⟨rfl, rfl⟩
      exact ⟨_, rfl, World.ownsRow_nil _ _ _ _, Below.refl _ _⟩
    | some ad =>
      rcases Nat.eq_zero_or_pos ns.length with h1 | h1
      · have h0 : ns = [] := List.eq_nil_of_length_eq_zero h1
        subst h0
        refine (Try.slices_Clone_string_zero ad cn w).mono ?_
        rintro e w' ⟨v, rfl, ho, _, hb⟩
        exact ⟨_, rfl, ho, hb⟩
      · obtain ⟨ad', e, hx⟩ := strAt h 0 h1
        cases e
        obtain ⟨b, o, sp⟩ := ad
        have hs : sp = none := by simpa using World.cell?_spot (show w.cell? ⟨b, o, sp⟩ = _ from hx)
        subst hs
        refine (Try.slices_Clone_string b o ns.length cn ns w (Nat.le_refl _) (by omega) (fun j hj => ?_)).mono ?_
        · obtain ⟨ad', e, hx⟩ := strAt h j hj
          cases e
          rw [Addr.add_lit] at hx
          exact hx.trans (by simp [rdOf])
        · rintro e w' ⟨v, rfl, ho, _, hb⟩
          exact ⟨_, rfl, by simpa using ho, hb⟩⟩
  clear hT hB
  go_enter Try.func24, Try.ntmps24
  go_wp2_with (go_at_call 47; go_must (refine HC.out.mono ?_; rintro e w1 ⟨v, rfl, ho, hb⟩; obtain ⟨A1, c1, rfl⟩ := own_slice ho; have HX := Aside0.mk (And.intro ho hb); clear ho hb))
  go_ret
  exact ⟨_, rfl, HX.out.1, HX.out.2⟩
/-- A tally is kept where its own blocks are. -/
theorem Tal.keep {w w' : World} {g lb : Nat} {N : Option Addr} {cn : Nat} {ns : List ByteArray} {xs : List Int} (hT : Tal w g lb N cn ns xs)
    (hk : ∀ k o, w.heap[k]? = some o → (k = g ∨ k = lb ∨ (∃ es c, o = .map es c) ∨ (∃ ad, N = some ad ∧ 0 < ns.length ∧ k = ad.block)) → w'.heap[k]? = some o) : Tal w' g lb N cn ns xs := by
  obtain ⟨d, mo, hB, hor⟩ := hT.t
  refine ⟨⟨d, mo, hk _ _ hB (.inl rfl), ?_⟩, ?_, hk _ _ hT.c (.inr (.inl rfl)), hT.len, hT.few, hT.size⟩
  · rcases hor with h | ⟨h1, bm, h2, es, clock, hm, h3⟩
    · exact .inl h
    · exact .inr ⟨h1, bm, h2, es, clock, hk _ _ hm (.inr (.inr (.inl ⟨_, _, rfl⟩))), h3⟩
  · refine ⟨hT.n.1, hT.n.2.1, fun hn => ?_⟩
    obtain ⟨ad, he, hc⟩ := hT.n.2.2 hn
    refine ⟨ad, he, fun j p hj => ?_⟩
    obtain ⟨cs, h1, h2, h3⟩ := hc j p hj
    refine ⟨cs, h1, h2, fun i u hu => ?_⟩
    have h4 := h3 i u hu
    have hlt := World.block_lt_of_cell? w _ h4
    rw [← h4]
    refine World.cell?_of_block ?_
    rw [add_block] at hlt ⊢
    have h5 := hk ad.block w.heap[ad.block] (Array.getElem?_eq_getElem hlt) (.inr (.inr (.inr ⟨ad, he, hn, rfl⟩)))
    rw [h5, Array.getElem?_eq_getElem hlt]
def cntL (ns : List ByteArray) (xs : List Int) : List (ByteArray × Int) := (List.range ns.length).map fun (i : Nat) => (rdOf ByteArray.empty ns (i : Int), rd xs (i : Int))
theorem cntL_len (ns : List ByteArray) (xs : List Int) : (cntL ns xs).length = ns.length := by simp [cntL]
theorem cntL_take (ns : List ByteArray) (xs : List Int) (k : Nat) (h : k < ns.length) : (cntL ns xs).take (k + 1) = (cntL ns xs).take k ++ [(rdOf ByteArray.empty ns (k : Int), rd xs (k : Int))] := by
  rw [List.take_succ_eq_append_getElem (by rw [cntL_len]; exact h)]
  simp [cntL]
theorem at_self {ns : List ByteArray} (hn : ns.Nodup) (k : Nat) (hk : k < ns.length) : At ns (rdOf ByteArray.empty ns (k : Int)) k := by
  refine ⟨hk, rfl, fun j hj hne e => ?_⟩
  have e3 : ns[j] = ns[k] := by simpa [rdOf, hj, hk] using e
  rcases Nat.lt_trichotomy k j with h1 | h1 | h1
  · exact (List.pairwise_iff_getElem.1 hn) k j hk hj h1 e3.symm
  · omega
  · exact (List.pairwise_iff_getElem.1 hn) j k hj hk h1 e3
/-- Which element comes behind which. -/
def CntT (ns : List ByteArray) (xs : List Int) (pre : List (ByteArray × Int)) (x : ByteArray × Int) : Prop := ∃ k : Nat, k < ns.length ∧ pre = (cntL ns xs).take k ∧ x = (rdOf ByteArray.empty ns (k : Int), rd xs (k : Int))
theorem CntT.lt {ns : List ByteArray} {xs : List Int} {pre : List (ByteArray × Int)} {x : ByteArray × Int} (h : CntT ns xs pre x) : pre.length < ns.length := by
  obtain ⟨k, hk, rfl, _⟩ := h
  rw [List.length_take]; omega
/-- A call writes a tally's own struct, nothing else. -/
def FrT (g : Nat) (A A' : World) : Prop := Fr (only g) A A' ∧ ∃ cs, A.heap[g]? = some (.cells cs 102 (0, 0))
theorem Tal.cells {w : World} {g lb : Nat} {N : Option Addr} {cn : Nat} {ns : List ByteArray} {xs : List Int} (hT : Tal w g lb N cn ns xs) : ∃ cs, w.heap[g]? = some (.cells cs 102 (0, 0)) := by
  obtain ⟨d, mo, hB, _⟩ := hT.t
  exact ⟨_, hB⟩
def encC (x : ByteArray × Int) : Array Value := #[.string x.1, .int .u64 x.2]
/-- What a round must keep for the iterator's sake. -/
structure KpOk (Kp : World → World → Prop) (g lb : Nat) (N : Option Addr) (cn : Nat) (ns : List ByteArray) (xs : List Int) (B base : Nat) : Prop where
  tal : ∀ A A', Kp A A' → Tal A g lb N cn ns xs → Tal A' g lb N cn ns xs
  box : ∀ A A' v, Kp A A' → Boxed A B 26 (.pointer v) → Boxed A' B 26 (.pointer v)
  row : ∀ A A' b v m l, Kp A A' → base ≤ b → A.ownsRow b 9 1 v m l → A'.ownsRow b 9 1 v m l
section iter
attribute [local go_sem] Oper.semAt_some
open Go.Shelf
set_option maxRecDepth 100000 in
set_option maxHeartbeats 2000000 in
theorem all1_in (n : Nat) (hn : 1 ≤ n) (l B g lb : Nat) (N : Option Addr) (cn : Nat) (ns : List ByteArray) (xs : List Int) (hnd : ns.Nodup) (Kp : World → World → Prop) (base : Nat) (hKp : KpOk Kp g lb N cn ns xs B base) (J Jx : List (ByteArray × Int) → World → Prop)
    (hJ : ∀ s A A', FrT g A A' → J s A → J s A') (hJx : ∀ s A A', FrT g A A' → Jx s A → Jx s A')
    (hY : ∀ pre x W, J pre W → CntT ns xs pre x → YieldAt Fence.wide (n - 1) Try.prog l (encC x) W fun e W' =>
      (e = .returned (.bool true) ∧ J (pre ++ [x]) W' ∧ Kp W W') ∨ (e = .returned (.bool false) ∧ Jx (pre ++ [x]) W' ∧ Kp W W'))
    (W : World) (hB0 : Boxed W B 26 (.pointer (some ⟨g, 0, none⟩))) (hT : Tal W g lb N cn ns xs) (hbase : base ≤ W.heap.size) (h0 : J [] W) :
    CallsIn Fence.wide n Try.prog 68 #[.func (.yield l) #[] #[], .pointer (some ⟨B, 0, none⟩)] W fun e W' => (∃ v, e = .returned v) ∧
      ((∃ ys, (ys = cntL ns xs ∧ Tal W' g lb N cn ns xs) ∧ J ys W') ∨ (∃ pre, ((∃ k, pre = (cntL ns xs).take k) ∧ Tal W' g lb N cn ns xs) ∧ Jx pre W')) := by
  have hB := hB0.cell
  have HBX := Aside0.mk hB0
  clear hB0
  have hBg : B ≠ g := by
    rintro rfl
    obtain ⟨d, mo, hB2, _⟩ := hT.t
    have := (blk_cell hB2 0).symm.trans hB
    simp at this
  have HBG := Aside0.mk hBg
  have HT := Aside0.mk hT
  have HY := Aside0.mk hY
  have HK := Aside0.mk hKp
  have HJ := Aside0.mk hJ
  have HJX := Aside0.mk hJx
  have HND := Aside0.mk hnd
  have HBASE := Aside0.mk hbase
  have H0 := Aside0.mk h0
  have hn1000 : ns.length ≤ 1000 := hT.few
  have hro : Fence.wide.round = none := rfl
  have h24 : Fence.wide.fn 24 := trivial
  have h23 : Fence.wide.fn 23 := trivial
  clear hT hY hKp hJ hJx hnd hbase h0 hBg
  refine callsIn_of_wp Try.func68 rfl trivial ?_ hro
  simp only [Try.ntmps68, List.size_toArray, List.length_cons, List.length_nil, Nat.reduceAdd, Nat.reduceSub, Array.replicate_succ, Array.replicate_zero, List.push_toArray, List.append_toArray, List.nil_append, List.cons_append]
  gi_wp2_with (gi_at_call 24; refine (callsIn_wide.2 (namesO W g lb N cn ns xs HT.out)).mono ?_; rintro e w1 ⟨v, rfl, ho, hb⟩; obtain ⟨A1, c1, rfl⟩ := own_slice ho; have HO := Aside0.mk ho; have HB1 := Aside0.mk hb; clear ho hb)
  have HBox := Aside0.mk (show Boxed w1 B 26 (.pointer (some ⟨g, 0, none⟩)) from (HB1.out.block B HBX.out.lt).trans HBX.out)
  clear hB
  gi_loopw [8] (fun i wr => ∃ k : Nat, k ≤ ns.length ∧ i = .int .i64 k ∧ Aside0 (J ((cntL ns xs).take k) wr) ∧ Aside0 (Tal wr g lb N cn ns xs) ∧ Aside0 (wr.ownsRow W.heap.size 9 1 (.slice A1 ns.length c1) ns.length (ns.map Value.string)) ∧ Aside0 (Boxed wr B 26 (.pointer (some ⟨g, 0, none⟩))))
    (fun i _ => ns.length - (intOf i).toNat)
  case atStart => exact ⟨0, Nat.zero_le _, rfl, ⟨HJ.out _ _ _ ⟨Fr.of_below HB1.out, HT.out.cells⟩ H0.out⟩, ⟨HT.out.below HB1.out⟩, HO, HBox⟩
  case round =>
    obtain ⟨k, hk, rfl, hJk, hTk, hOk, hBk⟩ := hrel
    by_cases hlt : k < ns.length
    · obtain ⟨ad, e, hx⟩ := strAt (own_kd hOk.out rfl) k hlt
      subst e
      have hbx := hBk.out.cell
      have hk0 : (0 : Int) ≤ (k : Int) := Int.natCast_nonneg k
      have hk1 : (k : Int) < (ns.length : Int) := Int.ofNat_lt.2 hlt
      have hsz : (rdOf ByteArray.empty ns (k : Int)).size ≤ 1000 := hTk.out.size _ (by simp [rdOf, hlt])
      have HSZ := Aside0.mk hsz
      clear hsz
      gi_wp2_with (gi_at_call 23; refine (callsIn_wide.2 (t_get_g wr g lb N cn ns xs _ hTk.out HSZ.out k (at_self HND.out k hlt))).mono ?_; rintro e w2 ⟨rfl, hT2, hf2⟩; obtain ⟨fn, tmps, assign, body, hy, hR⟩ := HY.out _ (rdOf ByteArray.empty ns (k : Int), rd xs (k : Int)) w2 (HJ.out _ _ _ ⟨hf2, hTk.out.cells⟩ hJk.out) ⟨k, hlt, rfl, rfl⟩; have HT2 := Aside0.mk hT2; have HF2 := Aside0.mk hf2; have HR := Aside0.mk hR; unfold encC at hy; clear hT2 hf2 hR)
      refine HR.out.mono ?_
      have HO2 := Aside0.mk (show World.ownsRow w2 W.heap.size 9 1 (.slice (some ad) ns.length c1) ns.length (ns.map Value.string) from own_fr hOk.out HF2.out (fun b hb h => own_neT hOk.out hTk.out (hb.trans (congrArg some h))))
      have HB2 := Aside0.mk (show Boxed w2 B 26 (.pointer (some ⟨g, 0, none⟩)) from (HF2.out.block B hBk.out.lt HBG.out).trans hBk.out)
      rintro e W3 (⟨rfl, hJ3, hk3⟩ | ⟨rfl, hJx3, hk3⟩)
      · have HJ3 := Aside0.mk hJ3
        have HK3 := Aside0.mk hk3
        clear hJ3 hk3
        gi_wp2
        go_roundw
        case rel => exact ⟨k + 1, hlt, by go_num, ⟨by rw [cntL_take ns xs k hlt]; exact HJ3.out⟩, ⟨HK.out.tal _ _ HK3.out HT2.out⟩, ⟨HK.out.row _ _ _ _ _ _ HK3.out HBASE.out HO2.out⟩, ⟨HK.out.box _ _ _ HK3.out HB2.out⟩⟩
        case measure => simp [intOf]; omega
      · have HJ3 := Aside0.mk hJx3
        have HK3 := Aside0.mk hk3
        clear hJx3 hk3
        gi_wp2
        refine bodyPost_ret (results_none rfl _ _ _) rfl ?_
        exact ⟨⟨_, rfl⟩, .inr ⟨_, ⟨⟨k + 1, (cntL_take ns xs k hlt).symm⟩, HK.out.tal _ _ HK3.out HT2.out⟩, HJ3.out⟩⟩
    · have hke : k = ns.length := by omega
      have hJf := Aside0.mk (show J (cntL ns xs) wr by have h := hJk.out; rw [hke, List.take_of_length_le (by rw [cntL_len]; exact Nat.le_refl _)] at h; exact h)
      clear hke
      gi_wp2
      go_end0
      exact ⟨⟨_, rfl⟩, .inl ⟨_, ⟨rfl, hTk.out⟩, hJf.out⟩⟩
end iter
end Go.Proofs.Ytclpkbgjaiacpaa
