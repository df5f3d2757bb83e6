/- What is proved: tally.New. Conditions: those that each theorem states. -/
import Derived.Test.YtclpkbgjaiacpaaTallyD
import Derived.Test.YtclpkbgjaiacpaaTallyE
import Derived.Sort.OwnSorted
import Derived.WalkLawsBesides
namespace Go.Proofs.Ytclpkbgjaiacpaa
open Go.RowKit Go.Sort Go.Proofs.YtclpkbgjaiacpaaW.PrintWords Go.Proofs.YtclpkbgjaiacpaaW.PrintLast Go.Proofs.YtclpkbgjaiacpaaW.PrintMore
open Go.Proofs.Ytclpkbgjaiacpaa.PNegoAgrees
set_option linter.unusedVariables false
set_option linter.unusedSimpArgs false
/-! ### Sorted, Clone, Compact of strings -/
def blist (s : ByteArray) : List UInt8 := s.data.toList
def sortB (ns : List ByteArray) : List (List UInt8) := (ns.map blist).mergeSort fun x y => decide (x ≤ y)
def sortN (ns : List ByteArray) : List ByteArray := (sortB ns).map fun l => ⟨l.toArray⟩
theorem enc_blist (ns : List ByteArray) : (ns.map blist).map encStr = ns.map Value.string := by
  rw [List.map_map]
  apply List.map_congr_left
  intro s _
  simp [blist, encStr]
theorem enc_sort (ns : List ByteArray) : (sortB ns).map encStr = (sortN ns).map Value.string := by
  unfold sortN
  rw [List.map_map]
  apply List.map_congr_left
  intro s _
  simp [encStr]
theorem sortB_len (ns : List ByteArray) : (sortB ns).length = ns.length := by simp [sortB]
theorem sortN_len (ns : List ByteArray) : (sortN ns).length = ns.length := by simp [sortN, sortB_len]
theorem blist_sortN (ns : List ByteArray) : (sortN ns).map blist = sortB ns := by
  unfold sortN
  rw [List.map_map]
  conv => rhs; rw [← List.map_id (sortB ns)]
  apply List.map_congr_left
  intro s _
  simp [blist]
theorem own_slice {w : World} {base : Nat} {e : TypeId} {size n : Nat} {v : Value} {xs : List Value} (h : w.ownsRow base e size v n xs) : ∃ A c, v = .slice A n c := by
  rcases h.2 with ⟨rfl, rfl⟩ | ⟨g, cap, cur, rfl, _⟩
  · exact ⟨_, _, rfl⟩
  · exact ⟨_, _, rfl⟩
theorem own_pos {w : World} {base : Nat} {e : TypeId} {size n : Nat} {v : Value} {xs : List Value} (h : w.ownsRow base e size v n xs) (hn : 0 < n) :
    ∃ g cap cur, v = .slice (some ⟨g, 0, none⟩) n cap ∧ base ≤ g ∧ w.heap[g]? = some (.cells cur e (0, 0)) ∧ n ≤ cap ∧ cap ≤ maxLen ∧ cur.size = cap * size ∧ cur.toList.take (n * size) = xs := by
  rcases h.2 with ⟨rfl, rfl⟩ | ⟨g, cap, cur, rfl, h1, h2, h3, h4, h5, h6⟩
  · omega
  · exact ⟨g, cap, cur, rfl, h1, h2, h3, h4, h5, h6⟩
theorem collectS (w : World) (Bs : Nat) (A : Option Addr) (n c : Nat) (ns : List ByteArray) (hm : n ≤ 1000000) (hBs : Bs < w.heap.size)
    (hc : w.cell? ⟨Bs, 0, none⟩ = some (.slice A n c)) (hC : Kd.C Kd.string w A n ns) :
    Calls Try.prog 65 #[.func (.func 67) #[] #[.pointer (some ⟨Bs, 0, none⟩)]] w fun e w' => ∃ v, e = .returned v ∧ w'.ownsRow w.heap.size 9 1 v ns.length (ns.map Value.string) ∧ Below w.heap.size w w' := by
  have HA := Aside0.mk (callsIn_wide.1 (appSeqS_in Fence.wide 3 trivial trivial rfl (Nat.le_refl _) Bs A n c ns hm w hBs hc hC))
  clear hm hBs hc hC
  go_enter Try.func65, Try.ntmps65
  go_wp2_with (go_at_call 82; go_must (refine HA.out.mono ?_; rintro e w1 ⟨v, rfl, ho, hb⟩; obtain ⟨A1, c1, rfl⟩ := own_slice ho; have HO := Aside0.mk ho; have HB := Aside0.mk hb; clear ho hb))
  go_ret
  exact ⟨_, rfl, HO.out, HB.out⟩
theorem sortS (w : World) (base : Nat) (v : Value) (ns : List ByteArray) (h : w.ownsRow base 9 1 v ns.length (ns.map Value.string)) (hl : ns.length ≤ 1000000) :
    Calls Try.prog 66 #[v] w fun e w' => e = .returned (.tuple #[]) ∧ w'.ownsRow base 9 1 v ns.length ((sortN ns).map Value.string) ∧ w.grownBy w' v.ownBlock := by
  rcases Nat.eq_zero_or_pos ns.length with h0 | h0
  · have hn : ns = [] := List.eq_nil_of_length_eq_zero h0
    subst hn
    obtain ⟨A, c, rfl⟩ := own_slice h
    refine (Try.slices_Sort_string_none A c w).mono ?_
    rintro e w' ⟨rfl, rfl⟩
    exact ⟨rfl, by rw [show sortN [] = [] from by simp [sortN, sortB]]; exact h, World.grownBy.refl _ _⟩
  · obtain ⟨g, cap, cur, rfl, hbase, hb, h1, h2, h3, h4⟩ := own_pos h h0
    have hH : Holds encStr w g 0 (ns.map blist).toArray := holds_of_block hb (by rw [enc_blist]; simpa using h4)
    have hS := Try.slices_Sort_string g 0 cap (ns.map blist) w hH (Array.getElem?_eq_some_iff.1 hb).1 (by simp; omega)
    rw [List.length_map] at hS
    refine hS.mono ?_
    rintro e w' ⟨rfl, nn, os, rfl⟩
    have h5 := ownsRow_sorted (w := w) (n := nn) (os := os) (ss := ns.map blist) (ts := sortB ns) (by simp [sortB]) hbase hb (by simpa using h1) h2 h3
    rw [enc_sort] at h5
    simp only [List.length_map] at h5
    exact ⟨rfl, h5, grownBy_sorted _⟩
theorem sortedS (w : World) (Bs : Nat) (A : Option Addr) (n c : Nat) (ns : List ByteArray) (hm : n ≤ 1000000) (hBs : Bs < w.heap.size)
    (hc : w.cell? ⟨Bs, 0, none⟩ = some (.slice A n c)) (hC : Kd.C Kd.string w A n ns) :
    Calls Try.prog 44 #[.func (.func 67) #[] #[.pointer (some ⟨Bs, 0, none⟩)]] w fun e w' => ∃ v, e = .returned v ∧ w'.ownsRow w.heap.size 9 1 v ns.length ((sortN ns).map Value.string) ∧ Below w.heap.size w w' := by
  obtain rfl : ns.length = n := hC.1
  have HM := Aside0.mk hm
  have HA := Aside0.mk (collectS w Bs A _ c ns hm hBs hc hC)
  clear hm hBs hc hC
  go_enter Try.func44, Try.ntmps44
  go_wp2_with (first | (go_at_call 65; go_must (refine HA.out.mono ?_; rintro e w1 ⟨v, rfl, ho, hb⟩; obtain ⟨A1, c1, rfl⟩ := own_slice ho; have HO := Aside0.mk ho; have HB := Aside0.mk hb; clear ho hb)) | (go_at_call 66; go_must (refine (sortS w1 w.heap.size _ ns HO.out HM.out).mono ?_; rintro e w2 ⟨rfl, ho2, hg2⟩; have HO2 := Aside0.mk ho2; have HB2 := Aside0.mk (HB.out.grown hg2 HB.out.size (fun j hj => (HO.out.lt j hj).1)); clear ho2 hg2)))
  go_ret
  exact ⟨_, rfl, HO2.out, HB2.out⟩
theorem cloneO (w : World) (base : Nat) (v : Value) (ns : List ByteArray) (h : w.ownsRow base 9 1 v ns.length (ns.map Value.string)) (hn : ns.length ≤ 1000) :
    Calls Try.prog 47 #[v] w fun e w' => ∃ v', e = .returned v' ∧ w'.ownsRow w.heap.size 9 1 v' ns.length (ns.map Value.string) ∧ Below w.heap.size w w' := by
  rcases Nat.eq_zero_or_pos ns.length with h0 | h0
  · have h1 : ns = [] := List.eq_nil_of_length_eq_zero h0
    subst h1
    rcases h.2 with ⟨rfl, _⟩ | ⟨g, cap, cur, rfl, _⟩
    · refine (Try.slices_Clone_string_nil _ _ w).mono ?_
      rintro e w' ⟨rfl, rfl⟩
      exact ⟨_, rfl, World.ownsRow_nil _ _ _ _, Below.refl _ _⟩
    · refine (Try.slices_Clone_string_zero _ _ w).mono ?_
      rintro e w' ⟨v, rfl, ho, _, hb⟩
      exact ⟨_, rfl, ho, hb⟩
  · obtain ⟨g, cap, cur, rfl, hbase, hb, h1, h2, h3, h4⟩ := own_pos h h0
    refine (Try.slices_Clone_string g 0 ns.length cap ns w (Nat.le_refl _) (by omega) (fun j hj => ?_)).mono ?_
    · have h5 := h.cellAt j (by omega)
      rw [Nat.zero_add]
      refine h5.trans ?_
      simp [hj]
    · rintro e w' ⟨v, rfl, ho, _, hb2⟩
      exact ⟨_, rfl, by simpa using ho, hb2⟩
theorem compactO (w : World) (base : Nat) (v : Value) (ns : List ByteArray) (h : w.ownsRow base 9 1 v ns.length (ns.map Value.string)) (hn : ns.length ≤ 1000) :
    Calls Try.prog 46 #[v] w fun e w' => (∃ A c, e = .returned (.slice A (Lib.compact (ns.map blist)).length c)) ∧ w.grownBy w' v.ownBlock := by
  rcases Nat.eq_zero_or_pos ns.length with h0 | h0
  · have hn : ns = [] := List.eq_nil_of_length_eq_zero h0
    subst hn
    obtain ⟨A, c, rfl⟩ := own_slice h
    refine (Try.slices_Compact_string_empty A c w).mono ?_
    rintro e w' ⟨rfl, rfl⟩
    exact ⟨⟨_, _, rfl⟩, World.grownBy.refl _ _⟩
  · obtain ⟨g, cap, cur, rfl, hbase, hb, h1, h2, h3, h4⟩ := own_pos h h0
    have hH : Holds encStr w g 0 (ns.map blist).toArray := holds_of_block hb (by rw [enc_blist]; simpa using h4)
    have hS := Try.slices_Compact_string g 0 cap (ns.map blist) w hH (by simp; omega) (by simp; omega)
    rw [List.length_map] at hS
    refine hS.mono ?_
    rintro e w' ⟨rfl, q, rfl⟩
    refine ⟨⟨_, _, rfl⟩, ?_⟩
    have h6 := grownBy_sorted (w := w) (g := g) (n := q) (os := #[]) (Lib.compact (ns.map blist) ++ List.replicate (ns.length - (Lib.compact (ns.map blist)).length) []).toArray
    have h7 : ∀ X : World, grow X #[] = X := fun X => by unfold grow; rw [Array.append_empty]
    rw [h7] at h6
    exact h6
/-! ### New -/
theorem info125 : (Try.prog.info? 125).map (fun i => (i.zero, i.size, i.bytes)) = some (some (.agg #[.int .u64 0]), 1, 8) := by kernel_rfl
theorem made125 (n : Nat) : madeCells (Value.agg #[.int .u64 0]).cells (n * 1) = ((List.replicate n (0 : Int)).map (Value.int .u64)).toArray := by
  rw [Nat.mul_one]
  apply Array.ext
  · simp [madeCells]
  · intro i h1 h2
    simp [madeCells, Value.cells, Nat.mod_one]
theorem mk_row (n : Nat) (hn : n ≤ 1000) (w : World) : (Instr.makeSlice 87 (.int .i64 (n : Int)) (.int .i64 (n : Int))).run Try.prog w = .ok (.slice (some ⟨w.heap.size, 0, none⟩) n n) (w.alloc (.cells ((List.replicate n (0 : Int)).map (Value.int .u64)).toArray 125)) := by
  obtain ⟨i, hi, hz, hs, hb⟩ := info_parts info125
  have h := run_makeSlice (P := Try.prog) w 87 125 i _ Try.underlying87 hi hz .i64 .i64 (n : Int) (n : Int) (by omega) (Int.le_refl _) (by rw [hs]; omega) (by rw [hb]; omega) (by omega)
  rw [hs] at h
  simp only [Int.toNat_natCast] at h
  rw [made125] at h
  exact h
theorem own_kd {w : World} {base : Nat} {A : Option Addr} {n c : Nat} {ns : List ByteArray} (h : w.ownsRow base 9 1 (.slice A n c) ns.length (ns.map Value.string)) (hn : n = ns.length) : Kd.C Kd.string w A n ns := by
  subst hn
  obtain ⟨A1, c1, e, _, hC⟩ := Kd.R_reads (Kd.R_of_own (enc := Value.string) (h1 := fun _ => rfl) (ok := fun _ => True) (xs := ns) h (fun _ _ => trivial))
  injection e with e1 e2 e3
  subst e1
  exact hC
theorem own_ge {w : World} {base : Nat} {e : TypeId} {size n : Nat} {ad : Addr} {k c : Nat} {xs : List Value} (h : w.ownsRow base e size (.slice (some ad) k c) n xs) : base ≤ ad.block := by
  have h1 := (h.lt ad.block (by simp [Value.ownBlock])).1
  exact h1
theorem size0 {s : ByteArray} (h : s.size = 0) : s.toList.isEmpty = true := by
  have e : s = ByteArray.empty := by simpa using h
  subst e
  simp
theorem new_long (w : World) (A : Option Addr) (n c : Nat) (hn : 64 < n) (hn2 : n ≤ 1000000) :
    Calls Try.prog 11 #[.slice A n c] w fun e w' => e = .returned (.tuple #[.pointer none, .int .i64 3]) ∧ w' = w := by
  go_enter Try.func11, Try.ntmps11
  go_wp2
  go_ret2
  exact ⟨rfl, rfl⟩
set_option maxRecDepth 100000 in
theorem new_form (w : World) (A : Option Addr) (n c : Nat) (ns : List ByteArray) (hC : Kd.C Kd.string w A n ns) (hn : n ≤ 64) (hbad : ¬ ∀ s ∈ ns, 1 ≤ s.size ∧ s.size ≤ 40) :
    Calls Try.prog 11 #[.slice A n c] w fun e w' => e = .returned (.tuple #[.pointer none, .int .i64 4]) ∧ w' = w := by
  have HC := Aside0.mk hC
  have HB := Aside0.mk hbad
  clear hC hbad
  go_enter Try.func11, Try.ntmps11
  go_wp2
  go_loop [12] (fun i => ∃ k : Nat, k ≤ n ∧ i = .int .i64 k ∧ Aside0 (∀ j : Nat, j < k → 1 ≤ (rdOf ByteArray.empty ns (j : Int)).size ∧ (rdOf ByteArray.empty ns (j : Int)).size ≤ 40)) (fun i => n - (intOf i).toNat)
  case atStart => exact ⟨0, Nat.zero_le _, rfl, ⟨fun j h => absurd h (Nat.not_lt_zero _)⟩⟩
  case round =>
    obtain ⟨k, hk, rfl, HJ⟩ := hrel
    by_cases hlt : k < n
    · obtain ⟨ad, e, hx⟩ := strAt HC.out k hlt
      subst e
      have hk0 : (0 : Int) ≤ (k : Int) := Int.natCast_nonneg k
      have hk1 : (k : Int) < (n : Int) := Int.ofNat_lt.2 hlt
      by_cases h1 : (rdOf ByteArray.empty ns (k : Int)).toList.isEmpty = true
      · go_wp2
        go_ret2
        exact ⟨rfl, rfl⟩
      · have h1' : (rdOf ByteArray.empty ns (k : Int)).toList.isEmpty = false := by simpa using h1
        clear h1
        by_cases h2 : 40 < (rdOf ByteArray.empty ns (k : Int)).size
        · go_wp2
          go_ret2
          exact ⟨rfl, rfl⟩
        · have h2' : ((rdOf ByteArray.empty ns (k : Int)).size : Int) ≤ 40 := by omega
          have HN := Aside0.mk (show 1 ≤ (rdOf ByteArray.empty ns (k : Int)).size ∧ (rdOf ByteArray.empty ns (k : Int)).size ≤ 40 from ⟨by
            rcases Nat.eq_zero_or_pos (rdOf ByteArray.empty ns (k : Int)).size with h0 | h0
            · rw [size0 h0] at h1'
              cases h1'
            · exact h0, by omega⟩)
          clear h2
          go_wp2
          go_round
          case rel => exact ⟨k + 1, hlt, by go_num, ⟨fun j hj => by
            rcases Nat.lt_or_ge j k with h | h
            · exact HJ.out j h
            · have : j = k := by omega
              subst this
              exact HN.out⟩⟩
          case measure => simp [intOf]; omega
    · exfalso
      apply HB.out
      intro s hs
      obtain ⟨j, hj, rfl⟩ := List.getElem_of_mem hs
      have h3 := HJ.out j (by have := HC.out.1; omega)
      simpa [rdOf, hj] using h3
theorem size_some {s : ByteArray} (h : 1 ≤ s.size) : s.toList.isEmpty = false := by
  cases h1 : s.toList.isEmpty with
  | false => rfl
  | true =>
    rw [List.isEmpty_iff, ByteArray.toList_eq] at h1
    have h2 : s.data.toList.length = s.size := by rw [Array.length_toList]; rfl
    rw [h1] at h2
    simp at h2
    omega
theorem vals_any (A : Option Addr) (n c : Nat) (W : World) : Calls Try.prog 45 #[.slice A n c] W fun e w' => e = .returned (.func (.func 67) #[] #[.pointer (some ⟨W.heap.size, 0, none⟩)]) ∧ w' = W.alloc (.cells #[.slice A n c] 22) := by
  have hmf : ∀ (fn : Fn) (first cap : Array Value) (w : World), (Instr.makeFunc fn first cap).run Try.prog w = .ok (.func fn first cap) w := fun _ _ _ _ => rfl
  go_enter Try.func45, Try.ntmps45
  go_wp2
  go_ret
  exact ⟨rfl, rfl⟩
def NewOk (w : World) (ns : List ByteArray) (e : Ending) (w' : World) : Prop :=
  ∃ g lb N cn, e = .returned (.tuple #[.pointer (some ⟨g, 0, none⟩), .int .i64 0]) ∧ Tal w' g lb N cn (sortN ns) (List.replicate ns.length 0) ∧ w.heap.size ≤ g ∧ w.heap.size ≤ lb ∧ (∀ ad, N = some ad → w.heap.size ≤ ad.block) ∧ Below w.heap.size w w'
theorem sortN_mem {ns : List ByteArray} {s : ByteArray} (h : s ∈ sortN ns) : s ∈ ns := by
  unfold sortN at h
  obtain ⟨l, hl, rfl⟩ := List.mem_map.1 h
  have h2 : l ∈ ns.map blist := (List.mergeSort_perm (ns.map blist) _).mem_iff.1 hl
  obtain ⟨t, ht, rfl⟩ := List.mem_map.1 h2
  simpa [blist] using ht
set_option maxRecDepth 100000 in
set_option maxHeartbeats 1000000 in
theorem new_body (w : World) (A : Option Addr) (n c : Nat) (ns : List ByteArray) (hC : Kd.C Kd.string w A n ns) (hn : n ≤ 64) (hok : ∀ s ∈ ns, 1 ≤ s.size ∧ s.size ≤ 40) :
    ((Lib.compact (sortB ns)).length = ns.length → Calls Try.prog 11 #[.slice A n c] w (NewOk w ns)) ∧
    ((Lib.compact (sortB ns)).length ≠ ns.length → Calls Try.prog 11 #[.slice A n c] w fun e w' => e = .returned (.tuple #[.pointer none, .int .i64 1]) ∧ Below w.heap.size w w') := by
  obtain rfl : ns.length = n := hC.1
  have HS := Aside0.mk (sortedS (w.alloc (.cells #[.slice A ns.length c] 22)) w.heap.size A ns.length c ns (by omega) (by simp) ((blk_cell (blk_new w _) 0).trans rfl) (Kd.C_alloc hC _))
  have HC := Aside0.mk hC
  have HB := Aside0.mk hok
  have HL := Aside0.mk (sortN_len ns)
  have HK := Aside0.mk (blist_sortN ns)
  clear hC hok
  constructor
  · intro hcmp
    have hq : (((Lib.compact (sortB ns)).length : Int) != (ns.length : Int)) = false := by rw [hcmp]; simp
    clear hcmp
    go_enter Try.func11, Try.ntmps11
    go_wp2
    go_loop [12] (fun i => ∃ k : Nat, k ≤ ns.length ∧ i = .int .i64 k) (fun i => ns.length - (intOf i).toNat)
    case atStart => exact ⟨0, Nat.zero_le _, rfl⟩
    case round =>
      obtain ⟨k, hk, rfl⟩ := hrel
      by_cases hlt : k < ns.length
      · obtain ⟨ad, e, hx⟩ := strAt HC.out k hlt
        subst e
        have hk0 : (0 : Int) ≤ (k : Int) := Int.natCast_nonneg k
        have hk1 : (k : Int) < (ns.length : Int) := Int.ofNat_lt.2 hlt
        have hb := HB.out (rdOf ByteArray.empty ns (k : Int)) (by simp [rdOf, hlt])
        have h1 := size_some hb.1
        have h2 : ((rdOf ByteArray.empty ns (k : Int)).size : Int) ≤ 40 := by omega
        clear hb
        go_wp2
        go_round
        case rel => exact ⟨k + 1, hlt, by go_num⟩
        case measure => simp [intOf]; omega
      · obtain rfl : k = ns.length := by omega
        have hmk := mk_row (ns.length) (by omega)
        go_wp2_with (first | (go_at_call 45; go_must (refine (vals_any A ns.length c _).mono ?_; rintro e w1 ⟨rfl, rfl⟩)) | (go_at_call 44; go_must (refine HS.out.mono ?_; rintro e w2 ⟨v2, rfl, ho2, hb2⟩; obtain ⟨A2, c2, rfl⟩ := own_slice ho2; have HO2 := Aside0.mk (show World.ownsRow w2 _ 9 1 _ (sortN ns).length _ from by rw [HL.out]; exact ho2); have HB2 := Aside0.mk hb2; clear ho2 hb2)) | (go_at_call 47; go_must (refine (cloneO w2 _ _ (sortN ns) HO2.out (by have := HL.out; omega)).mono ?_; rintro e w3 ⟨v3, rfl, ho3, hb3⟩; obtain ⟨A3, c3, rfl⟩ := own_slice ho3; have HO3 := Aside0.mk ho3; have HB3 := Aside0.mk hb3; clear ho3 hb3)) | (go_at_call 46; go_must (refine (compactO w3 _ _ (sortN ns) HO3.out (by have := HL.out; omega)).mono ?_; rw [HK.out]; rintro e w4 ⟨⟨A4, c4, rfl⟩, hg4⟩; have HG4 := Aside0.mk hg4; clear hg4)))
        go_ret2
        have hlt2 : ∀ ad, A2 = some ad → 0 < ns.length → ad.block < w2.heap.size := by
          rintro ad rfl hp
          obtain ⟨ad', e, hx⟩ := strAt (own_kd HO2.out HL.out.symm) 0 hp
          cases e
          exact World.block_lt_of_cell? w2 ad hx
        have hF : Fr (fun i => w2.heap.size ≤ i) w2 w4 := (Fr.of_below HB3.out).grown HG4.out (fun i hi => .inl (HO3.out.lt i hi).1)
        have hB : Below w.heap.size w w4 := by
          have h1 : Below w.heap.size w w2 := (below_alloc (Below.refl _ _) _).trans (HB2.out.mono (by simp))
          exact h1.trans ((hF.to_below (fun k hk => hk)).mono h1.size)
        have hC4 := CS_fr (own_kd HO2.out HL.out.symm) hF (fun ad e hp hk => by have := hlt2 ad e hp; omega)
        have hrep : ((List.replicate ns.length (0 : Int)).map (Value.int .u64)).toArray = Array.replicate ns.length (Value.int .u64 0) := by simp
        have hs4 : w.heap.size ≤ w4.heap.size := hB.size
        refine ⟨w4.heap.size + 1, w4.heap.size, A2, c2, rfl, ⟨⟨0, none, ?_, .inl ⟨rfl, rfl⟩⟩, ?_, ?_, ?_, ?_, ?_⟩, by omega, hs4, ?_, below_alloc (below_alloc hB _) _⟩
        · have hb := blk_new (w4.alloc (.cells ((List.replicate ns.length (0 : Int)).map (Value.int .u64)).toArray 125)) (.cells #[.slice A2 ns.length c2, .slice (some ⟨w4.heap.size, 0, none⟩) ns.length ns.length, .int .u32 0, .int .i32 0, .int .u32 0, .map none] 102)
          rw [World.size_alloc, hrep] at hb
          rw [HL.out]
          exact hb
        · rw [HL.out]
          exact Kd.C_alloc (Kd.C_alloc hC4 _) _
        · rw [hrep]
          exact blk_alloc (blk_new _ _) _
        · rw [HL.out, List.length_replicate]
        · rw [HL.out]; omega
        · intro s hs
          have := (HB.out s (sortN_mem hs)).2
          omega
        · rintro ad rfl
          have h1 := own_ge HO2.out
          simp at h1
          omega
  · intro hcmp
    have hq : (((Lib.compact (sortB ns)).length : Int) != (ns.length : Int)) = true := by simp; omega
    clear hcmp
    go_enter Try.func11, Try.ntmps11
    go_wp2
    go_loop [12] (fun i => ∃ k : Nat, k ≤ ns.length ∧ i = .int .i64 k) (fun i => ns.length - (intOf i).toNat)
    case atStart => exact ⟨0, Nat.zero_le _, rfl⟩
    case round =>
      obtain ⟨k, hk, rfl⟩ := hrel
      by_cases hlt : k < ns.length
      · obtain ⟨ad, e, hx⟩ := strAt HC.out k hlt
        subst e
        have hk0 : (0 : Int) ≤ (k : Int) := Int.natCast_nonneg k
        have hk1 : (k : Int) < (ns.length : Int) := Int.ofNat_lt.2 hlt
        have hb := HB.out (rdOf ByteArray.empty ns (k : Int)) (by simp [rdOf, hlt])
        have h1 := size_some hb.1
        have h2 : ((rdOf ByteArray.empty ns (k : Int)).size : Int) ≤ 40 := by omega
        clear hb
        go_wp2
        go_round
        case rel => exact ⟨k + 1, hlt, by go_num⟩
        case measure => simp [intOf]; omega
      · obtain rfl : k = ns.length := by omega
        have hmk := mk_row (ns.length) (by omega)
        go_wp2_with (first | (go_at_call 45; go_must (refine (vals_any A ns.length c _).mono ?_; rintro e w1 ⟨rfl, rfl⟩)) | (go_at_call 44; go_must (refine HS.out.mono ?_; rintro e w2 ⟨v2, rfl, ho2, hb2⟩; obtain ⟨A2, c2, rfl⟩ := own_slice ho2; have HO2 := Aside0.mk (show World.ownsRow w2 _ 9 1 _ (sortN ns).length _ from by rw [HL.out]; exact ho2); have HB2 := Aside0.mk hb2; clear ho2 hb2)) | (go_at_call 47; go_must (refine (cloneO w2 _ _ (sortN ns) HO2.out (by have := HL.out; omega)).mono ?_; rintro e w3 ⟨v3, rfl, ho3, hb3⟩; obtain ⟨A3, c3, rfl⟩ := own_slice ho3; have HO3 := Aside0.mk ho3; have HB3 := Aside0.mk hb3; clear ho3 hb3)) | (go_at_call 46; go_must (refine (compactO w3 _ _ (sortN ns) HO3.out (by have := HL.out; omega)).mono ?_; rw [HK.out]; rintro e w4 ⟨⟨A4, c4, rfl⟩, hg4⟩; have HG4 := Aside0.mk hg4; clear hg4)))
        go_ret2
        exact ⟨rfl, ((below_alloc (Below.refl _ _) _).trans (HB2.out.mono (by simp))).trans ((HB3.out.grown HG4.out HB3.out.size (fun i hi => (HO3.out.lt i hi).1)).mono (by have := HB2.out.size; simp at this; omega))⟩
end Go.Proofs.Ytclpkbgjaiacpaa
