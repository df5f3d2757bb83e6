/- What is proved: do of no tally; few; the state of a script. Conditions: those that each theorem states. -/
import Derived.Test.YtclpkbgjaiacpaaTallyM
import Derived.Test.YtclpkbgjaiacpaaRangeR
import Derived.Test.YtclpkbgjaiacpaaPRfx2
import Derived.WalkSpells
import Derived.Deep.DeepMust
import Derived.Deep.RegionHeld3
import Derived.StillTactics
import Derived.RangeFuncBox
import Derived.RangeFuncLeaves
import Derived.RangeFuncNested
import Derived.RangeFuncCalls
import Derived.Shelf.Abstract
import Derived.OwnWalkIn
import Derived.TacticsInMore
import Derived.LoopNIn
import Derived.LoopIn
import Derived.Maps.AppendAt
namespace Go.Proofs.Ytclpkbgjaiacpaa
open Go.RowKit Go.Proofs.YtclpkbgjaiacpaaW.PrintWords Go.Proofs.YtclpkbgjaiacpaaW.PrintLast Go.Proofs.YtclpkbgjaiacpaaW.PrintMore
open Go.Proofs.Ytclpkbgjaiacpaa.PRf
set_option linter.unusedVariables false
set_option linter.unusedSimpArgs false
/-! ### do, of no tally -/
set_option maxRecDepth 100000 in
set_option maxHeartbeats 2000000 in
theorem don_0 (w : World) (a1 : Int) (s : ByteArray) (y : Int) (h0 : 0 ≤ a1) (h6 : a1 % 6 = 0) :
    Calls Try.prog 13 #[.pointer none, .slice none 0 0, .agg #[.int .u8 a1, .string s, .int .u64 y]] w fun e w' => e = .returned (.bool true) ∧ Below w.heap.size w w' := by
  have HBX := Aside0.mk (blk_new w (.cells #[.int .u8 a1, .string s, .int .u64 y] 35))
  have HF := Aside0.mk (fun W : World => vitrineref03_Find.calls 2 none 0 [] (cutT s 45) (-1) W (Kd.C_nil _ _) (Nat.le_refl _) rfl)
  go_enter Try.func13, Try.ntmps13
  go_wp2_with (first | (go_at_call 18; go_must (refine (cutT_any s 45 _).mono ?_; rintro e w1 ⟨rfl, rfl⟩)) | (go_at_call 16; go_must (refine (HF.out _).mono ?_; rintro e w2 ⟨rfl, hb2⟩; have HB2 := Aside0.mk ((below_alloc (Below.refl w.heap.size w) (.cells #[.int .u8 a1, .string s, .int .u64 y] 35)).trans (hb2.mono (by simp))); have BK := blk_below HBX.out hb2; have x0 := (blk_cell BK 0).trans rfl; have x1 := (blk_cell BK 1).trans rfl; have x2 := (blk_cell BK 2).trans rfl; clear BK hb2)) | (go_at_call 20; go_must (refine (n_add _ _ _).mono ?_; rintro e w3 ⟨rfl, rfl⟩)))
  go_ret
  exact ⟨rfl, HB2.out⟩
set_option maxRecDepth 100000 in
set_option maxHeartbeats 2000000 in
theorem don_1 (w : World) (a1 : Int) (s : ByteArray) (y : Int) (h0 : 0 ≤ a1) (h6 : a1 % 6 = 1) :
    Calls Try.prog 13 #[.pointer none, .slice none 0 0, .agg #[.int .u8 a1, .string s, .int .u64 y]] w fun e w' => e = .returned (.bool true) ∧ Below w.heap.size w w' := by
  have HBX := Aside0.mk (blk_new w (.cells #[.int .u8 a1, .string s, .int .u64 y] 35))
  have HF := Aside0.mk (fun W : World => vitrineref03_Find.calls 2 none 0 [] (cutT s 45) (-1) W (Kd.C_nil _ _) (Nat.le_refl _) rfl)
  go_enter Try.func13, Try.ntmps13
  go_wp2_with (first | (go_at_call 18; go_must (refine (cutT_any s 45 _).mono ?_; rintro e w1 ⟨rfl, rfl⟩)) | (go_at_call 16; go_must (refine (HF.out _).mono ?_; rintro e w2 ⟨rfl, hb2⟩; have HB2 := Aside0.mk ((below_alloc (Below.refl w.heap.size w) (.cells #[.int .u8 a1, .string s, .int .u64 y] 35)).trans (hb2.mono (by simp))); have BK := blk_below HBX.out hb2; have x0 := (blk_cell BK 0).trans rfl; have x1 := (blk_cell BK 1).trans rfl; have x2 := (blk_cell BK 2).trans rfl; clear BK hb2)) | (go_at_call 20; go_must (refine (n_add _ _ _).mono ?_; rintro e w3 ⟨rfl, rfl⟩)))
  go_ret
  exact ⟨rfl, HB2.out⟩
set_option maxRecDepth 100000 in
set_option maxHeartbeats 2000000 in
theorem don_2 (w : World) (a1 : Int) (s : ByteArray) (y : Int) (h0 : 0 ≤ a1) (h6 : a1 % 6 = 2) :
    Calls Try.prog 13 #[.pointer none, .slice none 0 0, .agg #[.int .u8 a1, .string s, .int .u64 y]] w fun e w' => e = .returned (.bool true) ∧ Below w.heap.size w w' := by
  have HBX := Aside0.mk (blk_new w (.cells #[.int .u8 a1, .string s, .int .u64 y] 35))
  have HF := Aside0.mk (fun W : World => vitrineref03_Find.calls 2 none 0 [] (cutT s 45) (-1) W (Kd.C_nil _ _) (Nat.le_refl _) rfl)
  go_enter Try.func13, Try.ntmps13
  go_wp2_with (first | (go_at_call 18; go_must (refine (cutT_any s 45 _).mono ?_; rintro e w1 ⟨rfl, rfl⟩)) | (go_at_call 16; go_must (refine (HF.out _).mono ?_; rintro e w2 ⟨rfl, hb2⟩; have HB2 := Aside0.mk ((below_alloc (Below.refl w.heap.size w) (.cells #[.int .u8 a1, .string s, .int .u64 y] 35)).trans (hb2.mono (by simp))); have BK := blk_below HBX.out hb2; have x0 := (blk_cell BK 0).trans rfl; have x1 := (blk_cell BK 1).trans rfl; have x2 := (blk_cell BK 2).trans rfl; clear BK hb2)) | (go_at_call 21; go_must (refine (n_most _ _ _).mono ?_; rintro e w3 ⟨rfl, rfl⟩)))
  go_ret
  exact ⟨rfl, HB2.out⟩
set_option maxRecDepth 100000 in
set_option maxHeartbeats 2000000 in
theorem don_3 (w : World) (a1 : Int) (s : ByteArray) (y : Int) (h0 : 0 ≤ a1) (h6 : a1 % 6 = 3) :
    Calls Try.prog 13 #[.pointer none, .slice none 0 0, .agg #[.int .u8 a1, .string s, .int .u64 y]] w fun e w' => e = .returned (.bool true) ∧ Below w.heap.size w w' := by
  have HBX := Aside0.mk (blk_new w (.cells #[.int .u8 a1, .string s, .int .u64 y] 35))
  have HF := Aside0.mk (fun W : World => vitrineref03_Find.calls 2 none 0 [] (cutT s 45) (-1) W (Kd.C_nil _ _) (Nat.le_refl _) rfl)
  go_enter Try.func13, Try.ntmps13
  go_wp2_with (first | (go_at_call 18; go_must (refine (cutT_any s 45 _).mono ?_; rintro e w1 ⟨rfl, rfl⟩)) | (go_at_call 16; go_must (refine (HF.out _).mono ?_; rintro e w2 ⟨rfl, hb2⟩; have HB2 := Aside0.mk ((below_alloc (Below.refl w.heap.size w) (.cells #[.int .u8 a1, .string s, .int .u64 y] 35)).trans (hb2.mono (by simp))); have BK := blk_below HBX.out hb2; have x0 := (blk_cell BK 0).trans rfl; have x1 := (blk_cell BK 1).trans rfl; have x2 := (blk_cell BK 2).trans rfl; clear BK hb2)) | (go_at_call 22; go_must (refine (n_take _ _).mono ?_; rintro e w3 ⟨rfl, rfl⟩)))
  go_ret
  exact ⟨rfl, HB2.out⟩
set_option maxRecDepth 100000 in
set_option maxHeartbeats 2000000 in
theorem don_4 (w : World) (a1 : Int) (s : ByteArray) (y : Int) (h0 : 0 ≤ a1) (h6 : a1 % 6 = 4) :
    Calls Try.prog 13 #[.pointer none, .slice none 0 0, .agg #[.int .u8 a1, .string s, .int .u64 y]] w fun e w' => e = .returned (.bool true) ∧ Below w.heap.size w w' := by
  have HBX := Aside0.mk (blk_new w (.cells #[.int .u8 a1, .string s, .int .u64 y] 35))
  have HF := Aside0.mk (fun W : World => vitrineref03_Find.calls 2 none 0 [] (cutT s 45) (-1) W (Kd.C_nil _ _) (Nat.le_refl _) rfl)
  go_enter Try.func13, Try.ntmps13
  go_wp2_with (first | (go_at_call 18; go_must (refine (cutT_any s 45 _).mono ?_; rintro e w1 ⟨rfl, rfl⟩)) | (go_at_call 16; go_must (refine (HF.out _).mono ?_; rintro e w2 ⟨rfl, hb2⟩; have HB2 := Aside0.mk ((below_alloc (Below.refl w.heap.size w) (.cells #[.int .u8 a1, .string s, .int .u64 y] 35)).trans (hb2.mono (by simp))); have BK := blk_below HBX.out hb2; have x0 := (blk_cell BK 0).trans rfl; have x1 := (blk_cell BK 1).trans rfl; have x2 := (blk_cell BK 2).trans rfl; clear BK hb2)) | (go_at_call 23; go_must (refine (n_get _ _).mono ?_; rintro e w3 ⟨rfl, rfl⟩)))
  go_ret
  exact ⟨rfl, HB2.out⟩
set_option maxRecDepth 100000 in
set_option maxHeartbeats 2000000 in
theorem don_5 (w : World) (a1 : Int) (s : ByteArray) (y : Int) (h0 : 0 ≤ a1) (h6 : a1 % 6 = 5) :
    Calls Try.prog 13 #[.pointer none, .slice none 0 0, .agg #[.int .u8 a1, .string s, .int .u64 y]] w fun e w' => e = .returned (.bool true) ∧ Below w.heap.size w w' := by
  have HBX := Aside0.mk (blk_new w (.cells #[.int .u8 a1, .string s, .int .u64 y] 35))
  have HF := Aside0.mk (fun W : World => vitrineref03_Find.calls 2 none 0 [] (cutT s 45) (-1) W (Kd.C_nil _ _) (Nat.le_refl _) rfl)
  go_enter Try.func13, Try.ntmps13
  go_wp2_with (first | (go_at_call 18; go_must (refine (cutT_any s 45 _).mono ?_; rintro e w1 ⟨rfl, rfl⟩)) | (go_at_call 16; go_must (refine (HF.out _).mono ?_; rintro e w2 ⟨rfl, hb2⟩; have HB2 := Aside0.mk ((below_alloc (Below.refl w.heap.size w) (.cells #[.int .u8 a1, .string s, .int .u64 y] 35)).trans (hb2.mono (by simp))); have BK := blk_below HBX.out hb2; have x0 := (blk_cell BK 0).trans rfl; have x1 := (blk_cell BK 1).trans rfl; have x2 := (blk_cell BK 2).trans rfl; clear BK hb2)) | (go_at_call 19; go_must (refine (n_reset _).mono ?_; rintro e w3 ⟨rfl, rfl⟩)))
  refine wp_loop_rounds 1 ?_
  rw [rounds_succ]
  go_wp2_with (go_at_call 19; go_must (refine (n_reset _).mono ?_; rintro e w3 ⟨rfl, rfl⟩))
  go_ret
  exact ⟨rfl, HB2.out⟩
theorem don_any (w : World) (a1 : Int) (s : ByteArray) (y : Int) (h0 : 0 ≤ a1) :
    Calls Try.prog 13 #[.pointer none, .slice none 0 0, .agg #[.int .u8 a1, .string s, .int .u64 y]] w fun e w' => e = .returned (.bool true) ∧ Below w.heap.size w w' := by
  have h6 : a1 % 6 = 0 ∨ a1 % 6 = 1 ∨ a1 % 6 = 2 ∨ a1 % 6 = 3 ∨ a1 % 6 = 4 ∨ a1 % 6 = 5 := by omega
  rcases h6 with h6 | h6 | h6 | h6 | h6 | h6
  · exact don_0 w a1 s y h0 h6
  · exact don_1 w a1 s y h0 h6
  · exact don_2 w a1 s y h0 h6
  · exact don_3 w a1 s y h0 h6
  · exact don_4 w a1 s y h0 h6
  · exact don_5 w a1 s y h0 h6
/-- The state of a script: no tally and no counters; or both alike. -/
inductive St (w0 w : World) (tp : Option Addr) (v : Value) (L : List S41) : Prop
  | none (ht : tp = none) (hv : v = .slice none 0 0) (hL : L = []) (hb : Below w0.heap.size w0 w)
  | some (wS : World) (g lb : Nat) (N : Option Addr) (cn : Nat) (ns : List ByteArray) (xs : List Int) (ht : tp = some ⟨g, 0, none⟩) (h : Two w0 wS w g lb N cn v ns xs xs) (hnd : ns.Nodup) (h64 : ns.length ≤ 64) (hL : L = toS (cntL ns xs))
namespace St
variable {w0 w w1 : World} {tp : Option Addr} {v : Value} {L : List S41}
theorem below (h : St w0 w tp v L) (hb : Below w.heap.size w w1) : St w0 w1 tp v L := by
  cases h with
  | none ht hv hL hb0 => exact .none ht hv hL (hb0.trans (hb.mono hb0.size))
  | some wS g lb N cn ns xs ht h hnd h64 hL => exact .some wS g lb N cn ns xs ht (h.below hb) hnd h64 hL
theorem b (h : St w0 w tp v L) : Below w0.heap.size w0 w := by
  cases h with
  | none ht hv hL hb0 => exact hb0
  | some wS g lb N cn ns xs ht h hnd h64 hL => exact h.b
theorem read (h : St w0 w tp v L) : ∃ A c, v = .slice A L.length c ∧ L.length ≤ c ∧ Kd.C k41 w A L.length L ∧ L.length ≤ 64 := by
  cases h with
  | none ht hv hL hb0 =>
    subst hL
    exact ⟨_, _, hv, Nat.le_refl _, Kd.C_nil _ _, by simp⟩
  | some wS g lb N cn ns xs ht h hnd h64 hL =>
    subst hL
    obtain ⟨A, c, e, hc, hC⟩ := h.r.slice (by omega)
    exact ⟨A, c, e, hc, hC, by rw [toS_len]; exact h64⟩
end St
theorem st_do (w0 w : World) (tp : Option Addr) (v : Value) (L : List S41) (h : St w0 w tp v L) (a1 : Int) (s : ByteArray) (y : Int) (h0 : 0 ≤ a1) :
    Calls Try.prog 13 #[.pointer tp, v, .agg #[.int .u8 a1, .string s, .int .u64 y]] w fun e w' => e = .returned (.bool true) ∧ ∃ L', St w0 w' tp v L' := by
  cases h with
  | none ht hv hL hb0 =>
    subst ht hv hL
    exact (don_any w a1 s y h0).mono fun e w' ⟨he, hb⟩ => ⟨he, [], .none rfl rfl rfl (hb0.trans (hb.mono hb0.size))⟩
  | some wS g lb N cn ns xs ht h hnd h64 hL =>
    subst ht hL
    exact (do_any w0 wS w g lb N cn v ns xs h hnd a1 s y h0).mono fun e w' ⟨he, ys, h2⟩ => ⟨he, _, .some wS g lb N cn ns ys rfl h2 hnd h64 rfl⟩
theorem st_all (w0 w : World) (tp : Option Addr) (v : Value) (L : List S41) (h : St w0 w tp v L) (most : Nat) (hm : 1 ≤ most) (hm2 : most ≤ 1000) :
    Calls Try.prog 15 #[.pointer tp, .int .i64 (most : Int)] w fun e w' => ∃ A c n, n = (L.take most).length ∧ e = .returned (.slice A n c) ∧ Kd.C k41 w' A n (L.take most) ∧ n ≤ c ∧ St w0 w' tp v L := by
  cases h with
  | none ht hv hL hb0 =>
    subst ht hv hL
    refine (callsIn_wide.1 (n_all_in Fence.wide 3 trivial trivial trivial trivial rfl (Nat.le_refl _) w (most : Int))).mono ?_
    rintro e w' ⟨rfl, hb⟩
    refine ⟨none, 0, 0, by simp, rfl, ?_, Nat.le_refl _, .none rfl rfl rfl (hb0.trans (hb.mono hb0.size))⟩
    simpa using Kd.C_nil k41 w'
  | some wS g lb N cn ns xs ht h hnd h64 hL =>
    subst ht hL
    refine (callsIn_wide.1 (all_in 3 (Nat.le_refl _) w g lb N cn ns xs h.t hnd most hm hm2)).mono ?_
    rintro e w' ⟨A, c, rfl, hC, hc, hT, hf⟩
    exact ⟨A, c, _, rfl, rfl, hC, hc, .some wS g lb N cn ns xs rfl (h.call hT hf.left) hnd h64 rfl⟩
theorem same_f0 (L : List S41) (hL : L.length ≤ 1000) : ∀ (d k j : Nat), j + d = L.length → d < k → vitrinelaw03_same.l0 k L L (L.length : Int) (j : Int) = some true
  | 0, k, j, hd, hk => by
    obtain ⟨k, rfl⟩ : ∃ m, k = m + 1 := ⟨k - 1, by omega⟩
    simp only [vitrinelaw03_same.l0]
    rw [if_neg (by omega)]
  | d + 1, k, j, hd, hk => by
    obtain ⟨k, rfl⟩ : ∃ m, k = m + 1 := ⟨k - 1, by omega⟩
    simp only [vitrinelaw03_same.l0]
    rw [if_pos (by omega), if_pos (by omega), if_pos (by omega), if_pos (by omega), if_neg (by simp), w64s (by omega) (by omega)]
    exact same_f0 L hL d k (j + 1) (by omega) (by omega)
theorem same_any (w : World) (L : List S41) (hL : L.length ≤ 1000) (A0 : Option Addr) (n0 c0 : Nat) (A1 : Option Addr) (n1 c1 : Nat) (h0 : Kd.C k41 w A0 n0 L) (hc0 : n0 ≤ c0) (h1 : Kd.C k41 w A1 n1 L) (hc1 : n1 ≤ c1) :
    Calls Try.prog 14 #[.slice A0 n0 c0, .slice A1 n1 c1] w fun e w' => e = .returned (.bool true) ∧ Below w.heap.size w w' := by
  obtain rfl : L.length = n0 := h0.1
  obtain rfl : L.length = n1 := h1.1
  refine (vitrinelaw03_same.calls 1001 A0 c0 L A1 c1 L true w h0 hc0 h1 hc1 (by
    unfold vitrinelaw03_same.f
    rw [if_pos rfl]
    exact same_f0 L hL L.length 1001 0 (by omega) (by omega))).mono fun e w' ⟨he, hd⟩ => ⟨he, hd.below⟩
theorem St.rd {w0 w : World} {tp : Option Addr} {A : Option Addr} {n c : Nat} {L : List S41} (h : St w0 w tp (.slice A n c) L) : Kd.C k41 w A n L ∧ n ≤ c ∧ L.length ≤ 64 ∧ n = L.length := by
  obtain ⟨A', c', e, hc, hC, h64⟩ := h.read
  injection e with e1 e2 e3
  subst e1 e2 e3
  exact ⟨hC, hc, h64, rfl⟩
theorem C41_take {w : World} {A : Option Addr} {n : Nat} {L : List S41} (h : Kd.C k41 w A n L) (k : Nat) (hk : k ≤ n) : Kd.C k41 w A k (L.take k) := by
  refine ⟨by rw [List.length_take]; have := h.1; omega, Nat.le_trans hk h.2.1, fun hp => ?_⟩
  obtain ⟨ad, e, hc⟩ := h.2.2 (by omega)
  refine ⟨ad, e, fun j p hj => hc j p ?_⟩
  rw [List.getElem?_take] at hj
  split at hj
  · exact hj
  · cases hj
/-! ### few -/
def fewN (l : List ByteArray) : List ByteArray := (l.take 70).map (cutT · 45)
theorem cutText_eq (s : ByteArray) : vitrineref01_CutText.f s 45 = some (cutT s 45) := by
  unfold vitrineref01_CutText.f cutT
  by_cases h : (s.size : Int) > 45
  · rw [if_pos h, if_pos (by omega), if_pos (by omega), if_pos (show (s.size : Int) > ((45 : Nat) : Int) from h)]
    rfl
  · rw [if_neg h, if_neg (show ¬ (s.size : Int) > ((45 : Nat) : Int) from h)]
theorem few_l0 (l : List ByteArray) (hl : l.length ≤ 8796093022208) : ∀ (d k j : Nat) (acc : List ByteArray), j + d = l.length → d < k → acc.length ≤ 70 → (acc = (l.take (min j 70)).map (cutT · 45)) → vitrinelaw03_few.l0 k acc l (l.length : Int) (j : Int) = some (fewN l)
  | 0, k, j, acc, hd, hk, ha, he => by
    obtain ⟨k, rfl⟩ : ∃ m, k = m + 1 := ⟨k - 1, by omega⟩
    simp only [vitrinelaw03_few.l0]
    rw [if_neg (by omega), he]
    unfold fewN
    congr 2
    rcases Nat.le_total j 70 with h | h
    · rw [Nat.min_eq_left h, List.take_of_length_le (by omega), List.take_of_length_le (by omega)]
    · rw [Nat.min_eq_right h]
  | d + 1, k, j, acc, hd, hk, ha, he => by
    obtain ⟨k, rfl⟩ : ∃ m, k = m + 1 := ⟨k - 1, by omega⟩
    simp only [vitrinelaw03_few.l0]
    rw [if_pos (by omega), if_pos (by omega), if_pos (by omega)]
    by_cases h : j < 70
    · rw [if_pos (by omega), cutText_eq]
      simp only [Option.bind_some]
      rw [if_pos (by omega), w64s (by omega) (by omega)]
      have hja : acc.length ≤ j := by rw [he]; simp; omega
      refine few_l0 l hl d k (j + 1) _ (by omega) (by omega) (by simp; omega) ?_
      rw [he, Nat.min_eq_left (by omega), Nat.min_eq_left (by omega), List.take_succ_eq_append_getElem (show j < l.length by omega), List.map_append]
      simp [rdOf, show j < l.length by omega]
    · rw [if_neg (by omega), w64s (by omega) (by omega)]
      refine few_l0 l hl d k (j + 1) _ (by omega) (by omega) ha ?_
      rw [he, Nat.min_eq_right (by omega), Nat.min_eq_right (by omega)]
theorem t_few (w : World) (A : Option Addr) (n c : Nat) (l : List ByteArray) (hC : Kd.C Kd.string w A n l) (hn : n ≤ c) (hl : n ≤ 8796093022208) :
    Calls Try.prog 10 #[.slice A n c] w fun e w' => ∃ A' c', e = .returned (.slice A' (fewN l).length c') ∧ (fewN l).length ≤ c' ∧ Kd.C Kd.string w' A' (fewN l).length (fewN l) ∧ Below w.heap.size w w' := by
  obtain rfl : l.length = n := hC.1
  refine (vitrinelaw03_few.calls (l.length + 1) A c l (fewN l) w hC hn (by unfold vitrinelaw03_few.f; exact few_l0 l hl l.length (l.length + 1) 0 [] (by omega) (by omega) (by simp) (by simp))).mono ?_
  rintro e w' ⟨v, rfl, hR, hb⟩
  obtain ⟨A', c', rfl, hc, hC'⟩ := Kd.R_reads hR
  exact ⟨A', c', rfl, hc, hC', hb⟩
theorem fewN_ok (l : List ByteArray) : (fewN l).length ≤ 70 ∧ ∀ s ∈ fewN l, s.size ≤ 45 := by
  refine ⟨by simp [fewN]; omega, fun s hs => ?_⟩
  obtain ⟨t, _, rfl⟩ := List.mem_map.1 hs
  exact cutT_size t 45
end Go.Proofs.Ytclpkbgjaiacpaa
