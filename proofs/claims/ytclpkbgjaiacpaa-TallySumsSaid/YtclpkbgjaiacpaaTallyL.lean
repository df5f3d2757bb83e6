/- What is proved: do. Conditions: those that each theorem states. -/
import Derived.Test.YtclpkbgjaiacpaaTallyK
import Derived.Test.YtclpkbgjaiacpaaRangeR
import Derived.Test.YtclpkbgjaiacpaaPRfx2
import Derived.WalkSpells
import Derived.Deep.DeepMust
import Derived.Deep.RegionHeld3
import Derived.StillTactics
import Derived.RangeFuncBox
import Derived.RangeFuncLeaves
import Derived.RangeFuncNested
import Derived.RangeFuncCalls
import Derived.Shelf.Abstract
import Derived.OwnWalkIn
import Derived.TacticsInMore
import Derived.LoopNIn
import Derived.LoopIn
import Derived.Maps.AppendAt
namespace Go.Proofs.Ytclpkbgjaiacpaa
open Go.RowKit Go.Proofs.YtclpkbgjaiacpaaW.PrintWords Go.Proofs.YtclpkbgjaiacpaaW.PrintLast Go.Proofs.YtclpkbgjaiacpaaW.PrintMore
open Go.Proofs.Ytclpkbgjaiacpaa.PRf
set_option linter.unusedVariables false
set_option linter.unusedSimpArgs false
/-! ### do -/
def fpos (ns : List ByteArray) (s : ByteArray) : Int := match findN ns s with
  | some i => (i : Int)
  | none => -1
theorem rdT (ns : List ByteArray) (xs : List Int) (j : Nat) (hj : j < ns.length) : rd_T41 (toS (cntL ns xs)) (j : Int) = ⟨rdOf ByteArray.empty ns (j : Int), rd xs (j : Int)⟩ := by
  simp [rd_T41, toS, cntL, hj]
theorem toS_len (ns : List ByteArray) (xs : List Int) : (toS (cntL ns xs)).length = ns.length := by simp [toS, cntL]
theorem w64s {x : Int} (h0 : 0 ≤ x) (h1 : x < 9223372036854775808) : wrap64 x = x := by unfold wrap64; omega
theorem find_some (ns : List ByteArray) (xs : List Int) (s : ByteArray) (i : Nat) (hi : At ns s i) (hn : ns.length ≤ 1000) : ∀ (d k j : Nat), j + d = i → d < k → vitrineref03_Find.l0 k s (toS (cntL ns xs)) (ns.length : Int) (j : Int) = some (i : Int)
  | 0, k, j, hd, hk => by
    obtain ⟨k, rfl⟩ : ∃ m, k = m + 1 := ⟨k - 1, by omega⟩
    obtain rfl : j = i := by omega
    have h1 := hi.1
    simp only [vitrineref03_Find.l0]
    rw [if_pos (by omega), if_pos (by omega), if_pos (by rw [toS_len]; omega), rdT ns xs j h1, if_pos (by rw [hi.2.1])]
  | d + 1, k, j, hd, hk => by
    obtain ⟨k, rfl⟩ : ∃ m, k = m + 1 := ⟨k - 1, by omega⟩
    have h1 := hi.1
    have hne : rdOf ByteArray.empty ns (j : Int) ≠ s := hi.2.2 j (by omega) (by omega)
    simp only [vitrineref03_Find.l0]
    rw [if_pos (by omega), if_pos (by omega), if_pos (by rw [toS_len]; omega), rdT ns xs j (by omega), if_neg (fun e => hne (Go.WideShapes.bytes_inj (by rwa [ByteArray.toList_eq, ByteArray.toList_eq] at e))), w64s (by omega) (by omega)]
    exact find_some ns xs s i hi hn d k (j + 1) (by omega) (by omega)
theorem find_none (ns : List ByteArray) (xs : List Int) (s : ByteArray) (hi : NotAt ns s) (hn : ns.length ≤ 1000) : ∀ (d k j : Nat), j + d = ns.length → d < k → vitrineref03_Find.l0 k s (toS (cntL ns xs)) (ns.length : Int) (j : Int) = some (-1)
  | 0, k, j, hd, hk => by
    obtain ⟨k, rfl⟩ : ∃ m, k = m + 1 := ⟨k - 1, by omega⟩
    simp only [vitrineref03_Find.l0]
    rw [if_neg (by omega)]
  | d + 1, k, j, hd, hk => by
    obtain ⟨k, rfl⟩ : ∃ m, k = m + 1 := ⟨k - 1, by omega⟩
    have hne : rdOf ByteArray.empty ns (j : Int) ≠ s := hi j (by omega)
    simp only [vitrineref03_Find.l0]
    rw [if_pos (by omega), if_pos (by omega), if_pos (by rw [toS_len]; omega), rdT ns xs j (by omega), if_neg (fun e => hne (Go.WideShapes.bytes_inj (by rwa [ByteArray.toList_eq, ByteArray.toList_eq] at e))), w64s (by omega) (by omega)]
    exact find_none ns xs s hi hn d k (j + 1) (by omega) (by omega)
theorem find_f (ns : List ByteArray) (hnd : ns.Nodup) (xs : List Int) (s : ByteArray) (hn : ns.length ≤ 1000) : vitrineref03_Find.f 1001 (toS (cntL ns xs)) s = some (fpos ns s) := by
  unfold vitrineref03_Find.f fpos
  rw [toS_len]
  cases h : findN ns s with
  | some i =>
    have h1 := find_at hnd h
    exact find_some ns xs s i h1 hn i 1001 0 (by omega) (by have := h1.1; omega)
  | none => exact find_none ns xs s (find_not h) hn ns.length 1001 0 (by omega) (by omega)
/-- The reference's list: a row of the law's own. -/
def RefL (w : World) (base : Nat) (v : Value) (ns : List ByteArray) (xs : List Int) : Prop := w.ownsRow base 41 2 v (cntL ns xs).length (flatC (cntL ns xs))
theorem RefL.slice {w : World} {base : Nat} {v : Value} {ns : List ByteArray} {xs : List Int} (h : RefL w base v ns xs) (hn : ns.length ≤ 1000) : ∃ A c, v = .slice A (toS (cntL ns xs)).length c ∧ (toS (cntL ns xs)).length ≤ c ∧ Kd.C k41 w A (toS (cntL ns xs)).length (toS (cntL ns xs)) := by
  obtain ⟨A, c, rfl⟩ := own_slice h
  have e : (toS (cntL ns xs)).length = (cntL ns xs).length := by simp [toS]
  rw [e]
  exact ⟨A, c, rfl, own_le h, own_C41 h rfl (by rw [cntL_len]; omega)⟩
theorem t_find (w : World) (base : Nat) (v : Value) (ns : List ByteArray) (xs : List Int) (s : ByteArray) (h : RefL w base v ns xs) (hnd : ns.Nodup) (hn : ns.length ≤ 1000) :
    Calls Try.prog 16 #[v, .string s] w fun e w' => e = .returned (.int .i64 (fpos ns s)) ∧ Below w.heap.size w w' := by
  obtain ⟨A, c, rfl, hc, hC⟩ := h.slice hn
  exact vitrineref03_Find.calls 1001 A c (toS (cntL ns xs)) s _ w hC hc (find_f ns hnd xs s hn)
theorem flatC_at' (ns : List ByteArray) (xs : List Int) (j : Nat) (hj : j < ns.length) : (flatC (cntL ns xs))[j * 2]? = some (.string (rdOf ByteArray.empty ns (j : Int))) ∧ (flatC (cntL ns xs))[j * 2 + 1]? = some (.int .u64 (rd xs (j : Int))) :=
  flatC_at (cntL ns xs) j (rdOf ByteArray.empty ns (j : Int), rd xs (j : Int)) (by simp [cntL, hj])
theorem flatC_set (ns : List ByteArray) (xs : List Int) (i : Nat) (hi : i < ns.length) (hx : xs.length = ns.length) (v : Int) : (flatC (cntL ns xs)).set (i * 2 + 1) (.int .u64 v) = flatC (cntL ns (xs.set i v)) := by
  apply List.ext_getElem?
  intro p
  have hl : ∀ ys : List Int, (flatC (cntL ns ys)).length = ns.length * 2 := fun ys => by rw [flatC_len, cntL_len]
  rcases Nat.lt_or_ge p (ns.length * 2) with h | h
  · have hq : p / 2 < ns.length := by omega
    obtain ⟨a1, a2⟩ := flatC_at' ns xs (p / 2) hq
    obtain ⟨b1, b2⟩ := flatC_at' ns (xs.set i v) (p / 2) hq
    rw [List.getElem?_set]
    rcases Nat.mod_two_eq_zero_or_one p with h0 | h0
    · have e : p = p / 2 * 2 := by omega
      rw [← e] at a1 b1
      rw [if_neg (by omega), a1, b1]
    · have e : p = p / 2 * 2 + 1 := by omega
      rw [← e] at a2 b2
      by_cases e2 : i = p / 2
      · rw [if_pos (by omega), if_pos (by rw [hl]; omega), b2, ← e2, rd_same (by omega)]
      · rw [if_neg (by omega), a2, b2, rd_other e2]
  · rw [List.getElem?_eq_none (by rw [List.length_set, hl]; exact h), List.getElem?_eq_none (by rw [hl]; exact h)]
/-- Both lists of a script: the program's tally and the reference's list. -/
structure Two (w0 wS w : World) (g lb : Nat) (N : Option Addr) (cn : Nat) (v : Value) (ns : List ByteArray) (xs ys : List Int) : Prop where
  t : Tal w g lb N cn ns xs
  r : RefL w w0.heap.size v ns ys
  b : Below w0.heap.size w0 w
  g_ : w0.heap.size ≤ g
  l_ : w0.heap.size ≤ lb
  nb : ∀ ad, N = some ad → 0 < ns.length → some ad.block ≠ v.ownBlock
  fr : Fr (fun i => i = g ∨ i = lb ∨ some i = v.ownBlock) wS w
namespace Two
variable {w0 wS w w1 : World} {g lb : Nat} {N : Option Addr} {cn : Nat} {v : Value} {ns : List ByteArray} {xs ys zs : List Int}
theorem below (h : Two w0 wS w g lb N cn v ns xs ys) (hb : Below w.heap.size w w1) : Two w0 wS w1 g lb N cn v ns xs ys :=
  ⟨h.t.below hb, own_fr h.r (Fr.of_below (S := nothing) hb) (fun _ _ h => h.elim), h.b.trans (hb.mono h.b.size), h.g_, h.l_, h.nb, h.fr.below hb⟩
theorem alloc (h : Two w0 wS w g lb N cn v ns xs ys) (o : Obj) : Two w0 wS (w.alloc o) g lb N cn v ns xs ys := h.below (below_alloc (Below.refl _ _) o)
theorem drew (h : Two w0 wS w g lb N cn v ns xs ys) : Two w0 wS w.drew g lb N cn v ns xs ys := h.below (Below.drew (Below.refl _ _))
/-- The tally's part is called. -/
theorem call (h : Two w0 wS w g lb N cn v ns xs ys) (k : Tal w1 g lb N cn ns zs) (hf : Fr (fun i => i = g ∨ i = lb) w w1) : Two w0 wS w1 g lb N cn v ns zs ys :=
  ⟨k, own_fr h.r hf (fun b hb e => e.elim (fun e => by
      obtain ⟨d, mo, hB, _⟩ := h.t.t
      exact own_ne h.r (t := 102) hB (by decide) (hb.trans (congrArg some e))) (fun e => own_ne h.r h.t.c (by decide) (hb.trans (congrArg some e)))),
    ((Fr.of_below (S := nothing) h.b).then_ hf (fun i hi => .inr (by rcases hi with e | e <;> subst e <;> first | exact h.g_ | exact h.l_))).to_below (fun _ h => h.elim), h.g_, h.l_, h.nb, h.fr.then_ hf (fun i hi => .inl (hi.elim .inl (fun e => .inr (.inl e))))⟩
/-- From here on. -/
theorem here (h : Two w0 wS w g lb N cn v ns xs ys) : Two w0 w w g lb N cn v ns xs ys := ⟨h.t, h.r, h.b, h.g_, h.l_, h.nb, Fr.refl _ _⟩
end Two
theorem RefL.at_ {w : World} {base : Nat} {v : Value} {ns : List ByteArray} {xs : List Int} (h : RefL w base v ns xs) (i : Nat) (hi : i < ns.length) : ∃ bl c, v = .slice (some ⟨bl, 0, none⟩) ns.length c ∧ w.cell? ⟨bl, i * 2, none⟩ = some (.string (rdOf ByteArray.empty ns (i : Int))) ∧ w.cell? ⟨bl, i * 2 + 1, none⟩ = some (.int .u64 (rd xs (i : Int))) ∧ w.frozen? ⟨bl, i * 2 + 1, none⟩ = false ∧ base ≤ bl ∧ bl < w.heap.size := by
  obtain ⟨bl, cap, cur, rfl, h1, h2, h3, h4, h5, h6⟩ := own_pos h (by rw [cntL_len]; omega)
  obtain ⟨a1, a2⟩ := flatC_at' ns xs i hi
  have hl : (cntL ns xs).length = ns.length := cntL_len ns xs
  refine ⟨bl, cap, by rw [hl], ?_, ?_, ?_, h1, blk_lt h2⟩
  · exact (h.cellAt (i * 2) (by omega)).trans a1
  · exact (h.cellAt (i * 2 + 1) (by omega)).trans a2
  · simp [World.frozen?, h2]
theorem RefL.set {w : World} {base : Nat} {bl c n : Nat} {ns : List ByteArray} {xs : List Int} (h : RefL w base (.slice (some ⟨bl, 0, none⟩) n c) ns xs) (hn : n = ns.length) (i : Nat) (hi : i < ns.length) (hx : xs.length = ns.length) (v : Int) : RefL (w.setCell ⟨bl, i * 2 + 1, none⟩ (.int .u64 v)) base (.slice (some ⟨bl, 0, none⟩) n c) ns (xs.set i v) := by
  subst hn
  have hl : ∀ ys : List Int, (cntL ns ys).length = ns.length := fun ys => cntL_len ns ys
  unfold RefL at h ⊢
  rw [hl] at h ⊢
  have h2 := (h.stored (i * 2 + 1) (.int .u64 v)).1
  rw [flatC_set ns xs i hi hx] at h2
  exact h2
/-- The reference's part is stored into. -/
theorem Two.store {w0 wS w : World} {g lb : Nat} {N : Option Addr} {cn : Nat} {bl c n : Nat} {ns : List ByteArray} {xs ys : List Int} (h : Two w0 wS w g lb N cn (.slice (some ⟨bl, 0, none⟩) n c) ns xs ys) (hn : n = ns.length) (hy : ys.length = ns.length) (i : Nat) (hi : i < ns.length) (v : Int) :
    Two w0 wS (w.setCell ⟨bl, i * 2 + 1, none⟩ (.int .u64 v)) g lb N cn (.slice (some ⟨bl, 0, none⟩) n c) ns xs (ys.set i v) := by
  have hb := (h.r.lt bl rfl)
  have hblk : ∃ cs, w.heap[bl]? = some (.cells cs 41 (0, 0)) := by
    rcases h.r.2 with ⟨h1, _⟩ | ⟨g', cap, cur, h1, _, h2, _⟩
    · cases h1
    · injection h1 with h3
      injection h3 with h4
      injection h4 with h5
      subst h5
      exact ⟨_, h2⟩
  obtain ⟨cs, hcs⟩ := hblk
  have hf : Fr (only bl) w (w.setCell ⟨bl, i * 2 + 1, none⟩ (.int .u64 v)) := (Fr.refl (only bl) w).setCell (p := ⟨bl, i * 2 + 1, none⟩) (.inl rfl) _
  refine ⟨?_, h.r.set hn i hi hy v, h.b.setCell (p := ⟨bl, i * 2 + 1, none⟩) hb.1 _, h.g_, h.l_, h.nb, h.fr.setCell (p := ⟨bl, i * 2 + 1, none⟩) (.inl (.inr (.inr rfl))) _⟩
  refine h.t.keep fun k o ho hor => (hf.block k (blk_lt ho) (fun e => ?_)).trans ho
  have e' : k = bl := e
  subst e'
  rw [hcs] at ho
  cases ho
  rcases hor with rfl | rfl | ⟨es, c, e⟩ | ⟨ad, hN, hpos, rfl⟩
  · obtain ⟨d, mo, hB, _⟩ := h.t.t
    rw [show w.heap[k]? = _ from hB] at hcs
    simp at hcs
  · rw [h.t.c] at hcs
    simp at hcs
  · cases e
  · exact h.nb ad hN hpos rfl
def stepX (ns : List ByteArray) (xs : List Int) (d : Int) (s : ByteArray) (y : Int) : List Int := match findN ns s with
  | some i => if d = 2 then xs.set i (max (rd xs (i : Int)) y) else if d = 3 then xs.set i 0 else if d = 4 then xs else if d = 5 then List.replicate ns.length 0 else xs.set i (IntKind.u64.wrap (rd xs (i : Int) + y))
  | none => if d = 5 then List.replicate ns.length 0 else xs
set_option maxRecDepth 100000 in
set_option maxHeartbeats 2000000 in
theorem do_max (w0 wS w : World) (g lb : Nat) (N : Option Addr) (cn : Nat) (bl c : Nat) (ns : List ByteArray) (xs : List Int) (h : Two w0 wS w g lb N cn (.slice (some ⟨bl, 0, none⟩) ns.length c) ns xs xs) (hnd : ns.Nodup) (a1 : Int) (s : ByteArray) (y : Int) (h0 : 0 ≤ a1) (h6 : a1 % 6 = 2) (i : Nat) (hf : findN ns (cutT s 45) = some i) :
    Calls Try.prog 13 #[.pointer (some ⟨g, 0, none⟩), (.slice (some ⟨bl, 0, none⟩) ns.length c), .agg #[.int .u8 a1, .string s, .int .u64 y]] w fun e w' => e = .returned (.bool true) ∧ Two w0 wS w' g lb N cn (.slice (some ⟨bl, 0, none⟩) ns.length c) ns (xs.set i (max (rd xs (i : Int)) y)) (xs.set i (max (rd xs (i : Int)) y)) := by
  have H := Aside0.mk (h.alloc (.cells #[.int .u8 a1, .string s, .int .u64 y] 35))
  have HND := Aside0.mk hnd
  have HLEN := Aside0.mk h.t.len
  have HBX := Aside0.mk (blk_new w (.cells #[.int .u8 a1, .string s, .int .u64 y] 35))
  have hn1000 : ns.length ≤ 1000 := h.t.few
  have HSZ := Aside0.mk (show (cutT s 45).size ≤ 1000 from Nat.le_trans (cutT_size s 45) (by omega))
  have hi := find_at hnd hf
  have hi1 := hi.1
  have HI := Aside0.mk hi
  have hfp : fpos ns (cutT s 45) = (i : Int) := by unfold fpos; rw [hf]
  have HFP := Aside0.mk hfp
  have hi0 : (0 : Int) ≤ (i : Int) := Int.natCast_nonneg i
  have hi2 : (i : Int) < (ns.length : Int) := Int.ofNat_lt.2 hi1
  clear h hnd hi hfp hf
  go_enter Try.func13, Try.ntmps13
  go_wp2_with (first | (go_at_call 18; go_must (refine (cutT_any s 45 _).mono ?_; rintro e w1 ⟨rfl, rfl⟩)) | (go_at_call 16; go_must (refine (t_find _ w0.heap.size _ ns xs (cutT s 45) H.out.r HND.out hn1000).mono ?_; rw [HFP.out]; rintro e w2 ⟨rfl, hb2⟩; have H2 := Aside0.mk (H.out.below hb2); have BK := blk_below HBX.out hb2; have x0 := (blk_cell BK 0).trans rfl; have x1 := (blk_cell BK 1).trans rfl; have x2 := (blk_cell BK 2).trans rfl; have hr := H2.out.r.at_ i hi1; obtain ⟨bl', c', e1, r1, r2, r3, _, _⟩ := hr; cases e1; clear BK hb2)))
  go_region
  have HM := Aside0.mk (H2.out.store rfl HLEN.out i hi1 (max (rd xs (i : Int)) y)).drew
  go_wp2_with (go_at_call 21; go_must (refine (t_most _ g lb N cn ns xs _ HM.out.t HSZ.out y i HI.out).mono ?_; rintro e w3 ⟨rfl, hT3, hf3⟩; have H3 := Aside0.mk (HM.out.call hT3 hf3); clear hT3 hf3))
  go_ret
  exact ⟨rfl, H3.out⟩
set_option maxRecDepth 100000 in
set_option maxHeartbeats 2000000 in
theorem do_maxn (w0 wS w : World) (g lb : Nat) (N : Option Addr) (cn : Nat) (v : Value) (ns : List ByteArray) (xs : List Int) (h : Two w0 wS w g lb N cn v ns xs xs) (hnd : ns.Nodup) (a1 : Int) (s : ByteArray) (y : Int) (h0 : 0 ≤ a1) (h6 : a1 % 6 = 2) (hf : findN ns (cutT s 45) = none) :
    Calls Try.prog 13 #[.pointer (some ⟨g, 0, none⟩), v, .agg #[.int .u8 a1, .string s, .int .u64 y]] w fun e w' => e = .returned (.bool true) ∧ Two w0 wS w' g lb N cn v ns xs xs := by
  obtain ⟨A, c, rfl⟩ := own_slice h.r
  have H := Aside0.mk (h.alloc (.cells #[.int .u8 a1, .string s, .int .u64 y] 35))
  have HND := Aside0.mk hnd
  have HLEN := Aside0.mk h.t.len
  have HBX := Aside0.mk (blk_new w (.cells #[.int .u8 a1, .string s, .int .u64 y] 35))
  have hn1000 : ns.length ≤ 1000 := h.t.few
  have HSZ := Aside0.mk (show (cutT s 45).size ≤ 1000 from Nat.le_trans (cutT_size s 45) (by omega))
  have hi := find_not hf
  have HI := Aside0.mk hi
  have hfp : fpos ns (cutT s 45) = (-1 : Int) := by unfold fpos; rw [hf]
  have HFP := Aside0.mk hfp
  clear h hnd hi hfp hf
  go_enter Try.func13, Try.ntmps13
  go_wp2_with (first | (go_at_call 18; go_must (refine (cutT_any s 45 _).mono ?_; rintro e w1 ⟨rfl, rfl⟩)) | (go_at_call 16; go_must (refine (t_find _ w0.heap.size _ ns xs (cutT s 45) H.out.r HND.out hn1000).mono ?_; rw [HFP.out]; rintro e w2 ⟨rfl, hb2⟩; have H2 := Aside0.mk (H.out.below hb2); have BK := blk_below HBX.out hb2; have x0 := (blk_cell BK 0).trans rfl; have x1 := (blk_cell BK 1).trans rfl; have x2 := (blk_cell BK 2).trans rfl; clear BK hb2)) | (go_at_call 21; go_must (refine (t_most_not _ g lb N cn ns xs _ H2.out.t HSZ.out y HI.out).mono ?_; rintro e w3 ⟨rfl, hT3, hf3⟩; have H3 := Aside0.mk (H2.out.call hT3 hf3); clear hT3 hf3)))
  go_ret
  exact ⟨rfl, H3.out⟩
set_option maxRecDepth 100000 in
set_option maxHeartbeats 2000000 in
theorem do_take (w0 wS w : World) (g lb : Nat) (N : Option Addr) (cn : Nat) (bl c : Nat) (ns : List ByteArray) (xs : List Int) (h : Two w0 wS w g lb N cn (.slice (some ⟨bl, 0, none⟩) ns.length c) ns xs xs) (hnd : ns.Nodup) (a1 : Int) (s : ByteArray) (y : Int) (h0 : 0 ≤ a1) (h6 : a1 % 6 = 3) (i : Nat) (hf : findN ns (cutT s 45) = some i) :
    Calls Try.prog 13 #[.pointer (some ⟨g, 0, none⟩), (.slice (some ⟨bl, 0, none⟩) ns.length c), .agg #[.int .u8 a1, .string s, .int .u64 y]] w fun e w' => e = .returned (.bool true) ∧ Two w0 wS w' g lb N cn (.slice (some ⟨bl, 0, none⟩) ns.length c) ns (xs.set i 0) (xs.set i 0) := by
  have H := Aside0.mk (h.alloc (.cells #[.int .u8 a1, .string s, .int .u64 y] 35))
  have HND := Aside0.mk hnd
  have HLEN := Aside0.mk h.t.len
  have HBX := Aside0.mk (blk_new w (.cells #[.int .u8 a1, .string s, .int .u64 y] 35))
  have hn1000 : ns.length ≤ 1000 := h.t.few
  have HSZ := Aside0.mk (show (cutT s 45).size ≤ 1000 from Nat.le_trans (cutT_size s 45) (by omega))
  have hi := find_at hnd hf
  have hi1 := hi.1
  have HI := Aside0.mk hi
  have hfp : fpos ns (cutT s 45) = (i : Int) := by unfold fpos; rw [hf]
  have HFP := Aside0.mk hfp
  have hi0 : (0 : Int) ≤ (i : Int) := Int.natCast_nonneg i
  have hi2 : (i : Int) < (ns.length : Int) := Int.ofNat_lt.2 hi1
  clear h hnd hi hfp hf
  go_enter Try.func13, Try.ntmps13
  go_wp2_with (first | (go_at_call 18; go_must (refine (cutT_any s 45 _).mono ?_; rintro e w1 ⟨rfl, rfl⟩)) | (go_at_call 16; go_must (refine (t_find _ w0.heap.size _ ns xs (cutT s 45) H.out.r HND.out hn1000).mono ?_; rw [HFP.out]; rintro e w2 ⟨rfl, hb2⟩; have H2 := Aside0.mk (H.out.below hb2); have BK := blk_below HBX.out hb2; have x0 := (blk_cell BK 0).trans rfl; have x1 := (blk_cell BK 1).trans rfl; have x2 := (blk_cell BK 2).trans rfl; have hr := H2.out.r.at_ i hi1; obtain ⟨bl', c', e1, r1, r2, r3, _, _⟩ := hr; cases e1; clear BK hb2)) | (go_at_call 22; go_must (have HM := Aside0.mk (H2.out.store rfl HLEN.out i hi1 0); refine (t_take _ g lb N cn ns xs _ HM.out.t HSZ.out i HI.out).mono ?_; rintro e w3 ⟨rfl, hT3, hf3⟩; have H3 := Aside0.mk (HM.out.call hT3 hf3); clear hT3 hf3)))
  go_ret
  exact ⟨rfl, H3.out⟩
set_option maxRecDepth 100000 in
set_option maxHeartbeats 2000000 in
theorem do_taken (w0 wS w : World) (g lb : Nat) (N : Option Addr) (cn : Nat) (v : Value) (ns : List ByteArray) (xs : List Int) (h : Two w0 wS w g lb N cn v ns xs xs) (hnd : ns.Nodup) (a1 : Int) (s : ByteArray) (y : Int) (h0 : 0 ≤ a1) (h6 : a1 % 6 = 3) (hf : findN ns (cutT s 45) = none) :
    Calls Try.prog 13 #[.pointer (some ⟨g, 0, none⟩), v, .agg #[.int .u8 a1, .string s, .int .u64 y]] w fun e w' => e = .returned (.bool true) ∧ Two w0 wS w' g lb N cn v ns xs xs := by
  obtain ⟨A, c, rfl⟩ := own_slice h.r
  have H := Aside0.mk (h.alloc (.cells #[.int .u8 a1, .string s, .int .u64 y] 35))
  have HND := Aside0.mk hnd
  have HLEN := Aside0.mk h.t.len
  have HBX := Aside0.mk (blk_new w (.cells #[.int .u8 a1, .string s, .int .u64 y] 35))
  have hn1000 : ns.length ≤ 1000 := h.t.few
  have HSZ := Aside0.mk (show (cutT s 45).size ≤ 1000 from Nat.le_trans (cutT_size s 45) (by omega))
  have hi := find_not hf
  have HI := Aside0.mk hi
  have hfp : fpos ns (cutT s 45) = (-1 : Int) := by unfold fpos; rw [hf]
  have HFP := Aside0.mk hfp
  clear h hnd hi hfp hf
  go_enter Try.func13, Try.ntmps13
  go_wp2_with (first | (go_at_call 18; go_must (refine (cutT_any s 45 _).mono ?_; rintro e w1 ⟨rfl, rfl⟩)) | (go_at_call 16; go_must (refine (t_find _ w0.heap.size _ ns xs (cutT s 45) H.out.r HND.out hn1000).mono ?_; rw [HFP.out]; rintro e w2 ⟨rfl, hb2⟩; have H2 := Aside0.mk (H.out.below hb2); have BK := blk_below HBX.out hb2; have x0 := (blk_cell BK 0).trans rfl; have x1 := (blk_cell BK 1).trans rfl; have x2 := (blk_cell BK 2).trans rfl; clear BK hb2)) | (go_at_call 22; go_must (refine (t_take_not _ g lb N cn ns xs _ H2.out.t HSZ.out HI.out).mono ?_; rintro e w3 ⟨rfl, hT3, hf3⟩; have H3 := Aside0.mk (H2.out.call hT3 hf3); clear hT3 hf3)))
  go_ret
  exact ⟨rfl, H3.out⟩
set_option maxRecDepth 100000 in
set_option maxHeartbeats 2000000 in
theorem do_get (w0 wS w : World) (g lb : Nat) (N : Option Addr) (cn : Nat) (bl c : Nat) (ns : List ByteArray) (xs : List Int) (h : Two w0 wS w g lb N cn (.slice (some ⟨bl, 0, none⟩) ns.length c) ns xs xs) (hnd : ns.Nodup) (a1 : Int) (s : ByteArray) (y : Int) (h0 : 0 ≤ a1) (h6 : a1 % 6 = 4) (i : Nat) (hf : findN ns (cutT s 45) = some i) :
    Calls Try.prog 13 #[.pointer (some ⟨g, 0, none⟩), (.slice (some ⟨bl, 0, none⟩) ns.length c), .agg #[.int .u8 a1, .string s, .int .u64 y]] w fun e w' => e = .returned (.bool true) ∧ Two w0 wS w' g lb N cn (.slice (some ⟨bl, 0, none⟩) ns.length c) ns xs xs := by
  have H := Aside0.mk (h.alloc (.cells #[.int .u8 a1, .string s, .int .u64 y] 35))
  have HND := Aside0.mk hnd
  have HLEN := Aside0.mk h.t.len
  have HBX := Aside0.mk (blk_new w (.cells #[.int .u8 a1, .string s, .int .u64 y] 35))
  have hn1000 : ns.length ≤ 1000 := h.t.few
  have HSZ := Aside0.mk (show (cutT s 45).size ≤ 1000 from Nat.le_trans (cutT_size s 45) (by omega))
  have hi := find_at hnd hf
  have hi1 := hi.1
  have HI := Aside0.mk hi
  have hfp : fpos ns (cutT s 45) = (i : Int) := by unfold fpos; rw [hf]
  have HFP := Aside0.mk hfp
  have hi0 : (0 : Int) ≤ (i : Int) := Int.natCast_nonneg i
  have hi2 : (i : Int) < (ns.length : Int) := Int.ofNat_lt.2 hi1
  clear h hnd hi hfp hf
  go_enter Try.func13, Try.ntmps13
  go_wp2_with (first | (go_at_call 18; go_must (refine (cutT_any s 45 _).mono ?_; rintro e w1 ⟨rfl, rfl⟩)) | (go_at_call 16; go_must (refine (t_find _ w0.heap.size _ ns xs (cutT s 45) H.out.r HND.out hn1000).mono ?_; rw [HFP.out]; rintro e w2 ⟨rfl, hb2⟩; have H2 := Aside0.mk (H.out.below hb2); have BK := blk_below HBX.out hb2; have x0 := (blk_cell BK 0).trans rfl; have x1 := (blk_cell BK 1).trans rfl; have x2 := (blk_cell BK 2).trans rfl; have hr := H2.out.r.at_ i hi1; obtain ⟨bl', c', e1, r1, r2, r3, _, _⟩ := hr; cases e1; clear BK hb2)) | (go_at_call 23; go_must (refine (t_get _ g lb N cn ns xs _ H2.out.t HSZ.out i HI.out).mono ?_; rintro e w3 ⟨rfl, hT3, hf3⟩; have H3 := Aside0.mk (H2.out.call hT3 hf3); clear hT3 hf3)))
  go_ret
  exact ⟨rfl, H3.out⟩
set_option maxRecDepth 100000 in
set_option maxHeartbeats 2000000 in
theorem do_getn (w0 wS w : World) (g lb : Nat) (N : Option Addr) (cn : Nat) (v : Value) (ns : List ByteArray) (xs : List Int) (h : Two w0 wS w g lb N cn v ns xs xs) (hnd : ns.Nodup) (a1 : Int) (s : ByteArray) (y : Int) (h0 : 0 ≤ a1) (h6 : a1 % 6 = 4) (hf : findN ns (cutT s 45) = none) :
    Calls Try.prog 13 #[.pointer (some ⟨g, 0, none⟩), v, .agg #[.int .u8 a1, .string s, .int .u64 y]] w fun e w' => e = .returned (.bool true) ∧ Two w0 wS w' g lb N cn v ns xs xs := by
  obtain ⟨A, c, rfl⟩ := own_slice h.r
  have H := Aside0.mk (h.alloc (.cells #[.int .u8 a1, .string s, .int .u64 y] 35))
  have HND := Aside0.mk hnd
  have HLEN := Aside0.mk h.t.len
  have HBX := Aside0.mk (blk_new w (.cells #[.int .u8 a1, .string s, .int .u64 y] 35))
  have hn1000 : ns.length ≤ 1000 := h.t.few
  have HSZ := Aside0.mk (show (cutT s 45).size ≤ 1000 from Nat.le_trans (cutT_size s 45) (by omega))
  have hi := find_not hf
  have HI := Aside0.mk hi
  have hfp : fpos ns (cutT s 45) = (-1 : Int) := by unfold fpos; rw [hf]
  have HFP := Aside0.mk hfp
  clear h hnd hi hfp hf
  go_enter Try.func13, Try.ntmps13
  go_wp2_with (first | (go_at_call 18; go_must (refine (cutT_any s 45 _).mono ?_; rintro e w1 ⟨rfl, rfl⟩)) | (go_at_call 16; go_must (refine (t_find _ w0.heap.size _ ns xs (cutT s 45) H.out.r HND.out hn1000).mono ?_; rw [HFP.out]; rintro e w2 ⟨rfl, hb2⟩; have H2 := Aside0.mk (H.out.below hb2); have BK := blk_below HBX.out hb2; have x0 := (blk_cell BK 0).trans rfl; have x1 := (blk_cell BK 1).trans rfl; have x2 := (blk_cell BK 2).trans rfl; clear BK hb2)) | (go_at_call 23; go_must (refine (t_get_not _ g lb N cn ns xs _ H2.out.t HSZ.out HI.out).mono ?_; rintro e w3 ⟨rfl, hT3, hf3⟩; have H3 := Aside0.mk (H2.out.call hT3 hf3); clear hT3 hf3)))
  go_ret
  exact ⟨rfl, H3.out⟩
set_option maxRecDepth 100000 in
set_option maxHeartbeats 2000000 in
theorem do_add0 (w0 wS w : World) (g lb : Nat) (N : Option Addr) (cn : Nat) (bl c : Nat) (ns : List ByteArray) (xs : List Int) (h : Two w0 wS w g lb N cn (.slice (some ⟨bl, 0, none⟩) ns.length c) ns xs xs) (hnd : ns.Nodup) (a1 : Int) (s : ByteArray) (y : Int) (h0 : 0 ≤ a1) (h6 : a1 % 6 = 0) (i : Nat) (hf : findN ns (cutT s 45) = some i) :
    Calls Try.prog 13 #[.pointer (some ⟨g, 0, none⟩), (.slice (some ⟨bl, 0, none⟩) ns.length c), .agg #[.int .u8 a1, .string s, .int .u64 y]] w fun e w' => e = .returned (.bool true) ∧ Two w0 wS w' g lb N cn (.slice (some ⟨bl, 0, none⟩) ns.length c) ns (xs.set i (IntKind.u64.wrap (rd xs (i : Int) + y))) (xs.set i (IntKind.u64.wrap (rd xs (i : Int) + y))) := by
  have H := Aside0.mk (h.alloc (.cells #[.int .u8 a1, .string s, .int .u64 y] 35))
  have HND := Aside0.mk hnd
  have HLEN := Aside0.mk h.t.len
  have HBX := Aside0.mk (blk_new w (.cells #[.int .u8 a1, .string s, .int .u64 y] 35))
  have hn1000 : ns.length ≤ 1000 := h.t.few
  have HSZ := Aside0.mk (show (cutT s 45).size ≤ 1000 from Nat.le_trans (cutT_size s 45) (by omega))
  have hi := find_at hnd hf
  have hi1 := hi.1
  have HI := Aside0.mk hi
  have hfp : fpos ns (cutT s 45) = (i : Int) := by unfold fpos; rw [hf]
  have HFP := Aside0.mk hfp
  have hi0 : (0 : Int) ≤ (i : Int) := Int.natCast_nonneg i
  have hi2 : (i : Int) < (ns.length : Int) := Int.ofNat_lt.2 hi1
  clear h hnd hi hfp hf
  go_enter Try.func13, Try.ntmps13
  go_wp2_with (first | (go_at_call 18; go_must (refine (cutT_any s 45 _).mono ?_; rintro e w1 ⟨rfl, rfl⟩)) | (go_at_call 16; go_must (refine (t_find _ w0.heap.size _ ns xs (cutT s 45) H.out.r HND.out hn1000).mono ?_; rw [HFP.out]; rintro e w2 ⟨rfl, hb2⟩; have H2 := Aside0.mk (H.out.below hb2); have BK := blk_below HBX.out hb2; have x0 := (blk_cell BK 0).trans rfl; have x1 := (blk_cell BK 1).trans rfl; have x2 := (blk_cell BK 2).trans rfl; have hr := H2.out.r.at_ i hi1; obtain ⟨bl', c', e1, r1, r2, r3, _, _⟩ := hr; cases e1; clear BK hb2)))
  go_region
  have HM := Aside0.mk (H2.out.store rfl HLEN.out i hi1 (IntKind.u64.wrap (rd xs (i : Int) + y))).drew
  go_wp2_with (go_at_call 20; go_must (refine (t_add _ g lb N cn ns xs _ HM.out.t HSZ.out y i HI.out).mono ?_; rintro e w3 ⟨rfl, hT3, hf3⟩; have H3 := Aside0.mk (HM.out.call hT3 hf3); clear hT3 hf3))
  go_ret
  exact ⟨rfl, H3.out⟩
set_option maxRecDepth 100000 in
set_option maxHeartbeats 2000000 in
theorem do_addn0 (w0 wS w : World) (g lb : Nat) (N : Option Addr) (cn : Nat) (v : Value) (ns : List ByteArray) (xs : List Int) (h : Two w0 wS w g lb N cn v ns xs xs) (hnd : ns.Nodup) (a1 : Int) (s : ByteArray) (y : Int) (h0 : 0 ≤ a1) (h6 : a1 % 6 = 0) (hf : findN ns (cutT s 45) = none) :
    Calls Try.prog 13 #[.pointer (some ⟨g, 0, none⟩), v, .agg #[.int .u8 a1, .string s, .int .u64 y]] w fun e w' => e = .returned (.bool true) ∧ Two w0 wS w' g lb N cn v ns xs xs := by
  obtain ⟨A, c, rfl⟩ := own_slice h.r
  have H := Aside0.mk (h.alloc (.cells #[.int .u8 a1, .string s, .int .u64 y] 35))
  have HND := Aside0.mk hnd
  have HLEN := Aside0.mk h.t.len
  have HBX := Aside0.mk (blk_new w (.cells #[.int .u8 a1, .string s, .int .u64 y] 35))
  have hn1000 : ns.length ≤ 1000 := h.t.few
  have HSZ := Aside0.mk (show (cutT s 45).size ≤ 1000 from Nat.le_trans (cutT_size s 45) (by omega))
  have hi := find_not hf
  have HI := Aside0.mk hi
  have hfp : fpos ns (cutT s 45) = (-1 : Int) := by unfold fpos; rw [hf]
  have HFP := Aside0.mk hfp
  clear h hnd hi hfp hf
  go_enter Try.func13, Try.ntmps13
  go_wp2_with (first | (go_at_call 18; go_must (refine (cutT_any s 45 _).mono ?_; rintro e w1 ⟨rfl, rfl⟩)) | (go_at_call 16; go_must (refine (t_find _ w0.heap.size _ ns xs (cutT s 45) H.out.r HND.out hn1000).mono ?_; rw [HFP.out]; rintro e w2 ⟨rfl, hb2⟩; have H2 := Aside0.mk (H.out.below hb2); have BK := blk_below HBX.out hb2; have x0 := (blk_cell BK 0).trans rfl; have x1 := (blk_cell BK 1).trans rfl; have x2 := (blk_cell BK 2).trans rfl; clear BK hb2)) | (go_at_call 20; go_must (refine (t_add_not _ g lb N cn ns xs _ H2.out.t HSZ.out y HI.out).mono ?_; rintro e w3 ⟨rfl, hT3, hf3⟩; have H3 := Aside0.mk (H2.out.call hT3 hf3); clear hT3 hf3)))
  go_ret
  exact ⟨rfl, H3.out⟩
set_option maxRecDepth 100000 in
set_option maxHeartbeats 2000000 in
theorem do_add1 (w0 wS w : World) (g lb : Nat) (N : Option Addr) (cn : Nat) (bl c : Nat) (ns : List ByteArray) (xs : List Int) (h : Two w0 wS w g lb N cn (.slice (some ⟨bl, 0, none⟩) ns.length c) ns xs xs) (hnd : ns.Nodup) (a1 : Int) (s : ByteArray) (y : Int) (h0 : 0 ≤ a1) (h6 : a1 % 6 = 1) (i : Nat) (hf : findN ns (cutT s 45) = some i) :
    Calls Try.prog 13 #[.pointer (some ⟨g, 0, none⟩), (.slice (some ⟨bl, 0, none⟩) ns.length c), .agg #[.int .u8 a1, .string s, .int .u64 y]] w fun e w' => e = .returned (.bool true) ∧ Two w0 wS w' g lb N cn (.slice (some ⟨bl, 0, none⟩) ns.length c) ns (xs.set i (IntKind.u64.wrap (rd xs (i : Int) + y))) (xs.set i (IntKind.u64.wrap (rd xs (i : Int) + y))) := by
  have H := Aside0.mk (h.alloc (.cells #[.int .u8 a1, .string s, .int .u64 y] 35))
  have HND := Aside0.mk hnd
  have HLEN := Aside0.mk h.t.len
  have HBX := Aside0.mk (blk_new w (.cells #[.int .u8 a1, .string s, .int .u64 y] 35))
  have hn1000 : ns.length ≤ 1000 := h.t.few
  have HSZ := Aside0.mk (show (cutT s 45).size ≤ 1000 from Nat.le_trans (cutT_size s 45) (by omega))
  have hi := find_at hnd hf
  have hi1 := hi.1
  have HI := Aside0.mk hi
  have hfp : fpos ns (cutT s 45) = (i : Int) := by unfold fpos; rw [hf]
  have HFP := Aside0.mk hfp
  have hi0 : (0 : Int) ≤ (i : Int) := Int.natCast_nonneg i
  have hi2 : (i : Int) < (ns.length : Int) := Int.ofNat_lt.2 hi1
  clear h hnd hi hfp hf
  go_enter Try.func13, Try.ntmps13
  go_wp2_with (first | (go_at_call 18; go_must (refine (cutT_any s 45 _).mono ?_; rintro e w1 ⟨rfl, rfl⟩)) | (go_at_call 16; go_must (refine (t_find _ w0.heap.size _ ns xs (cutT s 45) H.out.r HND.out hn1000).mono ?_; rw [HFP.out]; rintro e w2 ⟨rfl, hb2⟩; have H2 := Aside0.mk (H.out.below hb2); have BK := blk_below HBX.out hb2; have x0 := (blk_cell BK 0).trans rfl; have x1 := (blk_cell BK 1).trans rfl; have x2 := (blk_cell BK 2).trans rfl; have hr := H2.out.r.at_ i hi1; obtain ⟨bl', c', e1, r1, r2, r3, _, _⟩ := hr; cases e1; clear BK hb2)))
  go_region
  have HM := Aside0.mk (H2.out.store rfl HLEN.out i hi1 (IntKind.u64.wrap (rd xs (i : Int) + y))).drew
  go_wp2_with (go_at_call 20; go_must (refine (t_add _ g lb N cn ns xs _ HM.out.t HSZ.out y i HI.out).mono ?_; rintro e w3 ⟨rfl, hT3, hf3⟩; have H3 := Aside0.mk (HM.out.call hT3 hf3); clear hT3 hf3))
  go_ret
  exact ⟨rfl, H3.out⟩
set_option maxRecDepth 100000 in
set_option maxHeartbeats 2000000 in
theorem do_addn1 (w0 wS w : World) (g lb : Nat) (N : Option Addr) (cn : Nat) (v : Value) (ns : List ByteArray) (xs : List Int) (h : Two w0 wS w g lb N cn v ns xs xs) (hnd : ns.Nodup) (a1 : Int) (s : ByteArray) (y : Int) (h0 : 0 ≤ a1) (h6 : a1 % 6 = 1) (hf : findN ns (cutT s 45) = none) :
    Calls Try.prog 13 #[.pointer (some ⟨g, 0, none⟩), v, .agg #[.int .u8 a1, .string s, .int .u64 y]] w fun e w' => e = .returned (.bool true) ∧ Two w0 wS w' g lb N cn v ns xs xs := by
  obtain ⟨A, c, rfl⟩ := own_slice h.r
  have H := Aside0.mk (h.alloc (.cells #[.int .u8 a1, .string s, .int .u64 y] 35))
  have HND := Aside0.mk hnd
  have HLEN := Aside0.mk h.t.len
  have HBX := Aside0.mk (blk_new w (.cells #[.int .u8 a1, .string s, .int .u64 y] 35))
  have hn1000 : ns.length ≤ 1000 := h.t.few
  have HSZ := Aside0.mk (show (cutT s 45).size ≤ 1000 from Nat.le_trans (cutT_size s 45) (by omega))
  have hi := find_not hf
  have HI := Aside0.mk hi
  have hfp : fpos ns (cutT s 45) = (-1 : Int) := by unfold fpos; rw [hf]
  have HFP := Aside0.mk hfp
  clear h hnd hi hfp hf
  go_enter Try.func13, Try.ntmps13
  go_wp2_with (first | (go_at_call 18; go_must (refine (cutT_any s 45 _).mono ?_; rintro e w1 ⟨rfl, rfl⟩)) | (go_at_call 16; go_must (refine (t_find _ w0.heap.size _ ns xs (cutT s 45) H.out.r HND.out hn1000).mono ?_; rw [HFP.out]; rintro e w2 ⟨rfl, hb2⟩; have H2 := Aside0.mk (H.out.below hb2); have BK := blk_below HBX.out hb2; have x0 := (blk_cell BK 0).trans rfl; have x1 := (blk_cell BK 1).trans rfl; have x2 := (blk_cell BK 2).trans rfl; clear BK hb2)) | (go_at_call 20; go_must (refine (t_add_not _ g lb N cn ns xs _ H2.out.t HSZ.out y HI.out).mono ?_; rintro e w3 ⟨rfl, hT3, hf3⟩; have H3 := Aside0.mk (H2.out.call hT3 hf3); clear hT3 hf3)))
  go_ret
  exact ⟨rfl, H3.out⟩
set_option maxRecDepth 100000 in
set_option maxHeartbeats 2000000 in
theorem do_reset (w0 wS w : World) (g lb : Nat) (N : Option Addr) (cn : Nat) (v : Value) (ns : List ByteArray) (xs : List Int) (h : Two w0 wS w g lb N cn v ns xs xs) (hnd : ns.Nodup) (a1 : Int) (s : ByteArray) (y : Int) (h0 : 0 ≤ a1) (h6 : a1 % 6 = 5) :
    Calls Try.prog 13 #[.pointer (some ⟨g, 0, none⟩), v, .agg #[.int .u8 a1, .string s, .int .u64 y]] w fun e w' => e = .returned (.bool true) ∧ Two w0 wS w' g lb N cn v ns (List.replicate ns.length 0) (List.replicate ns.length 0) := by
  have hvs : ∃ A c, v = .slice A ns.length c := by
    obtain ⟨A, c, e⟩ := own_slice h.r
    rw [cntL_len] at e
    exact ⟨A, c, e⟩
  obtain ⟨A, c, rfl⟩ := hvs
  have H := Aside0.mk (h.alloc (.cells #[.int .u8 a1, .string s, .int .u64 y] 35))
  have HND := Aside0.mk hnd
  have HLEN := Aside0.mk h.t.len
  have HBX := Aside0.mk (blk_new w (.cells #[.int .u8 a1, .string s, .int .u64 y] 35))
  have hn1000 : ns.length ≤ 1000 := h.t.few
  have hmid : ∃ r : Int, fpos ns (cutT s 45) = r ∧ ((r = -1) ∨ (0 ≤ r ∧ ∃ i : Nat, r = (i : Int) ∧ i < ns.length)) := by
    unfold fpos
    cases hf : findN ns (cutT s 45) with
    | none => exact ⟨_, rfl, .inl rfl⟩
    | some i => exact ⟨(i : Int), rfl, .inr ⟨Int.natCast_nonneg i, i, rfl, (find_at hnd hf).1⟩⟩
  obtain ⟨r, hfp, hr⟩ := hmid
  have HFP := Aside0.mk hfp
  clear h hnd hfp
  rcases hr with rfl | ⟨hr0, i, rfl, hi1⟩
  · go_enter Try.func13, Try.ntmps13
    go_wp2_with (first | (go_at_call 18; go_must (refine (cutT_any s 45 _).mono ?_; rintro e w1 ⟨rfl, rfl⟩)) | (go_at_call 16; go_must (refine (t_find _ w0.heap.size _ ns xs (cutT s 45) H.out.r HND.out hn1000).mono ?_; rw [HFP.out]; rintro e w2 ⟨rfl, hb2⟩; have H2 := Aside0.mk (H.out.below hb2); have BK := blk_below HBX.out hb2; have x0 := (blk_cell BK 0).trans rfl; have x1 := (blk_cell BK 1).trans rfl; have x2 := (blk_cell BK 2).trans rfl; clear BK hb2)))
    clear x0 x1 x2
    go_loopw [75, 10] (fun i _ wr => ∃ k : Nat, k ≤ ns.length ∧ i = .int .i64 k ∧ Aside0 (Two w0 wS wr g lb N cn (.slice A ns.length c) ns xs (zu xs k))) (fun i _ _ => ns.length - (intOf i).toNat)
    case atStart => exact ⟨0, Nat.zero_le _, rfl, ⟨by simpa [zu] using H2.out⟩⟩
    case round =>
      obtain ⟨k, hk, rfl, HK⟩ := hrel
      by_cases hlt : k < ns.length
      · obtain ⟨bl, c', e1, r1, r2, r3, _, _⟩ := HK.out.r.at_ k hlt
        cases e1
        have hk0 : (0 : Int) ≤ (k : Int) := Int.natCast_nonneg k
        have hk1 : (k : Int) < (ns.length : Int) := Int.ofNat_lt.2 hlt
        have HS := Aside0.mk (HK.out.store rfl (by have := HLEN.out; simp [zu]; omega) k hlt 0)
        go_wp2
        go_roundw
        case rel => exact ⟨k + 1, hlt, by go_num, ⟨by rw [← zu_set xs k (by rw [HLEN.out]; exact hlt)]; exact HS.out⟩⟩
        case measure => simp [intOf]; omega
      · have hke : k = ns.length := by omega
        have HZ := Aside0.mk (show Two w0 wS wr g lb N cn (.slice A ns.length c) ns xs (List.replicate ns.length 0) from by
          have h := HK.out
          unfold zu at h
          rw [hke, List.drop_of_length_le (by have := HLEN.out; omega), List.append_nil] at h
          exact h)
        clear hke
        go_wp2_with (go_at_call 19; go_must (refine (t_reset _ g lb N cn ns _ HZ.out.t HND.out).mono ?_; rintro e w3 ⟨rfl, hT3, hf3⟩; have H3 := Aside0.mk (HZ.out.call hT3 hf3); clear hT3 hf3))
        go_ret
        exact ⟨rfl, H3.out⟩
  · have hi2 : (i : Int) < (ns.length : Int) := by omega
    go_enter Try.func13, Try.ntmps13
    go_wp2_with (first | (go_at_call 18; go_must (refine (cutT_any s 45 _).mono ?_; rintro e w1 ⟨rfl, rfl⟩)) | (go_at_call 16; go_must (refine (t_find _ w0.heap.size _ ns xs (cutT s 45) H.out.r HND.out hn1000).mono ?_; rw [HFP.out]; rintro e w2 ⟨rfl, hb2⟩; have H2 := Aside0.mk (H.out.below hb2); have BK := blk_below HBX.out hb2; have x0 := (blk_cell BK 0).trans rfl; have x1 := (blk_cell BK 1).trans rfl; have x2 := (blk_cell BK 2).trans rfl; have hr := H2.out.r.at_ i hi1; obtain ⟨bl, c', e1, r1, r2, r3, _, _⟩ := hr; cases e1; clear BK hb2)))
    clear x0 x1 x2 r1 r2 r3
    go_loopw [75, 10] (fun i _ wr => ∃ k : Nat, k ≤ ns.length ∧ i = .int .i64 k ∧ Aside0 (Two w0 wS wr g lb N cn (.slice (some ⟨bl, 0, none⟩) ns.length c) ns xs (zu xs k))) (fun i _ _ => ns.length - (intOf i).toNat)
    case atStart => exact ⟨0, Nat.zero_le _, rfl, ⟨by simpa [zu] using H2.out⟩⟩
    case round =>
      obtain ⟨k, hk, rfl, HK⟩ := hrel
      by_cases hlt : k < ns.length
      · obtain ⟨bl', c', e1, r1, r2, r3, _, _⟩ := HK.out.r.at_ k hlt
        cases e1
        have hk0 : (0 : Int) ≤ (k : Int) := Int.natCast_nonneg k
        have hk1 : (k : Int) < (ns.length : Int) := Int.ofNat_lt.2 hlt
        have HS := Aside0.mk (HK.out.store rfl (by have := HLEN.out; simp [zu]; omega) k hlt 0)
        go_wp2
        go_roundw
        case rel => exact ⟨k + 1, hlt, by go_num, ⟨by rw [← zu_set xs k (by rw [HLEN.out]; exact hlt)]; exact HS.out⟩⟩
        case measure => simp [intOf]; omega
      · have hke : k = ns.length := by omega
        have HZ := Aside0.mk (show Two w0 wS wr g lb N cn (.slice (some ⟨bl, 0, none⟩) ns.length c) ns xs (List.replicate ns.length 0) from by
          have h := HK.out
          unfold zu at h
          rw [hke, List.drop_of_length_le (by have := HLEN.out; omega), List.append_nil] at h
          exact h)
        clear hke
        go_wp2_with (go_at_call 19; go_must (refine (t_reset _ g lb N cn ns _ HZ.out.t HND.out).mono ?_; rintro e w3 ⟨rfl, hT3, hf3⟩; have H3 := Aside0.mk (HZ.out.call hT3 hf3); clear hT3 hf3))
        go_ret
        exact ⟨rfl, H3.out⟩
theorem do_any (w0 wS w : World) (g lb : Nat) (N : Option Addr) (cn : Nat) (v : Value) (ns : List ByteArray) (xs : List Int) (h : Two w0 wS w g lb N cn v ns xs xs) (hnd : ns.Nodup) (a1 : Int) (s : ByteArray) (y : Int) (h0 : 0 ≤ a1) :
    Calls Try.prog 13 #[.pointer (some ⟨g, 0, none⟩), v, .agg #[.int .u8 a1, .string s, .int .u64 y]] w fun e w' => e = .returned (.bool true) ∧ ∃ ys, Two w0 wS w' g lb N cn v ns ys ys := by
  have h6 : a1 % 6 = 0 ∨ a1 % 6 = 1 ∨ a1 % 6 = 2 ∨ a1 % 6 = 3 ∨ a1 % 6 = 4 ∨ a1 % 6 = 5 := by omega
  have out : ∀ (ys : List Int) (e : Ending) (w' : World), (e = .returned (.bool true) ∧ Two w0 wS w' g lb N cn v ns ys ys) → (e = .returned (.bool true) ∧ ∃ ys, Two w0 wS w' g lb N cn v ns ys ys) := fun ys e w' hh => ⟨hh.1, ys, hh.2⟩
  cases hf : findN ns (cutT s 45) with
  | none =>
    rcases h6 with h6 | h6 | h6 | h6 | h6 | h6
    · exact (do_addn0 w0 wS w g lb N cn v ns xs h hnd a1 s y h0 h6 hf).mono (out _)
    · exact (do_addn1 w0 wS w g lb N cn v ns xs h hnd a1 s y h0 h6 hf).mono (out _)
    · exact (do_maxn w0 wS w g lb N cn v ns xs h hnd a1 s y h0 h6 hf).mono (out _)
    · exact (do_taken w0 wS w g lb N cn v ns xs h hnd a1 s y h0 h6 hf).mono (out _)
    · exact (do_getn w0 wS w g lb N cn v ns xs h hnd a1 s y h0 h6 hf).mono (out _)
    · exact (do_reset w0 wS w g lb N cn v ns xs h hnd a1 s y h0 h6).mono (out _)
  | some i =>
    obtain ⟨bl, c, rfl, _⟩ := h.r.at_ i (find_at hnd hf).1
    rcases h6 with h6 | h6 | h6 | h6 | h6 | h6
    · exact (do_add0 w0 wS w g lb N cn bl c ns xs h hnd a1 s y h0 h6 i hf).mono (out _)
    · exact (do_add1 w0 wS w g lb N cn bl c ns xs h hnd a1 s y h0 h6 i hf).mono (out _)
    · exact (do_max w0 wS w g lb N cn bl c ns xs h hnd a1 s y h0 h6 i hf).mono (out _)
    · exact (do_take w0 wS w g lb N cn bl c ns xs h hnd a1 s y h0 h6 i hf).mono (out _)
    · exact (do_get w0 wS w g lb N cn bl c ns xs h hnd a1 s y h0 h6 i hf).mono (out _)
    · exact (do_reset w0 wS w g lb N cn _ ns xs h hnd a1 s y h0 h6).mono (out _)
end Go.Proofs.Ytclpkbgjaiacpaa
