/- What is proved: what asks, heardDevice, heardFunctions and Hear do. Conditions: those that each theorem states. -/
import Derived.Test.YtclpkbgjaiacpaaNegoA
import Derived.WalkSpells
import Derived.Deep.DeepMust
import Derived.Deep.RegionHeld3
import Derived.StillTactics
namespace Go.Proofs.Ytclpkbgjaiacpaa
open Go.RowKit Go.Proofs.YtclpkbgjaiacpaaW.PrintWords Go.Proofs.YtclpkbgjaiacpaaW.PrintLast Go.Proofs.YtclpkbgjaiacpaaW.PrintMore
open Go.Proofs.Ytclpkbgjaiacpaa.PNegoAgrees
set_option linter.unusedVariables false
set_option linter.unusedSimpArgs false
/-- A literal of bytes, one event: the world behind it is known by what it keeps alone. -/
theorem litE {ops : Array Oper} {rest : List Oper} {o : Oper} {a : Act} {Q : Exit → Act → World → Prop} {W : World} (base : Nat) (hgd : o.guard = none) {N : Tmp} (_hd : o.dst = some N) (l : List Int)
    (hrun : (execOp a.eval o).run Try.prog W = .ok (.value (.slice (some ⟨W.heap.size, 0, none⟩) l.length l.length)) (W.alloc (.cells (l.map (Value.int .u8)).toArray 5)))
    (hb : base ≤ W.heap.size) (hl : l.length ≤ 140737488355328)
    (h : ∀ v1 w1, OwnB w1 base v1 l → Below W.heap.size W w1 → (∀ k, v1.ownBlock = some k → W.heap.size ≤ k) → wpList Try.prog ops Q rest (a.put o.dst v1) w1) : wpList Try.prog ops Q (o :: rest) a W :=
  Kd.event_run hgd hrun (h _ _ (lit_own W base l hb hl) (below_alloc (Below.refl _ _) _) (fun k hk => by
    have : W.heap.size = k := by simpa [Value.ownBlock] using hk
    omega))
/-! ### asks -/
def askedL (ty dev : ByteArray) : List Int := ([2, 7] ++ bytesOf ty) ++ (if dev.toList.isEmpty then [] else [1] ++ bytesOf dev)
theorem asks_bare (w : World) (g : Nat) (ty dev : ByteArray) (fs : Value) (st : Int) (d : ByteArray) (ag : Value) (h : EndB w g ty dev fs st d ag) (ht : ty.size ≤ 1000) (hd : dev.toList.isEmpty = true) :
    Calls Try.prog 58 #[.pointer (some ⟨g, 0, none⟩)] w fun e w' => ∃ v, e = .returned v ∧ OwnB w' w.heap.size v ([2, 7] ++ bytesOf ty) ∧ EndB w' g ty dev fs 1 (⟨#[]⟩ : ByteArray) (.slice none 0 0) ∧ Fr (only g) w w' := by
  have hc0 : w.cell? ⟨g, 0, none⟩ = some (.string ty) := blk_cell h 0
  have hc1 : w.cell? ⟨g, 1, none⟩ = some (.string dev) := blk_cell h 1
  have hc3 : w.cell? ⟨g, 3, none⟩ = some (.int .i64 st) := blk_cell h 3
  have hc4 : w.cell? ⟨g, 4, none⟩ = some (.string d) := blk_cell h 4
  have hc5 : w.cell? ⟨g, 5, none⟩ = some ag := blk_cell h 5
  have hf3 := blk_frozen h 3
  have hf4 := blk_frozen h 4
  have hf5 := blk_frozen h 5
  have hlt : g < w.heap.size := blk_lt h
  have H := Aside0.mk h
  have HT := Aside0.mk ht
  clear h ht
  go_enter Try.func58, Try.ntmps58
  go_wp2_with (first | ((with_reducible refine gate_dst (N := 13) rfl ?_); go_must (refine litE w.heap.size rfl (N := 13) rfl [2, 7] ?zr ?zb ?zl ?_; (case zr => first | (go_simp; done) | (go_simp; rfl)); (case zb => simp); (case zl => simp); intro v1 w1 ho hb hfr; have BK : w1.heap[g]? = some (.cells #[.string ty, .string dev, fs, .int .i64 1, .string ⟨#[]⟩, .slice none 0 0] 113 (0, 0)) := blk_below (by exact blk_put (blk_put (blk_put H.out 3 _ rfl) 4 _ rfl) 5 _ rfl) hb; have HF : Fr (only g) w w1 := Fr.below (by exact (((Fr.refl (only g) w).setCell (p := ⟨g, 3, none⟩) (.inl rfl) _).setCell (p := ⟨g, 4, none⟩) (.inl rfl) _).setCell (p := ⟨g, 5, none⟩) (.inl rfl) _) hb; have x0 := (blk_cell BK 0).trans rfl; have HO := Aside0.mk ho; have HB := Aside0.mk BK; have HFF := Aside0.mk HF; have HG := own_ge ho; have hz := HF.size; have hk : ∀ k, v1.ownBlock = some k → only g k ∨ w.heap.size ≤ k := fun k hk => .inr (HG k hk); have hne : some g ≠ v1.ownBlock := fun e => Nat.lt_irrefl _ (Nat.lt_of_lt_of_le hlt (HG g e.symm)); have HK := Aside0.mk hk; have HNE := Aside0.mk hne; clear hk hne HG ho BK HF hb hfr hc0 hc1 hc3 hc4 hc5 hf3 hf4 hf5)) | (at_builtin; go_must (refine appS w.heap.size rfl (.tmp 13) (.tmp 18) rfl _ [2, 7] ty rfl rfl HO.out hz ?z4 ?_; (case z4 => have h4 := HT.out; simp only [List.length_cons, List.length_nil]; omega); intro v2 w2 ho2 hg2; have BK2 := blk_grown HB.out hg2 HNE.out; have x1 := (blk_cell BK2 1).trans rfl; have HF2 := Aside0.mk (HFF.out.grown hg2 (fun i hi => HK.out i hi)); obtain ⟨A1, c1, rfl⟩ := ho2.slice; have HO2 := Aside0.mk ho2; have HB2 := Aside0.mk BK2; clear ho2 BK2 hg2)))
  go_ret
  exact ⟨_, rfl, HO2.out, HB2.out, HF2.out⟩
theorem lit_C (w : World) (l : List Int) (hl : l.length ≤ 140737488355328) : Kd.C (Kd.int .u8) (w.alloc (.cells (l.map (Value.int .u8)).toArray 5)) (some ⟨w.heap.size, 0, none⟩) l.length l := by
  obtain ⟨A, c, he, _, hC⟩ := (lit_own w w.heap.size l (Nat.le_refl _) hl).reads
  injection he with h1 h2 h3
  rw [h1]
  exact hC
set_option maxHeartbeats 1000000 in
theorem asks_dev (w : World) (g : Nat) (ty dev : ByteArray) (fs : Value) (st : Int) (d : ByteArray) (ag : Value) (h : EndB w g ty dev fs st d ag) (ht : ty.size ≤ 1000) (hd : dev.toList.isEmpty = false) (hdl : dev.size ≤ 1000) :
    Calls Try.prog 58 #[.pointer (some ⟨g, 0, none⟩)] w fun e w' => ∃ v, e = .returned v ∧ OwnB w' w.heap.size v (([2, 7] ++ bytesOf ty ++ [1]) ++ bytesOf dev) ∧ EndB w' g ty dev fs 1 (⟨#[]⟩ : ByteArray) (.slice none 0 0) ∧ Fr (only g) w w' := by
  have hc0 : w.cell? ⟨g, 0, none⟩ = some (.string ty) := blk_cell h 0
  have hc1 : w.cell? ⟨g, 1, none⟩ = some (.string dev) := blk_cell h 1
  have hc3 : w.cell? ⟨g, 3, none⟩ = some (.int .i64 st) := blk_cell h 3
  have hc4 : w.cell? ⟨g, 4, none⟩ = some (.string d) := blk_cell h 4
  have hc5 : w.cell? ⟨g, 5, none⟩ = some ag := blk_cell h 5
  have hf3 := blk_frozen h 3
  have hf4 := blk_frozen h 4
  have hf5 := blk_frozen h 5
  have hlt : g < w.heap.size := blk_lt h
  have H := Aside0.mk h
  have HT := Aside0.mk (And.intro ht hdl)
  clear h ht hdl
  go_enter Try.func58, Try.ntmps58
  go_wp2_with (first | ((with_reducible refine gate_dst (N := 13) rfl ?_); go_must (refine litE w.heap.size rfl (N := 13) rfl [2, 7] ?zr ?zb ?zl ?_; (case zr => first | (go_simp; done) | (go_simp; rfl)); (case zb => simp); (case zl => simp); intro v1 w1 ho hb hfr; have BK : w1.heap[g]? = some (.cells #[.string ty, .string dev, fs, .int .i64 1, .string ⟨#[]⟩, .slice none 0 0] 113 (0, 0)) := blk_below (by exact blk_put (blk_put (blk_put H.out 3 _ rfl) 4 _ rfl) 5 _ rfl) hb; have HF : Fr (only g) w w1 := Fr.below (by exact (((Fr.refl (only g) w).setCell (p := ⟨g, 3, none⟩) (.inl rfl) _).setCell (p := ⟨g, 4, none⟩) (.inl rfl) _).setCell (p := ⟨g, 5, none⟩) (.inl rfl) _) hb; have x0 := (blk_cell BK 0).trans rfl; have HO := Aside0.mk ho; have HB := Aside0.mk BK; have HFF := Aside0.mk HF; have HG := own_ge ho; have hz := HF.size; have hk : ∀ k, v1.ownBlock = some k → only g k ∨ w.heap.size ≤ k := fun k hk => .inr (HG k hk); have hne : some g ≠ v1.ownBlock := fun e => Nat.lt_irrefl _ (Nat.lt_of_lt_of_le hlt (HG g e.symm)); have HK := Aside0.mk hk; have HNE := Aside0.mk hne; clear hk hne HG ho BK HF hb hfr hc0 hc1 hc3 hc4 hc5 hf3 hf4 hf5)) | (at_builtin; (with_reducible refine gate_builtin (b := .append) (xs := #[.tmp 13, .tmp 18]) rfl ?_); go_must (refine appS w.heap.size rfl (.tmp 13) (.tmp 18) rfl _ [2, 7] ty rfl rfl HO.out hz ?z4 ?_; (case z4 => have h4 := HT.out.1; simp only [List.length_cons, List.length_nil]; omega); intro v2 w2 ho2 hg2; have BK2 := blk_grown HB.out hg2 HNE.out; have x1 := (blk_cell BK2 1).trans rfl; have HF2 := Aside0.mk (HFF.out.grown hg2 (fun i hi => HK.out i hi)); obtain ⟨A1, c1, rfl⟩ := ho2.slice; have HO2 := Aside0.mk ho2; have HB2 := Aside0.mk BK2; clear ho2 BK2 hg2)))
  have hz2 := HF2.out.size
  clear hz
  have hne2 : ∀ k, (Value.slice A1 ([2, 7] ++ bytesOf ty).length c1).ownBlock = some k → w.heap.size ≤ k := own_ge HO2.out
  have HNE2 := Aside0.mk hne2
  clear hne2
  go_region_held3 (fun w' => w'.cell? ⟨g, 1, none⟩ = some (.string dev)) (first | go_keep | assumption) (first | ((with_reducible refine appL_step w.heap.size ?zw (.tmp 26) (.tmp 27) rfl _ ([2, 7] ++ bytesOf ty) [1] (some ⟨w2.heap.size, 0, none⟩) 1 1 rfl rfl ?zo ?zc ?zb ?zl ?_); go_must ((case zw => rfl); (case zo => exact HO2.out.below (below_drew (below_alloc (Below.refl _ _) _))); (case zc => exact Kd.C_drew (lit_C w2 [1] (by simp))); (case zb => simp; omega); (case zl => have h4 := HT.out.1; simp only [List.length_append, lenBytes, List.length_cons, List.length_nil]; omega); intro v3 w3 ho3 hg3; have BK3 := blk_grown (blk_drew (blk_alloc HB2.out _)) hg3 (fun e => Nat.lt_irrefl _ (Nat.lt_of_lt_of_le hlt (HNE2.out g e.symm))); have x1 := (blk_cell BK3 1).trans rfl; have HF3 := Aside0.mk (Fr.grown (Fr.drew (Fr.alloc HF2.out _)) hg3 (fun i hi => .inr (HNE2.out i hi))); obtain ⟨A3, c3, rfl⟩ := ho3.slice; have HO3 := Aside0.mk ho3; have HB3 := Aside0.mk BK3; have hz3 := HF3.out.size; clear ho3 BK3 hg3)) | ((refine appS_step w.heap.size ?zw (.tmp 28) (.tmp 33) rfl _ (([2, 7] ++ bytesOf ty) ++ [1]) dev rfl rfl ?zo ?zb ?zl ?_); (case zw => rfl); (case zo => exact HO3.out); (case zb => exact hz3); (case zl => have h4 := HT.out; simp only [List.length_append, lenBytes, List.length_cons, List.length_nil]; omega); intro v4 w4 ho4 hg4; have BK4 := blk_grown HB3.out hg4 (fun e => Nat.lt_irrefl _ (Nat.lt_of_lt_of_le hlt (own_ge HO3.out g e.symm))); have x14 := (blk_cell BK4 1).trans rfl; have HF4 := Aside0.mk (HF3.out.grown hg4 (fun i hi => .inr (own_ge HO3.out i hi))); obtain ⟨A4, c4, rfl⟩ := ho4.slice; have HO4 := Aside0.mk ho4; have HB4 := Aside0.mk BK4; clear ho4 BK4 hg4))
  go_wp2
  go_ret
  exact ⟨_, rfl, by simpa using HO4.out, HB4.out, HF4.out⟩

theorem asks_any (w : World) (g : Nat) (ty dev : ByteArray) (fs : Value) (st : Int) (d : ByteArray) (ag : Value) (h : EndB w g ty dev fs st d ag) (ht : ty.size ≤ 1000) (hdl : dev.size ≤ 1000) :
    Calls Try.prog 58 #[.pointer (some ⟨g, 0, none⟩)] w fun e w' => ∃ v, e = .returned v ∧ OwnB w' w.heap.size v (askedL ty dev) ∧ EndB w' g ty dev fs 1 (⟨#[]⟩ : ByteArray) (.slice none 0 0) ∧ Fr (only g) w w' := by
  unfold askedL
  cases hd : dev.toList.isEmpty with
  | true => exact (asks_bare w g ty dev fs st d ag h ht hd).mono fun e w' ⟨v, he, ho, hr⟩ => ⟨v, he, by simpa using ho, hr⟩
  | false => exact (asks_dev w g ty dev fs st d ag h ht hd hdl).mono fun e w' ⟨v, he, ho, hr⟩ => ⟨v, he, by simpa using ho, hr⟩
/-! ### heardDevice -/
theorem cell0 {w : World} {A : Option Addr} {n : Nat} {l : List Int} (h : Kd.C (Kd.int .u8) w A n l) (i : Nat) (hi : i < n) : ∃ ad, A = some ad ∧ w.cell? (ad.add i) = some (.int .u8 (rd l i)) := by
  obtain ⟨ad, e, hx⟩ := Kd.at_int h (i : Int) (Int.natCast_nonneg i) (by omega)
  exact ⟨ad, e, by simpa only [Int.toNat_natCast] using hx⟩

theorem cell00 {w : World} {A : Option Addr} {n : Nat} {l : List Int} (h : Kd.C (Kd.int .u8) w A n l) (hi : 0 < n) : ∃ ad, A = some ad ∧ w.cell? ad = some (.int .u8 (rd l 0)) := by
  obtain ⟨ad, e, hx⟩ := cell0 h 0 hi
  exact ⟨ad, e, hx⟩

theorem cellN {w : World} {A : Option Addr} {n : Nat} {l : List Int} (h : Kd.C (Kd.int .u8) w A n l) (i : Nat) (hi : i < n) (hp : 0 < i) : ∃ ad, A = some ad ∧ w.cell? ⟨ad.block, ad.off + i, none⟩ = some (.int .u8 (rd l i)) := by
  obtain ⟨ad, e, hx⟩ := cell0 h i hi
  refine ⟨ad, e, ?_⟩
  unfold Addr.add at hx
  rw [if_neg (by omega)] at hx
  exact hx

theorem dev_refuse (w : World) (g : Nat) (ty dev : ByteArray) (fs : Value) (st : Int) (d : ByteArray) (ag : Value) (h : EndB w g ty dev fs st d ag) (A : Option Addr) (l : List Int) (c : Nat)
    (hr : Kd.C (Kd.int .u8) w A 3 l) (h0 : rd l 0 = 6) (h1 : rd l 1 = 5) (hst : st = 1) :
    Calls Try.prog 59 #[.pointer (some ⟨g, 0, none⟩), .slice A 3 c] w fun e w' => e = .returned (.tuple #[.slice none 0 0, .int .i64 0]) ∧ EndB w' g ty dev fs 4 d ag ∧ Fr (only g) w w' := by
  subst hst
  obtain ⟨ad, rfl, x0⟩ := cell00 hr (by omega)
  obtain ⟨ad', e, x1⟩ := cellN hr 1 (by omega) (by omega)
  cases e
  rw [h0] at x0
  replace x1 : w.cell? ⟨ad.block, ad.off + 1, none⟩ = some (.int .u8 5) := x1.trans (by rw [← h1]; rfl)
  have hc3 : w.cell? ⟨g, 3, none⟩ = some (.int .i64 1) := blk_cell h 3
  have hf3 := blk_frozen h 3
  have H := Aside0.mk h
  clear h hr h0 h1
  go_enter Try.func59, Try.ntmps59
  go_wp2
  go_ret2
  exact ⟨rfl, blk_put H.out 3 _ rfl, (Fr.refl (only g) w).setCell (p := ⟨g, 3, none⟩) (.inl rfl) _⟩

/-- What heardDevice answers where it leaves the end as it was: its error; 0: it goes on. -/
def devE (st : Int) (l : List Int) : Int :=
  if l.length = 3 ∧ rd l 0 = 6 ∧ rd l 1 = 5 then (if st = 1 then 0 else 6)
  else if l.length < 1 ∨ rd l 0 ≠ 4 then 4
  else if gotB (l.drop 1) = false then 4
  else if st = 1 then 0 else 6
theorem dev_rej (w : World) (g : Nat) (ty dev : ByteArray) (fs : Value) (st : Int) (d : ByteArray) (ag : Value) (h : EndB w g ty dev fs st d ag) (A : Option Addr) (l : List Int) (c : Nat)
    (hr : Kd.C (Kd.int .u8) w A 3 l) (h0 : rd l 0 = 6) (h1 : rd l 1 = 5) (hst : st ≠ 1) :
    Calls Try.prog 59 #[.pointer (some ⟨g, 0, none⟩), .slice A 3 c] w fun e w' => e = .returned (.tuple #[.slice none 0 0, .int .i64 6]) ∧ Below w.heap.size w w' := by
  obtain ⟨ad, rfl, x0⟩ := cell00 hr (by omega)
  obtain ⟨ad', e, x1⟩ := cellN hr 1 (by omega) (by omega)
  cases e
  rw [h0] at x0
  replace x1 : w.cell? ⟨ad.block, ad.off + 1, none⟩ = some (.int .u8 5) := x1.trans (by rw [← h1]; rfl)
  have hb : (st != 1) = true := bne_iff_ne.2 hst
  have hc3 : w.cell? ⟨g, 3, none⟩ = some (.int .i64 st) := blk_cell h 3
  clear h hr h0 h1 hst
  go_enter Try.func59, Try.ntmps59
  go_wp2
  go_ret2
  exact ⟨rfl, Below.refl _ _⟩
theorem dev_form (w : World) (g : Nat) (A : Option Addr) (l : List Int) (n c : Nat) (hr : Kd.C (Kd.int .u8) w A n l) (hm : n ≤ 140737488355328) (hn : ¬ (n = 3 ∧ rd l 0 = 6 ∧ rd l 1 = 5)) (hf : n < 1 ∨ rd l 0 ≠ 4) :
    Calls Try.prog 59 #[.pointer (some ⟨g, 0, none⟩), .slice A n c] w fun e w' => e = .returned (.tuple #[.slice none 0 0, .int .i64 4]) ∧ Below w.heap.size w w' := by
  by_cases hz : n < 1
  · obtain rfl : n = 0 := by omega
    clear hr hn hf
    go_enter Try.func59, Try.ntmps59
    go_wp2
    go_ret2
    exact ⟨rfl, Below.refl _ _⟩
  · obtain ⟨ad, rfl, x0⟩ := cell00 hr (by omega)
    have h4 : (rd l 0 != 4) = true := bne_iff_ne.2 (by omega)
    by_cases h3 : n = 3
    · subst h3
      by_cases h6 : rd l 0 = 6
      · have h5 : (rd l 1 == 5) = false := beq_eq_false_iff_ne.2 (fun e => hn ⟨rfl, h6, e⟩)
        obtain ⟨ad', e, x1⟩ := cellN hr 1 (by omega) (by omega)
        cases e
        rw [h6] at x0 h4
        replace x1 : w.cell? ⟨ad.block, ad.off + 1, none⟩ = some (.int .u8 (rd l 1)) := x1
        clear hr hn hf hz hm h4
        go_enter Try.func59, Try.ntmps59
        go_wp2
        go_ret2
        exact ⟨rfl, Below.refl _ _⟩
      · have h6' : (rd l 0 == 6) = false := beq_eq_false_iff_ne.2 h6
        clear hr hn hf hz hm h6
        go_enter Try.func59, Try.ntmps59
        go_wp2
        go_ret2
        exact ⟨rfl, Below.refl _ _⟩
    · have h3' : ((n : Int) == 3) = false := beq_eq_false_iff_ne.2 (by omega)
      have h1' : decide ((n : Int) < 1) = false := decide_eq_false (by omega)
      have hp : (0 : Int) < (n : Int) := by omega
      clear hr hn hf hz h3
      go_enter Try.func59, Try.ntmps59
      go_wp2
      go_ret2
      exact ⟨rfl, Below.refl _ _⟩
/-! ### heardDevice where it is a name -/
theorem dev_got (w : World) (g : Nat) (ty dev : ByteArray) (fs : Value) (st : Int) (d : ByteArray) (ag : Value) (h : EndB w g ty dev fs st d ag) (A : Option Addr) (l : List Int) (n c : Nat)
    (hr : Kd.C (Kd.int .u8) w A n l) (hc : n ≤ c) (hm : n ≤ 140737488355328) (hn : 1 ≤ n) (h4 : rd l 0 = 4) (b : Bool) (hb : gotB (l.drop 1) = b) (hst : b = false ∨ st ≠ 1) :
    Calls Try.prog 59 #[.pointer (some ⟨g, 0, none⟩), .slice A n c] w fun e w' => e = .returned (.tuple #[.slice none 0 0, .int .i64 (if b then 6 else 4)]) ∧ Below w.heap.size w w' := by
  obtain ⟨ad, rfl, x0⟩ := cell00 hr (by omega)
  rw [h4] at x0
  have hc3 : w.cell? ⟨g, 3, none⟩ = some (.int .i64 st) := blk_cell h 3
  have hs : ∀ W, (Instr.slice 49 (.slice (some ad) n c) (some (.int .i64 1)) none none).run Try.prog W = .ok (.slice (if c = 1 then some ad else (some ad).map (·.add 1)) (n - 1) (c - 1)) W := fun W => slice_drop (some ad) n c 1 hn W
  have HD := Aside0.mk (C_drop hr 1 c hn hc)
  have hz : (if c = 1 then some ad else (some ad).map (·.add 1)) = none → c - 1 = 0 := by split <;> simp
  have HH := Aside0.mk (And.intro hz (And.intro (show n - 1 ≤ c - 1 by omega) (show n - 1 ≤ 140737488355328 by omega)))
  have HL := Aside0.mk hb
  have HBK := Aside0.mk h
  generalize (if c = 1 then some ad else (some ad).map (·.add 1)) = A2 at *
  have hp : (0 : Int) < (n : Int) := by omega
  have h1' : decide ((n : Int) < 1) = false := decide_eq_false (by omega)
  clear hr hz hb h h4
  have h3 : ((n : Int) == 3) = true ∨ ((n : Int) == 3) = false := by cases ((n : Int) == 3) <;> simp
  cases b with
  | false =>
    clear hst
    rcases h3 with h3 | h3
    all_goals
      go_enter Try.func59, Try.ntmps59
      go_wp2_with (go_at_call 75; go_must (refine (got_any _ _ _ (l.drop 1) _ HD.out HH.out.2.1 HH.out.2.2 HH.out.1).mono ?_; rw [HL.out]; rintro e w1 ⟨rfl, hb1⟩; have HB := Aside0.mk hb1; clear hb1))
      go_ret2
      exact ⟨rfl, HB.out⟩
  | true =>
    have hb : (st != 1) = true := bne_iff_ne.2 (by rcases hst with h | h <;> first | exact h | cases h)
    clear hst
    rcases h3 with h3 | h3
    all_goals
      go_enter Try.func59, Try.ntmps59
      go_wp2_with (go_at_call 75; go_must (refine (got_any _ _ _ (l.drop 1) _ HD.out HH.out.2.1 HH.out.2.2 HH.out.1).mono ?_; rw [HL.out]; rintro e w1 ⟨rfl, hb1⟩; have x3 := (pw_cell_below hb1 hc3); have HB := Aside0.mk hb1; clear hb1))
      go_ret2
      exact ⟨rfl, HB.out⟩
/-! ### heardFunctions where it leaves the end as it was -/
theorem fun_form1 (w : World) (g : Nat) (A : Option Addr) (l : List Int) (n c : Nat) (hr : Kd.C (Kd.int .u8) w A n l) (hm : n ≤ 140737488355328) (hf : n < 1 ∨ (rd l 0 ≠ 4 ∧ rd l 0 ≠ 7)) :
    Calls Try.prog 60 #[.pointer (some ⟨g, 0, none⟩), .slice A n c] w fun e w' => e = .returned (.tuple #[.slice none 0 0, .int .i64 4]) ∧ Below w.heap.size w w' := by
  by_cases hz : n < 1
  · obtain rfl : n = 0 := by omega
    clear hr hf
    go_enter Try.func60, Try.ntmps60
    go_wp2
    go_ret2
    exact ⟨rfl, Below.refl _ _⟩
  · obtain ⟨ad, rfl, x0⟩ := cell00 hr (by omega)
    have h4 : (rd l 0 != 4) = true := bne_iff_ne.2 (by omega)
    have h7 : (rd l 0 != 7) = true := bne_iff_ne.2 (by omega)
    have hp : (0 : Int) < (n : Int) := by omega
    have h1' : decide ((n : Int) < 1) = false := decide_eq_false (by omega)
    clear hr hf hz
    go_enter Try.func60, Try.ntmps60
    go_wp2
    go_ret2
    exact ⟨rfl, Below.refl _ _⟩
theorem fun_form2 (w : World) (g : Nat) (A : Option Addr) (l : List Int) (n c : Nat) (hr : Kd.C (Kd.int .u8) w A n l) (hc : n ≤ c) (hm : n ≤ 140737488355328) (hn : 1 ≤ n) (h47 : rd l 0 = 4 ∨ rd l 0 = 7) (ho : onceB (l.drop 1) = false) :
    Calls Try.prog 60 #[.pointer (some ⟨g, 0, none⟩), .slice A n c] w fun e w' => e = .returned (.tuple #[.slice none 0 0, .int .i64 4]) ∧ Below w.heap.size w w' := by
  obtain ⟨ad, rfl, x0⟩ := cell00 hr (by omega)
  have hs : ∀ W, (Instr.slice 49 (.slice (some ad) n c) (some (.int .i64 1)) none none).run Try.prog W = .ok (.slice (if c = 1 then some ad else (some ad).map (·.add 1)) (n - 1) (c - 1)) W := fun W => slice_drop (some ad) n c 1 hn W
  have HD := Aside0.mk (C_drop hr 1 c hn hc)
  have hz : (if c = 1 then some ad else (some ad).map (·.add 1)) = none → c - 1 = 0 := by split <;> simp
  have HH := Aside0.mk (And.intro hz (And.intro (show n - 1 ≤ c - 1 by omega) (show n - 1 ≤ 140737488355328 by omega)))
  generalize (if c = 1 then some ad else (some ad).map (·.add 1)) = A2 at *
  have hp : (0 : Int) < (n : Int) := by omega
  have h1' : decide ((n : Int) < 1) = false := decide_eq_false (by omega)
  have HO := Aside0.mk ho
  clear hr hz ho
  rcases h47 with e4 | e4
  all_goals
    rw [e4] at x0
    clear e4
    go_enter Try.func60, Try.ntmps60
    go_wp2_with (go_at_call 77; go_must (refine (once_any _ _ _ (l.drop 1) _ HD.out HH.out.2.1 HH.out.2.2 HH.out.1).mono ?_; rw [HO.out]; rintro e w1 ⟨rfl, rfl⟩))
    go_ret2
    exact ⟨rfl, Below.refl _ _⟩
theorem fun_state (w : World) (g : Nat) (ty dev : ByteArray) (fs : Value) (st : Int) (d : ByteArray) (ag : Value) (h : EndB w g ty dev fs st d ag) (A : Option Addr) (l : List Int) (n c : Nat)
    (hr : Kd.C (Kd.int .u8) w A n l) (hc : n ≤ c) (hm : n ≤ 140737488355328) (hn : 1 ≤ n) (h47 : rd l 0 = 4 ∨ rd l 0 = 7) (ho : onceB (l.drop 1) = true) (h2 : st ≠ 2) (h3 : rd l 0 = 4 ∨ st ≠ 3) :
    Calls Try.prog 60 #[.pointer (some ⟨g, 0, none⟩), .slice A n c] w fun e w' => e = .returned (.tuple #[.slice none 0 0, .int .i64 6]) ∧ Below w.heap.size w w' := by
  obtain ⟨ad, rfl, x0⟩ := cell00 hr (by omega)
  have hs : ∀ W, (Instr.slice 49 (.slice (some ad) n c) (some (.int .i64 1)) none none).run Try.prog W = .ok (.slice (if c = 1 then some ad else (some ad).map (·.add 1)) (n - 1) (c - 1)) W := fun W => slice_drop (some ad) n c 1 hn W
  have HD := Aside0.mk (C_drop hr 1 c hn hc)
  have hz : (if c = 1 then some ad else (some ad).map (·.add 1)) = none → c - 1 = 0 := by split <;> simp
  have HH := Aside0.mk (And.intro hz (And.intro (show n - 1 ≤ c - 1 by omega) (show n - 1 ≤ 140737488355328 by omega)))
  generalize (if c = 1 then some ad else (some ad).map (·.add 1)) = A2 at *
  have hp : (0 : Int) < (n : Int) := by omega
  have h1' : decide ((n : Int) < 1) = false := decide_eq_false (by omega)
  have hb2 : (st != 2) = true := bne_iff_ne.2 h2
  have hc3 : w.cell? ⟨g, 3, none⟩ = some (.int .i64 st) := blk_cell h 3
  have HO := Aside0.mk ho
  have h34 : rd l 0 = 4 ∨ (rd l 0 = 7 ∧ (st != 3) = true) := by
    rcases h47 with e | e
    · exact .inl e
    · exact .inr ⟨e, bne_iff_ne.2 (by omega)⟩
  clear hr hz ho h h2 h3 h47
  rcases h34 with e4 | ⟨e4, hb3⟩
  all_goals
    rw [e4] at x0
    clear e4
    go_enter Try.func60, Try.ntmps60
    go_wp2_with (go_at_call 77; go_must (refine (once_any _ _ _ (l.drop 1) _ HD.out HH.out.2.1 HH.out.2.2 HH.out.1).mono ?_; rw [HO.out]; rintro e w1 ⟨rfl, rfl⟩))
    go_ret2
    exact ⟨rfl, Below.refl _ _⟩
/-! ### Hear -/
def eqB (a b : List Int) : Bool := (Go.strOfNums a).toList == (Go.strOfNums b).toList
theorem equal_any (w : World) (A0 A1 : Option Addr) (n0 n1 c0 c1 : Nat) (l0 l1 : List Int) (hr0 : Kd.C (Kd.int .u8) w A0 n0 l0) (hc0 : n0 ≤ c0) (hr1 : Kd.C (Kd.int .u8) w A1 n1 l1) (hc1 : n1 ≤ c1) :
    Calls Try.prog 57 #[.slice A0 n0 c0, .slice A1 n1 c1] w fun e w' => e = .returned (.bool (eqB l0 l1)) ∧ ∃ m, w' = w.drewN m := by
  obtain rfl : l0.length = n0 := hr0.1
  obtain rfl : l1.length = n1 := hr1.1
  exact (bytes_Equal.calls A0 c0 l0 A1 c1 l1 _ w hr0 hc0 hr1 hc1 rfl).mono fun _ _ ⟨he, ⟨hw⟩⟩ => ⟨he, hw⟩

theorem hear_nil (w : World) (op : Int) (p : Value) :
    Calls Try.prog 28 #[.pointer none, .int .u8 op, p] w fun e w' => e = .returned (.tuple #[.slice none 0 0, .int .i64 5]) ∧ w = w' := by
  go_enter Try.func28, Try.ntmps28
  go_wp2
  go_ret2
  exact ⟨rfl, rfl⟩

theorem hear_asks (w : World) (g : Nat) (ty dev : ByteArray) (fs : Value) (st : Int) (d : ByteArray) (ag : Value) (h : EndB w g ty dev fs st d ag) (ht : ty.size ≤ 1000) (hdl : dev.size ≤ 1000)
    (A : Option Addr) (l : List Int) (n c : Nat) (hr : Kd.C (Kd.int .u8) w A n l) (hc : n ≤ c) (he : eqB l [8, 2] = true) (hst : st ≠ 4) :
    Calls Try.prog 28 #[.pointer (some ⟨g, 0, none⟩), .int .u8 40, .slice A n c] w fun e w' => ∃ v, e = .returned (.tuple #[v, .int .i64 0]) ∧ OwnB w' w.heap.size v (askedL ty dev) ∧ EndB w' g ty dev fs 1 (⟨#[]⟩ : ByteArray) (.slice none 0 0) ∧ Fr (only g) w w' := by
  have hb4 : (st == 4) = false := beq_eq_false_iff_ne.2 hst
  have hc3 : w.cell? ⟨g, 3, none⟩ = some (.int .i64 st) := blk_cell h 3
  have hlt : g < w.heap.size := blk_lt h
  have HE := Aside0.mk he
  have HR := Aside0.mk hr
  have HC := Aside0.mk hc
  have HT := Aside0.mk (And.intro ht hdl)
  have HB := Aside0.mk h
  clear he hr hc hst ht hdl h
  go_enter Try.func28, Try.ntmps28
  go_wp2_with (first | (go_at_call 57; go_must (refine (equal_any _ _ _ _ _ _ _ l [8, 2] (Kd.C_alloc HR.out _) HC.out (lit_C w [8, 2] (by simp)) (Nat.le_refl _)).mono ?_; rw [HE.out]; rintro e w1 ⟨rfl, m, rfl⟩)) | (go_at_call 58; go_must (refine (asks_any _ _ ty dev fs st d ag ?zz HT.out.1 HT.out.2).mono ?_; (case zz => exact blk_drewN (blk_alloc HB.out _) m); rintro e w1 ⟨v, rfl, ho, hb, hf⟩; obtain ⟨A1, c1, rfl⟩ := ho.slice; have HO := Aside0.mk (ho.lower (b' := w.heap.size) (by simp)); have HB1 := Aside0.mk hb; have HF := Aside0.mk (((Fr.refl (only g) w).alloc _).drewN m |>.then_ hf (fun i hi => .inl hi)); clear ho hb hf)))
  go_ret2
  exact ⟨_, rfl, HO.out, HB1.out, HF.out⟩

theorem hear_asks4 (w : World) (g : Nat) (ty dev : ByteArray) (fs : Value) (d : ByteArray) (ag : Value) (h : EndB w g ty dev fs 4 d ag)
    (A : Option Addr) (l : List Int) (n c : Nat) (hr : Kd.C (Kd.int .u8) w A n l) (hc : n ≤ c) (he : eqB l [8, 2] = true) :
    Calls Try.prog 28 #[.pointer (some ⟨g, 0, none⟩), .int .u8 40, .slice A n c] w fun e w' => e = .returned (.tuple #[.slice none 0 0, .int .i64 6]) ∧ Below w.heap.size w w' := by
  have hc3 : w.cell? ⟨g, 3, none⟩ = some (.int .i64 4) := blk_cell h 3
  have hlt : g < w.heap.size := blk_lt h
  have HE := Aside0.mk he
  have HR := Aside0.mk hr
  have HC := Aside0.mk hc
  clear he hr hc h
  go_enter Try.func28, Try.ntmps28
  go_wp2_with (first | (go_at_call 57; go_must (refine (equal_any _ _ _ _ _ _ _ l [8, 2] (Kd.C_alloc HR.out _) HC.out (lit_C w [8, 2] (by simp)) (Nat.le_refl _)).mono ?_; rw [HE.out]; rintro e w1 ⟨rfl, m, rfl⟩)))
  go_ret2
  exact ⟨rfl, pw_below_drewN (below_alloc (Below.refl _ _) _) m⟩

/-- DEVICE-TYPE: what heardDevice answers is the answer. -/
theorem hear_dev (w : World) (g : Nat) (A : Option Addr) (l : List Int) (n c : Nat) (hr : Kd.C (Kd.int .u8) w A n l) (hc : n ≤ c) (he : eqB l [8, 2] = false) (hn : 1 ≤ n) (h2 : rd l 0 = 2) (R : Value → Int → World → Prop)
    (hcall : ∀ (W : World), Below w.heap.size w W → ∀ A2 : Option Addr, A2 ≠ none → Kd.C (Kd.int .u8) W A2 (n - 1) (l.drop 1) → Calls Try.prog 59 #[.pointer (some ⟨g, 0, none⟩), .slice A2 (n - 1) (c - 1)] W fun e w' => ∃ v code, e = .returned (.tuple #[v, .int .i64 code]) ∧ R v code w') :
    Calls Try.prog 28 #[.pointer (some ⟨g, 0, none⟩), .int .u8 40, .slice A n c] w fun e w' => ∃ v code, e = .returned (.tuple #[v, .int .i64 code]) ∧ R v code w' := by
  obtain ⟨ad, rfl, x0⟩ := cell00 hr (by omega)
  rw [h2] at x0
  have hl0 : ad.block < w.heap.size := World.block_lt_of_cell? w ad x0
  have hs : ∀ W, (Instr.slice 49 (.slice (some ad) n c) (some (.int .i64 1)) none none).run Try.prog W = .ok (.slice (if c = 1 then some ad else (some ad).map (·.add 1)) (n - 1) (c - 1)) W := fun W => slice_drop (some ad) n c 1 hn W
  have HD := Aside0.mk (C_drop hr 1 c hn hc)
  have hz : (if c = 1 then some ad else (some ad).map (·.add 1)) ≠ none := by split <;> simp
  have HZ := Aside0.mk hz
  generalize (if c = 1 then some ad else (some ad).map (·.add 1)) = A2 at *
  have hp : (0 : Int) < (n : Int) := by omega
  have HE := Aside0.mk he
  have HR := Aside0.mk hr
  have HC := Aside0.mk hc
  have HCALL := Aside0.mk hcall
  clear he hr hc hz h2 hcall
  go_enter Try.func28, Try.ntmps28
  go_wp2_with (first | (go_at_call 57; go_must (refine (equal_any _ _ _ _ _ _ _ l [8, 2] (Kd.C_alloc HR.out _) HC.out (lit_C w [8, 2] (by simp)) (Nat.le_refl _)).mono ?_; rw [HE.out]; rintro e w1 ⟨rfl, m, rfl⟩)) | (go_at_call 59; go_must (refine (HCALL.out _ (pw_below_drewN (below_alloc (Below.refl _ _) _) _) A2 HZ.out (Kd.C_drewN (Kd.C_alloc HD.out _) _)).mono ?_; rintro e w1 ⟨v, code, rfl, hR⟩; have HRR := Aside0.mk hR; clear hR)))
  go_ret2
  exact ⟨_, _, rfl, HRR.out⟩

/-- FUNCTIONS: what heardFunctions answers is the answer. -/
theorem hear_fun (w : World) (g : Nat) (A : Option Addr) (l : List Int) (n c : Nat) (hr : Kd.C (Kd.int .u8) w A n l) (hc : n ≤ c) (he : eqB l [8, 2] = false) (hn : 1 ≤ n) (h2 : rd l 0 = 3) (R : Value → Int → World → Prop)
    (hcall : ∀ (W : World), Below w.heap.size w W → ∀ A2 : Option Addr, A2 ≠ none → Kd.C (Kd.int .u8) W A2 (n - 1) (l.drop 1) → Calls Try.prog 60 #[.pointer (some ⟨g, 0, none⟩), .slice A2 (n - 1) (c - 1)] W fun e w' => ∃ v code, e = .returned (.tuple #[v, .int .i64 code]) ∧ R v code w') :
    Calls Try.prog 28 #[.pointer (some ⟨g, 0, none⟩), .int .u8 40, .slice A n c] w fun e w' => ∃ v code, e = .returned (.tuple #[v, .int .i64 code]) ∧ R v code w' := by
  obtain ⟨ad, rfl, x0⟩ := cell00 hr (by omega)
  rw [h2] at x0
  have hl0 : ad.block < w.heap.size := World.block_lt_of_cell? w ad x0
  have hs : ∀ W, (Instr.slice 49 (.slice (some ad) n c) (some (.int .i64 1)) none none).run Try.prog W = .ok (.slice (if c = 1 then some ad else (some ad).map (·.add 1)) (n - 1) (c - 1)) W := fun W => slice_drop (some ad) n c 1 hn W
  have HD := Aside0.mk (C_drop hr 1 c hn hc)
  have hz : (if c = 1 then some ad else (some ad).map (·.add 1)) ≠ none := by split <;> simp
  have HZ := Aside0.mk hz
  generalize (if c = 1 then some ad else (some ad).map (·.add 1)) = A2 at *
  have hp : (0 : Int) < (n : Int) := by omega
  have HE := Aside0.mk he
  have HR := Aside0.mk hr
  have HC := Aside0.mk hc
  have HCALL := Aside0.mk hcall
  clear he hr hc hz h2 hcall
  go_enter Try.func28, Try.ntmps28
  go_wp2_with (first | (go_at_call 57; go_must (refine (equal_any _ _ _ _ _ _ _ l [8, 2] (Kd.C_alloc HR.out _) HC.out (lit_C w [8, 2] (by simp)) (Nat.le_refl _)).mono ?_; rw [HE.out]; rintro e w1 ⟨rfl, m, rfl⟩)) | (go_at_call 60; go_must (refine (HCALL.out _ (pw_below_drewN (below_alloc (Below.refl _ _) _) _) A2 HZ.out (Kd.C_drewN (Kd.C_alloc HD.out _) _)).mono ?_; rintro e w1 ⟨v, code, rfl, hR⟩; have HRR := Aside0.mk hR; clear hR)))
  go_ret2
  exact ⟨_, _, rfl, HRR.out⟩

theorem hear_none (w : World) (g : Nat) (A : Option Addr) (l : List Int) (n c : Nat) (hr : Kd.C (Kd.int .u8) w A n l) (hc : n ≤ c) (he : eqB l [8, 2] = false) (hf : n < 1 ∨ (rd l 0 ≠ 2 ∧ rd l 0 ≠ 3)) :
    Calls Try.prog 28 #[.pointer (some ⟨g, 0, none⟩), .int .u8 40, .slice A n c] w fun e w' => e = .returned (.tuple #[.slice none 0 0, .int .i64 4]) ∧ Below w.heap.size w w' := by
  have HE := Aside0.mk he
  have HR := Aside0.mk hr
  have HC := Aside0.mk hc
  by_cases hz : n < 1
  · obtain rfl : n = 0 := by omega
    clear hr hf he hc
    go_enter Try.func28, Try.ntmps28
    go_wp2_with (first | (go_at_call 57; go_must (refine (equal_any _ _ _ _ _ _ _ l [8, 2] (Kd.C_alloc HR.out _) HC.out (lit_C w [8, 2] (by simp)) (Nat.le_refl _)).mono ?_; rw [HE.out]; rintro e w1 ⟨rfl, m, rfl⟩)))
    go_ret2
    exact ⟨rfl, pw_below_drewN (below_alloc (Below.refl _ _) _) m⟩
  · obtain ⟨ad, rfl, x0⟩ := cell00 hr (by omega)
    have hl0 : ad.block < w.heap.size := World.block_lt_of_cell? w ad x0
    have h2 : (rd l 0 == 2) = false := beq_eq_false_iff_ne.2 (by omega)
    have h3 : (rd l 0 == 3) = false := beq_eq_false_iff_ne.2 (by omega)
    have hp : (0 : Int) < (n : Int) := by omega
    clear hr hf he hc hz
    go_enter Try.func28, Try.ntmps28
    go_wp2_with (first | (go_at_call 57; go_must (refine (equal_any _ _ _ _ _ _ _ l [8, 2] (Kd.C_alloc HR.out _) HC.out (lit_C w [8, 2] (by simp)) (Nat.le_refl _)).mono ?_; rw [HE.out]; rintro e w1 ⟨rfl, m, rfl⟩)))
    go_ret2
    exact ⟨rfl, pw_below_drewN (below_alloc (Below.refl _ _) _) m⟩
end Go.Proofs.Ytclpkbgjaiacpaa
