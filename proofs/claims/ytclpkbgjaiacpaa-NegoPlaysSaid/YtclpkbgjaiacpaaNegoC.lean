/- What is proved: the law NegoRefused, walked. Conditions: those that each theorem states. -/
import Derived.Test.YtclpkbgjaiacpaaNegoB
import Derived.WalkSpells
import Derived.Deep.DeepMust
import Derived.Deep.RegionHeld3
import Derived.StillTactics
namespace Go.Proofs.Ytclpkbgjaiacpaa
open Go.RowKit Go.Proofs.YtclpkbgjaiacpaaW.PrintWords Go.Proofs.YtclpkbgjaiacpaaW.PrintLast Go.Proofs.YtclpkbgjaiacpaaW.PrintMore
open Go.Proofs.Ytclpkbgjaiacpaa.PNegoAgrees
set_option linter.unusedVariables false
set_option linter.unusedSimpArgs false
/-! ### awake -/
def tyA : ByteArray := ⟨#[73, 66, 77, 45, 51, 50, 55, 56, 45, 50, 45, 69]⟩
theorem awake_name : nego_Name.f 20 tyA = some true := by decide +kernel
theorem awake_dev : nego_Name.f 1 ⟨#[]⟩ = some false := by decide +kernel
theorem awake_rises : nego_rises.f 5 [2] = some true := by decide +kernel
theorem awake_said : Go.strOfNums (askedL tyA ⟨#[]⟩) = ⟨#[2, 7, 73, 66, 77, 45, 51, 50, 55, 56, 45, 50, 45, 69]⟩ := by decide +kernel
theorem emptyE : (⟨#[]⟩ : ByteArray).toList.isEmpty = true := by decide +kernel
theorem eq82 : eqB [8, 2] [8, 2] = true := by decide +kernel
theorem awake_any (w : World) : Calls Try.prog 25 #[] w fun e w' => e = .returned (.bool true) ∧ Below w.heap.size w w' := by
  go_enter Try.func25, Try.ntmps25
  go_wp2_with (first | (go_at_call 26; go_must (refine (new_ok _ tyA ⟨#[]⟩ _ [2] 1 20 1 5 false awake_name awake_dev (.inl emptyE) awake_rises (lit_C w [2] (by simp)) (by simp) (by simp)).mono ?_; rintro e w1 ⟨g, v, rfl, hE, hg, ho, hb⟩; have HE := Aside0.mk hE; have HB := Aside0.mk ((below_alloc (Below.refl w.heap.size w) (.cells #[.int .u8 2] 5)).trans (hb.mono (by simp))); have HG := Aside0.mk (show w.heap.size ≤ g by (have h1 := hg; simp at h1; omega)); clear hE hg ho hb)) | (go_at_call 28; go_must (refine (hear_asks _ g tyA ⟨#[]⟩ v 0 _ _ (blk_alloc HE.out _) (by decide) (by decide) _ [8, 2] 2 2 (lit_C w1 [8, 2] (by simp)) (Nat.le_refl _) eq82 (by decide)).mono ?_; rintro e w2 ⟨v2, rfl, ho2, hE2, hf2⟩; obtain ⟨A2, c2, rfl, hc2, hC2⟩ := ho2.reads; have hcv : (convert 49 9 (.slice A2 (askedL tyA ⟨#[]⟩).length c2)).run Try.prog w2 = .ok (.string ⟨#[2, 7, 73, 66, 77, 45, 51, 50, 55, 56, 45, 50, 45, 69]⟩) w2 := (Kd.C_string (P := Try.prog) Try.underlying49 Try.underlying5 Try.underlying9 hC2).trans (by rw [awake_said]); have HE2 := Aside0.mk hE2; have HF := Aside0.mk ((((Fr.of_below (S := nothing) HB.out).alloc _).then_ hf2 (fun i hi => .inr (by rw [show i = g from hi]; exact HG.out))).to_below (fun _ h => h.elim)); clear ho2 hE2 hf2 hc2 hC2)) | (go_at_call 29; go_must (refine (state_at _ _ _ _ _ _ _ _ HE2.out).mono ?_; rintro e w3 ⟨rfl, rfl⟩)))
  go_ret
  exact ⟨rfl, HF.out⟩
/-! ### refused: whatever comes -/
/-- A world that kept what was there still has the end. -/
theorem EndB.below {w w1 : World} {g : Nat} {ty dev : ByteArray} {fs : Value} {st : Int} {d : ByteArray} {ag : Value} (h : EndB w g ty dev fs st d ag) (hb : Below w.heap.size w w1) : EndB w1 g ty dev fs st d ag := blk_below h hb
theorem hear4 (w : World) (g : Nat) (ty dev : ByteArray) (fs : Value) (d : ByteArray) (ag : Value) (h : EndB w g ty dev fs 4 d ag)
    (A : Option Addr) (l : List Int) (n c : Nat) (hr : Kd.C (Kd.int .u8) w A n l) (hc : n ≤ c) (hm : n ≤ 140737488355328) :
    Calls Try.prog 28 #[.pointer (some ⟨g, 0, none⟩), .int .u8 40, .slice A n c] w fun e w' => ∃ v code, e = .returned (.tuple #[v, .int .i64 code]) ∧ (v = .slice none 0 0 ∧ Below w.heap.size w w') := by
  cases he : eqB l [8, 2] with
  | true => exact (hear_asks4 w g ty dev fs d ag h A l n c hr hc he).mono fun e w' ⟨h1, h2⟩ => ⟨_, _, h1, rfl, h2⟩
  | false =>
    by_cases hf : n < 1 ∨ (rd l 0 ≠ 2 ∧ rd l 0 ≠ 3)
    · exact (hear_none w g A l n c hr hc he hf).mono fun e w' ⟨h1, h2⟩ => ⟨_, _, h1, rfl, h2⟩
    · by_cases h2 : rd l 0 = 2
      · refine hear_dev w g A l n c hr hc he (by omega) h2 (fun v code w' => v = .slice none 0 0 ∧ Below w.heap.size w w') ?_
        intro W hW A2 hA2 hC2
        have hE := h.below hW
        have up : ∀ {w' : World}, Below W.heap.size W w' → Below w.heap.size w w' := fun hb => hW.trans (hb.mono hW.size)
        have hd1 := C_len hC2
        by_cases hrej : n - 1 = 3 ∧ rd (l.drop 1) 0 = 6 ∧ rd (l.drop 1) 1 = 5
        · obtain ⟨h3, h6, h5⟩ := hrej
          rw [h3] at hC2 ⊢
          exact (dev_rej W g ty dev fs 4 d ag hE A2 (l.drop 1) (c - 1) hC2 h6 h5 (by decide)).mono fun e w' ⟨h1, hb⟩ => ⟨_, _, h1, rfl, up hb⟩
        · by_cases hfm : n - 1 < 1 ∨ rd (l.drop 1) 0 ≠ 4
          · exact (dev_form W g A2 (l.drop 1) (n - 1) (c - 1) hC2 (by omega) hrej hfm).mono fun e w' ⟨h1, hb⟩ => ⟨_, _, h1, rfl, up hb⟩
          · exact (dev_got W g ty dev fs 4 d ag hE A2 (l.drop 1) (n - 1) (c - 1) hC2 (by omega) (by omega) (by omega) (by omega) _ rfl (.inr (by decide))).mono fun e w' ⟨h1, hb⟩ => ⟨_, _, h1, rfl, up hb⟩
      · refine hear_fun w g A l n c hr hc he (by omega) (by omega) (fun v code w' => v = .slice none 0 0 ∧ Below w.heap.size w w') ?_
        intro W hW A2 hA2 hC2
        have hE := h.below hW
        have up : ∀ {w' : World}, Below W.heap.size W w' → Below w.heap.size w w' := fun hb => hW.trans (hb.mono hW.size)
        by_cases hfm : n - 1 < 1 ∨ (rd (l.drop 1) 0 ≠ 4 ∧ rd (l.drop 1) 0 ≠ 7)
        · exact (fun_form1 W g A2 (l.drop 1) (n - 1) (c - 1) hC2 (by omega) hfm).mono fun e w' ⟨h1, hb⟩ => ⟨_, _, h1, rfl, up hb⟩
        · cases ho : onceB ((l.drop 1).drop 1) with
          | false => exact (fun_form2 W g A2 (l.drop 1) (n - 1) (c - 1) hC2 (by omega) (by omega) (by omega) (by omega) ho).mono fun e w' ⟨h1, hb⟩ => ⟨_, _, h1, rfl, up hb⟩
          | true => exact (fun_state W g ty dev fs 4 d ag hE A2 (l.drop 1) (n - 1) (c - 1) hC2 (by omega) (by omega) (by omega) (by omega) ho (by decide) (.inr (by decide))).mono fun e w' ⟨h1, hb⟩ => ⟨_, _, h1, rfl, up hb⟩

/-- [2 6 5 code]: it is refused. -/
theorem hear_refuse (w : World) (g : Nat) (ty dev : ByteArray) (fs : Value) (d : ByteArray) (ag : Value) (h : EndB w g ty dev fs 1 d ag) (code : Int)
    (A : Option Addr) (hr : Kd.C (Kd.int .u8) w A 4 [2, 6, 5, code]) :
    Calls Try.prog 28 #[.pointer (some ⟨g, 0, none⟩), .int .u8 40, .slice A 4 4] w fun e w' => ∃ v co, e = .returned (.tuple #[v, .int .i64 co]) ∧ (v = .slice none 0 0 ∧ co = 0 ∧ EndB w' g ty dev fs 4 d ag ∧ Fr (only g) w w') := by
  have he : eqB [2, 6, 5, code] [8, 2] = false := by
    unfold eqB
    rw [beq_eq_false_iff_ne]
    intro e
    rw [Lib.strOfNums_toList, Lib.strOfNums_toList] at e
    have h2 := congrArg List.length e
    rw [Lib.bytesOf_length, Lib.bytesOf_length] at h2
    simp at h2
  refine hear_dev w g A [2, 6, 5, code] 4 4 hr (by omega) he (by omega) rfl (fun v co w' => v = .slice none 0 0 ∧ co = 0 ∧ EndB w' g ty dev fs 4 d ag ∧ Fr (only g) w w') ?_
  intro W hW A2 hA2 hC2
  exact (dev_refuse W g ty dev fs 1 d ag (h.below hW) A2 [6, 5, code] 3 hC2 rfl rfl rfl).mono fun e w' ⟨h1, hE, hf⟩ => ⟨_, _, h1, rfl, rfl, hE, (Fr.of_below (S := only g) hW).then_ hf (fun i hi => .inl hi)⟩
/-! ### the law: NegoRefused -/
theorem cut_f (l : List Int) (k : Nat) (hk : k ≤ 1000000) : vitrineref01_Cut.f l (k : Int) = some (l.take k) := by
  unfold vitrineref01_Cut.f vitrineref01_Copy.f
  by_cases h : (l.length : Int) > k
  · rw [if_pos h, if_pos (by omega), if_pos (by omega)]
    simp only [Option.bind_some, List.length_nil, List.nil_append, Int.toNat_natCast, Nat.zero_add]
    rw [if_pos (by rw [List.length_take]; omega)]
    rfl
  · rw [if_neg h]
    simp only [Option.bind_some, List.length_nil, List.nil_append, Nat.zero_add]
    rw [if_pos (by omega), List.take_of_length_le (by omega)]
    rfl
/-- At most so many bytes of a text. -/
def cutS (s : ByteArray) (k : Nat) : ByteArray := if (s.size : Int) > k then s.extract 0 k else s
theorem cutText_f (s : ByteArray) (k : Nat) : vitrineref01_CutText.f s (k : Int) = some (cutS s k) := by
  unfold vitrineref01_CutText.f cutS
  by_cases h : (s.size : Int) > k
  · rw [if_pos h, if_pos (by omega), if_pos (by omega), if_pos h, Int.toNat_natCast]
  · rw [if_neg h, if_neg h]
theorem cutS_size (s : ByteArray) (k : Nat) : (cutS s k).size ≤ k := by
  unfold cutS
  split
  · rw [ByteArray.size_extract]; omega
  · omega
theorem few_ok (ty dev : ByteArray) (l : List Int) : vitrineref10_Few.f ty dev l = some (cutS ty 45, cutS dev 45, l.take 8) := by
  have h1 := cutText_f ty 45
  have h2 := cutText_f dev 45
  have h3 := cut_f l 8 (by omega)
  unfold vitrineref10_Few.f
  rw [show ((45 : Nat) : Int) = 45 from rfl] at h1 h2
  rw [show ((8 : Nat) : Int) = 8 from rfl] at h3
  rw [h1, h2, h3]
  rfl
theorem new_fail (w : World) (t1 t2 : ByteArray) (A : Option Addr) (l : List Int) (n c : Nat) (hr : Kd.C (Kd.int .u8) w A n l) (hc : n ≤ c) (h1 : t1.size ≤ 45) (h2 : t2.size ≤ 45) (hl : n ≤ 140737488355328)
    (hno : ¬ (nameB t1 = true ∧ (t2.toList.isEmpty = true ∨ nameB t2 = true) ∧ risesB l = true)) :
    Calls Try.prog 26 #[.agg #[.string t1, .string t2, .slice A n c]] w fun e w' => ∃ code, e = .returned (.tuple #[.pointer none, .int .i64 code]) ∧ (code != 0) = true ∧ Below w.heap.size w w' := by
  obtain rfl : l.length = n := hr.1
  have n1 := name_f t1 (by omega)
  have n2 := name_f t2 (by omega)
  have n3 := rises_f l (by omega)
  cases b1 : nameB t1 with
  | false => exact (new_bad w t1 t2 A l c _ _ _ _ n1 n2 (.inl b1)).mono fun e w' ⟨he, hb⟩ => ⟨4, he, rfl, hb⟩
  | true =>
    rw [b1] at n1
    cases be : t2.toList.isEmpty with
    | false =>
      cases b2 : nameB t2 with
      | false => exact (new_bad w t1 t2 A l c _ _ _ _ n1 n2 (.inr ⟨be, b2⟩)).mono fun e w' ⟨he, hb⟩ => ⟨4, he, rfl, hb⟩
      | true =>
        have b3 : risesB l = false := by
          cases b3 : risesB l
          · rfl
          · exact absurd ⟨b1, .inr b2, b3⟩ hno
        rw [b3] at n3
        exact (new_list w t1 t2 A l c _ _ _ _ n1 n2 (.inr ⟨be, b2⟩) n3 hr hc).mono fun e w' ⟨he, hb⟩ => ⟨1, he, rfl, hb⟩
    | true =>
      have b3 : risesB l = false := by
        cases b3 : risesB l
        · rfl
        · exact absurd ⟨b1, .inl be, b3⟩ hno
      rw [b3] at n3
      exact (new_list w t1 t2 A l c _ _ _ _ n1 n2 (.inl be) n3 hr hc).mono fun e w' ⟨he, hb⟩ => ⟨1, he, rfl, hb⟩
theorem new_good (w : World) (t1 t2 : ByteArray) (A : Option Addr) (l : List Int) (n c : Nat) (hr : Kd.C (Kd.int .u8) w A n l) (hc : n ≤ c) (h1 : t1.size ≤ 45) (h2 : t2.size ≤ 45) (hl : n ≤ 140737488355328)
    (hok : nameB t1 = true ∧ (t2.toList.isEmpty = true ∨ nameB t2 = true) ∧ risesB l = true) :
    Calls Try.prog 26 #[.agg #[.string t1, .string t2, .slice A n c]] w fun e w' => ∃ g v, e = .returned (.tuple #[.pointer (some ⟨g, 0, none⟩), .int .i64 0]) ∧ EndB w' g t1 t2 v 0 (⟨#[]⟩ : ByteArray) (.slice none 0 0) ∧ w.heap.size ≤ g ∧ OwnB w' w.heap.size v l ∧ Below w.heap.size w w' := by
  obtain rfl : l.length = n := hr.1
  have n1 := name_f t1 (by omega)
  have n2 := name_f t2 (by omega)
  have n3 := rises_f l (by omega)
  rw [hok.1] at n1
  rw [hok.2.2] at n3
  refine new_ok w t1 t2 A l c _ _ _ _ n1 n2 ?_ n3 hr hc hl
  cases be : t2.toList.isEmpty with
  | true => exact .inl rfl
  | false => exact .inr ⟨rfl, by rcases hok.2.1 with h | h
                                 · rw [be] at h; cases h
                                 · exact h⟩
/-- Element k of a list of lists. -/
theorem row_at {w : World} {B : Option Addr} {m : Nat} {ll : List (List Int)} (h : Kd.C (Kd.slice 5 (Kd.int .u8)) w B m ll) (k : Nat) (hk : k < m) :
    ∃ ad A l c, B = some ad ∧ ll[k]? = some l ∧ w.cell? (ad.add k) = some (.slice A l.length c) ∧ l.length ≤ c ∧ Kd.C (Kd.int .u8) w A l.length l := by
  obtain ⟨hl, _, hx⟩ := h
  obtain ⟨ad, rfl, hc⟩ := hx (by omega)
  obtain ⟨cs, _, ⟨A, c, rfl, hle, hC⟩, hcell⟩ := hc k ll[k] (List.getElem?_eq_getElem (by omega))
  refine ⟨ad, A, ll[k], c, rfl, List.getElem?_eq_getElem (by omega), ?_, hle, hC⟩
  have := hcell 0 _ rfl
  simpa [Kd.slice] using this
theorem OwnB.open {w : World} {base : Nat} {v : Value} {l : List Int} (h : OwnB w base v l) : ∃ A n c, v = .slice A n c ∧ n ≤ c ∧ Kd.C (Kd.int .u8) w A n l ∧ (A = none → c = 0) := by
  obtain ⟨A, c, rfl, hc, hC⟩ := h.reads
  refine ⟨A, _, c, rfl, hc, hC, fun e => ?_⟩
  rcases (own_nums h).2 with ⟨h1, _⟩ | ⟨g, cap, cur, h1, _⟩
  · injection h1 with _ _ h3
  · injection h1 with h2
    rw [e] at h2
    cases h2
theorem asked_len (ty dev : ByteArray) : 2 + ty.size ≤ (askedL ty dev).length := by
  unfold askedL
  simp only [List.length_append, List.length_cons, List.length_nil, lenBytes]
  omega
theorem name_pos {s : ByteArray} (h : nameB s = true) : 1 ≤ s.size := by
  unfold nameB at h
  simp only [Bool.and_eq_true] at h
  rcases Nat.eq_zero_or_pos s.size with h0 | h0
  · have h1 := h.2.1
    have : s = ⟨#[]⟩ := by
      cases s with
      | mk d => simp [ByteArray.size] at h0; subst h0; rfl
    subst this
    rw [emptyE] at h1
    cases h1
  · exact h0
/-- Between two calls: the end, and that what was there when the law began is as it was. -/
structure Inv (w0 w : World) (g : Nat) (ty dev : ByteArray) (fs : Value) (st : Int) (d : ByteArray) (ag : Value) : Prop where
  e : EndB w g ty dev fs st d ag
  b : Below w0.heap.size w0 w
  g_ : w0.heap.size ≤ g
namespace Inv
variable {w0 w w1 : World} {g : Nat} {ty dev : ByteArray} {fs : Value} {st st' : Int} {d d' : ByteArray} {ag ag' : Value}
theorem below (h : Inv w0 w g ty dev fs st d ag) (hb : Below w.heap.size w w1) : Inv w0 w1 g ty dev fs st d ag := ⟨blk_below h.e hb, h.b.trans (hb.mono h.b.size), h.g_⟩
theorem fr (h : Inv w0 w g ty dev fs st d ag) (he : EndB w1 g ty dev fs st' d' ag') (hf : Fr (only g) w w1) : Inv w0 w1 g ty dev fs st' d' ag' :=
  ⟨he, ((Fr.of_below (S := nothing) h.b).then_ hf (fun i hi => .inr (by rw [show i = g from hi]; exact h.g_))).to_below (fun _ h => h.elim), h.g_⟩
theorem alloc (h : Inv w0 w g ty dev fs st d ag) (o : Obj) : Inv w0 (w.alloc o) g ty dev fs st d ag := h.below (below_alloc (Below.refl _ _) o)
end Inv
theorem refused_walk (w : World) (ty dev : ByteArray) (A : Option Addr) (n c : Nat) (fl : List Int) (code : Int) (B : Option Addr) (m cm : Nat) (ll : List (List Int))
    (hr : Kd.C (Kd.int .u8) w A n fl) (hc : n ≤ c) (hl : Kd.C (Kd.slice 5 (Kd.int .u8)) w B m ll) (hm : m ≤ 140737488351232) :
    Calls Try.prog 6 #[.agg #[.string ty, .string dev, .slice A n c], .int .u8 code, .slice B m cm] w fun e w' => e = .returned (.bool true) ∧ Below w.heap.size w w' := by
  obtain rfl : fl.length = n := hr.1
  obtain ⟨t1, e1⟩ : ∃ t, t = cutS ty 45 := ⟨_, rfl⟩
  obtain ⟨t2, e2⟩ : ∃ t, t = cutS dev 45 := ⟨_, rfl⟩
  obtain ⟨l3, e3⟩ : ∃ t, t = fl.take 8 := ⟨_, rfl⟩
  have hfew := few_ok ty dev fl
  have ht1 := cutS_size ty 45
  have ht2 := cutS_size dev 45
  have hl3 : (fl.take 8).length ≤ 8 := by rw [List.length_take]; omega
  rw [← e1] at ht1 hfew
  rw [← e2] at ht2 hfew
  rw [← e3] at hl3 hfew
  clear e1 e2 e3
  have HF := Aside0.mk hfew
  have HR := Aside0.mk hr
  have HC := Aside0.mk hc
  have HLL := Aside0.mk hl
  have HT := Aside0.mk (And.intro ht1 (And.intro ht2 hl3))
  have n1 := name_f t1 (by omega)
  have n2 := name_f t2 (by omega)
  have n3 := rises_f l3 (by omega)
  clear hfew hr hc hl ht1 ht2 hl3
  by_cases hok : nameB t1 = true ∧ (t2.toList.isEmpty = true ∨ nameB t2 = true) ∧ risesB l3 = true
  · have HOK := Aside0.mk hok
    clear hok n1 n2 n3
    go_enter Try.func6, Try.ntmps6
    go_wp2_with (first | (go_at_call 25; go_must (refine (awake_any _).mono ?_; rintro e w1 ⟨rfl, hb1⟩; have BK := blk_below (blk_new w _) hb1; have x0 := (blk_cell BK 0).trans rfl; have x1 := (blk_cell BK 1).trans rfl; have x2 := (blk_cell BK 2).trans rfl; have HB := Aside0.mk ((below_alloc (Below.refl w.heap.size w) _).trans (hb1.mono (by simp))); clear BK hb1)) | (go_at_call 27; go_must (refine (vitrineref10_Few.calls ty dev A c fl t1 t2 l3 _ (Kd.C_below HR.out HB.out) HC.out HF.out).mono ?_; rintro e w2 ⟨v2, rfl, ho2, hb2⟩; obtain ⟨A2, c2, rfl, hc2, hC2⟩ := OwnB.reads ho2; have HB2 := Aside0.mk (HB.out.trans (hb2.mono HB.out.size)); have H2 := Aside0.mk (And.intro hc2 hC2); clear ho2 hb2 hc2 hC2 x0 x1 x2)) | (go_at_call 26; go_must (refine (new_good _ t1 t2 A2 l3 _ c2 H2.out.2 H2.out.1 HT.out.1 HT.out.2.1 (by have := HT.out.2.2; omega) HOK.out).mono ?_; rintro e w3 ⟨g, fs, rfl, hE3, hg3, hfs3, hb3⟩; have HI3 := Aside0.mk (show Inv w w3 g t1 t2 fs 0 _ _ from ⟨hE3, HB2.out.trans (hb3.mono HB2.out.size), Nat.le_trans HB2.out.size hg3⟩); clear hb3 hE3 hg3 hfs3)) | (go_at_call 28; have tk := HI3; go_must (clear tk; refine (hear_asks _ g t1 t2 fs 0 _ _ (HI3.out.alloc _).e (by have := HT.out.1; omega) (by have := HT.out.2.1; omega) _ [8, 2] 2 2 (lit_C w3 [8, 2] (by simp)) (Nat.le_refl _) eq82 (by decide)).mono ?_; rintro e w4 ⟨v4, rfl, _, hE4, hf4⟩; have HI4 := Aside0.mk ((HI3.out.alloc _).fr hE4 hf4); clear hE4 hf4 HI3)) | (go_at_call 28; have tk := HI4; go_must (clear tk; refine (hear_refuse _ g t1 t2 fs _ _ (HI4.out.alloc _).e code _ (lit_C w4 [2, 6, 5, code] (by simp))).mono ?_; rintro e w5 ⟨v5, co5, rfl, rfl, rfl, hE5, hf5⟩; have HI5 := Aside0.mk ((HI4.out.alloc _).fr hE5 hf5); clear hE5 hf5 HI4)) | (go_at_call 29; go_must (refine (state_at _ _ _ _ _ _ _ _ HI5.out.e).mono ?_; rintro e w6 ⟨rfl, rfl⟩)))
    have hm2 : m ≤ 9223372036854775807 := by omega
    have HN := Aside0.mk (name_pos HOK.out.1)
    clear HF HR HC HOK HB HB2 H2
    go_loopw [44] (fun i wr => ∃ k : Nat, k ≤ m ∧ i = .int .i64 k ∧ Aside0 (Inv w wr g t1 t2 fs 4 (⟨#[]⟩ : ByteArray) (.slice none 0 0))) (fun i wr => m - (intOf i).toNat)
    case atStart => exact ⟨0, Nat.zero_le _, rfl, HI5⟩
    case round =>
      obtain ⟨k, hk, rfl, HI⟩ := hrel
      clear HI5
      by_cases hlt : k < m
      · obtain ⟨ad, A0, l, c0, e, hlk, hx, hcl, hCl⟩ := row_at (Kd.C_below HLL.out HI.out.b) k hlt
        subst e
        have HR := Aside0.mk (And.intro hcl hCl)
        have hk0 : (0 : Int) ≤ (k : Int) := Int.natCast_nonneg k
        have hk1 : (k : Int) < (m : Int) := Int.ofNat_lt.2 hlt
        clear hcl hCl hlk
        by_cases h10 : k < 10
        · go_wp2_with (first | (go_at_call 30; go_must (refine (vitrineref01_Cut.calls A0 c0 l 60 (l.take 60) _ HR.out.2 HR.out.1 (cut_f l 60 (by decide))).mono ?_; rintro e wa ⟨va, rfl, hoa, hba⟩; obtain ⟨Aa, na, ca, rfl, hca, hCa, _⟩ := OwnB.open hoa; have HIa := Aside0.mk (HI.out.below hba); have HRa := Aside0.mk (And.intro hca (And.intro hCa (show na ≤ 60 by (have h1 := hCa.1; rw [List.length_take] at h1; omega)))); clear hoa hba hca hCa hx)) | (go_at_call 28; go_must (refine (hear4 _ g t1 t2 fs _ _ HIa.out.e _ (l.take 60) _ _ HRa.out.2.1 HRa.out.1 (by have := HRa.out.2.2; omega)).mono ?_; rintro e wb ⟨vb, cb, rfl, rfl, hbb⟩; have HIb := Aside0.mk (HIa.out.below hbb); clear hbb)))
          go_roundw
          case rel => exact ⟨k + 1, hlt, by go_num, HIb⟩
          case measure => simp [intOf]; omega
        · go_wp2
          go_roundw
          case rel => exact ⟨k + 1, hlt, by go_num, HI⟩
          case measure => simp [intOf]; omega
      · go_wp2_with (first | (go_at_call 29; have tk := HI; go_must (clear tk; refine (state_at _ _ _ _ _ _ _ _ HI.out.e).mono ?_; rintro e w6 ⟨rfl, rfl⟩)) | (go_at_call 31; go_must (refine (ready_at _ _ _ _ _ _ _ _ HI.out.e).mono ?_; rintro e w6 ⟨rfl, rfl⟩)) | (go_at_call 32; go_must (refine (functions_not _ _ _ _ _ _ _ _ HI.out.e (by decide)).mono ?_; rintro e w6 ⟨rfl, rfl⟩)) | (go_at_call 33; go_must (refine (reset_at _ _ _ _ _ _ _ _ HI.out.e).mono ?_; rintro e w6 ⟨rfl, hE6, hf6⟩; have HI6 := Aside0.mk (HI.out.fr hE6 hf6); clear hE6 hf6 HI)) | (go_at_call 28; go_must (refine (hear_asks _ g t1 t2 fs 0 _ _ (HI6.out.alloc _).e (by have := HT.out.1; omega) (by have := HT.out.2.1; omega) _ [8, 2] 2 2 (lit_C w6 [8, 2] (by simp)) (Nat.le_refl _) eq82 (by decide)).mono ?_; rintro e w7 ⟨v7, rfl, ho7, hE7, hf7⟩; have HI7 := Aside0.mk ((HI6.out.alloc _).fr hE7 hf7); obtain ⟨A7, n7, c7, rfl, hc7, hC7, _⟩ := ho7.open; have hn7 : (2 : Int) < (n7 : Int) := (by have h1 := hC7.1; have h2 := asked_len t1 t2; have h3 := HN.out; omega); clear ho7 hE7 hf7 hc7 hC7)) | (go_at_call 29; go_must (refine (state_at _ _ _ _ _ _ _ _ HI7.out.e).mono ?_; rintro e w8 ⟨rfl, rfl⟩)))
        go_ret
        exact ⟨rfl, HI7.out.b⟩
  · have HNO := Aside0.mk hok
    clear hok n1 n2 n3
    go_enter Try.func6, Try.ntmps6
    go_wp2_with (first | (go_at_call 25; go_must (refine (awake_any _).mono ?_; rintro e w1 ⟨rfl, hb1⟩; have BK := blk_below (blk_new w _) hb1; have x0 := (blk_cell BK 0).trans rfl; have x1 := (blk_cell BK 1).trans rfl; have x2 := (blk_cell BK 2).trans rfl; have HB := Aside0.mk ((below_alloc (Below.refl w.heap.size w) _).trans (hb1.mono (by simp))); clear BK hb1)) | (go_at_call 27; go_must (refine (vitrineref10_Few.calls ty dev A c fl t1 t2 l3 _ (Kd.C_below HR.out HB.out) HC.out HF.out).mono ?_; rintro e w2 ⟨v2, rfl, ho2, hb2⟩; obtain ⟨A2, c2, rfl, hc2, hC2⟩ := OwnB.reads ho2; have HB2 := Aside0.mk (HB.out.trans (hb2.mono HB.out.size)); have H2 := Aside0.mk (And.intro hc2 hC2); clear ho2 hb2 hc2 hC2)) | (go_at_call 26; go_must (refine (new_fail _ t1 t2 A2 l3 _ c2 H2.out.2 H2.out.1 HT.out.1 HT.out.2.1 (by have := HT.out.2.2; omega) HNO.out).mono ?_; rintro e w3 ⟨co, rfl, hco, hb3⟩; have HB3 := Aside0.mk (HB2.out.trans (hb3.mono HB2.out.size)); clear hb3)))
    go_ret
    exact ⟨rfl, HB3.out⟩
end Go.Proofs.Ytclpkbgjaiacpaa
