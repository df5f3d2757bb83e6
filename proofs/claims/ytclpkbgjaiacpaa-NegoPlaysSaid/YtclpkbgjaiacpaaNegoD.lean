/- What is proved: own, sorting, collecting and offer. Conditions: those that each theorem states. -/
import Derived.Test.YtclpkbgjaiacpaaNegoC
import Derived.Test.YtclpkbgjaiacpaaPSrtx6
import Derived.WalkSpells
import Derived.Deep.DeepMust
import Derived.Deep.RegionHeld3
import Derived.StillTactics
import Derived.RangeFuncBox
import Derived.RangeFuncLeaves
import Derived.Shelf.Abstract
import Derived.OwnWalkIn
import Derived.TacticsInMore
import Derived.LoopNIn
import Derived.LoopIn
import Derived.Maps.AppendAt
namespace Go.Proofs.Ytclpkbgjaiacpaa
open Go.RowKit Go.Proofs.YtclpkbgjaiacpaaW.PrintWords Go.Proofs.YtclpkbgjaiacpaaW.PrintLast Go.Proofs.YtclpkbgjaiacpaaW.PrintMore
open Go.Proofs.Ytclpkbgjaiacpaa.PNegoAgrees Go.Proofs.Ytclpkbgjaiacpaa.PSrt
set_option linter.unusedVariables false
set_option linter.unusedSimpArgs false
theorem w64i {x : Int} (h0 : -9223372036854775808 ≤ x) (h1 : x < 9223372036854775808) : wrap64 x = x := by unfold wrap64; omega
theorem less_f (a b : Int) : cmp_Less_byte.f a b = some (decide (a < b)) := by
  unfold cmp_Less_byte.f cmp_isNaN_byte.f
  simp
theorem rd_set (x : List Int) (i j : Nat) (v : Int) (hi : i < x.length) : rd (x.set i v) (j : Int) = if i = j then v else rd x (j : Int) := by
  unfold rd
  rw [Int.toNat_natCast, List.getD_eq_getElem?_getD, List.getD_eq_getElem?_getD, List.getElem?_set]
  by_cases h : i = j
  · subst h; simp [hi]
  · simp [h]
theorem rd_get (x : List Int) (i : Nat) (hi : i < x.length) : rd x (i : Int) = x[i] := by
  unfold rd
  rw [Int.toNat_natCast, List.getD_eq_getElem?_getD, List.getElem?_eq_getElem hi]
  rfl
def SortedTo (x : List Int) (m : Nat) : Prop := ∀ p q : Nat, p < q → q < m → rd x (p : Int) ≤ rd x (q : Int)
def Hole (x : List Int) (m j : Nat) : Prop := (∀ p q : Nat, p < q → q < m → p ≠ j → q ≠ j → rd x (p : Int) ≤ rd x (q : Int)) ∧ (∀ q : Nat, j < q → q < m → rd x (j : Int) ≤ rd x (q : Int))
def Done (n : Nat) (x : List Int) (o : Option (List Int)) : Prop := ∃ r, o = some r ∧ r.Perm x ∧ SortedTo r n ∧ r.length = n
theorem ins_all (n : Nat) (hn : n ≤ 1000) (e : Nat) : ∀ (k : Nat) (x : List Int), x.length = n → e ≤ n → SortedTo x (n - e) → e * (n + 2) + n + 1 < k →
    Done n x (slices_insertionSortOrdered_byte.l0 k x 0 (n : Int) ((n - e : Nat) : Int)) := by
  induction e with
  | zero =>
    intro k x hx _ hs hk
    obtain ⟨k, rfl⟩ : ∃ m, k = m + 1 := ⟨k - 1, by omega⟩
    simp only [slices_insertionSortOrdered_byte.l0]
    rw [if_neg (by omega)]
    exact ⟨x, rfl, List.Perm.refl _, hs, hx⟩
  | succ e ih =>
    intro k x hx he hs hk
    have hM : (e + 1) * (n + 2) = e * (n + 2) + (n + 2) := Nat.succ_mul _ _
    generalize e * (n + 2) = M at *
    rw [hM] at hk
    obtain ⟨i, hi⟩ : ∃ i, i = n - (e + 1) := ⟨_, rfl⟩
    have hie : n - e = i + 1 := by omega
    rw [← hi] at hs ⊢
    rw [hie] at ih
    have inner : ∀ (j k : Nat) (x : List Int), x.length = n → j ≤ i → Hole x (i + 1) j → M + (n + 2) + j < k → Done n x (slices_insertionSortOrdered_byte.l1 k x 0 (n : Int) (i : Int) (j : Int)) := by
      intro j
      induction j with
      | zero =>
        intro k x hx _ hh hk
        obtain ⟨k, rfl⟩ : ∃ m, k = m + 1 := ⟨k - 1, by omega⟩
        simp only [slices_insertionSortOrdered_byte.l1]
        rw [if_neg (by omega), w64i (by omega) (by omega)]
        have := ih k x hx (by omega) (fun p q hpq hq => by
          by_cases hp : p = 0
          · subst hp; exact hh.2 q hpq hq
          · exact hh.1 p q hpq hq hp (by omega)) (by omega)
        rwa [show ((i + 1 : Nat) : Int) = (i : Int) + 1 from by omega] at this
      | succ j ihj =>
        intro k x hx hj hh hk
        obtain ⟨k, rfl⟩ : ∃ m, k = m + 1 := ⟨k - 1, by omega⟩
        simp only [slices_insertionSortOrdered_byte.l1]
        have ej : ((j + 1 : Nat) : Int) - 1 = (j : Int) := by omega
        rw [if_pos (by omega), if_pos (by omega), if_pos (by omega), ej, w64i (by omega) (by omega), if_pos (by omega), if_pos (by omega), less_f]
        simp only [Option.bind_some]
        by_cases hlt : rd x ((j + 1 : Nat) : Int) < rd x (j : Int)
        · rw [decide_eq_true hlt, if_pos rfl]
          have ht : (((j + 1 : Nat) : Int)).toNat = j + 1 := by omega
          have ht2 : ((j : Int)).toNat = j := by omega
          rw [ht, ht2]
          have hlen : ((x.set (j + 1) (rd x (j : Int))).set j (rd x ((j + 1 : Nat) : Int))).length = n := by simp [hx]
          have hr : ∀ p : Nat, rd ((x.set (j + 1) (rd x (j : Int))).set j (rd x ((j + 1 : Nat) : Int))) (p : Int) = if j = p then rd x ((j + 1 : Nat) : Int) else if j + 1 = p then rd x (j : Int) else rd x (p : Int) := by
            intro p
            rw [rd_set _ _ _ _ (by rw [List.length_set]; omega), rd_set _ _ _ _ (by omega)]
          obtain ⟨r, h1, h2, h3, h4⟩ := ihj k _ hlen (by omega) ⟨fun p q hpq hq hp hq' => by
            rw [hr p, if_neg (show ¬ j = p by omega), hr q, if_neg (show ¬ j = q by omega)]
            by_cases e1 : j + 1 = p
            · rw [if_pos e1, if_neg (show ¬ j + 1 = q by omega)]
              exact hh.1 j q (by omega) hq (by omega) (by omega)
            · rw [if_neg e1]
              by_cases e2 : j + 1 = q
              · rw [if_pos e2]
                exact hh.1 p j (by omega) (by omega) (by omega) (by omega)
              · rw [if_neg e2]
                exact hh.1 p q hpq hq (by omega) (by omega), fun q hq hq2 => by
            rw [hr j, if_pos rfl, hr q, if_neg (show ¬ j = q by omega)]
            by_cases e2 : j + 1 = q
            · rw [if_pos e2]; omega
            · rw [if_neg e2]
              exact hh.2 q (by omega) hq2⟩ (by omega)
          refine ⟨r, h1, h2.trans ?_, h3, h4⟩
          rw [rd_get x j (by omega), rd_get x (j + 1) (by omega)]
          exact List.set_set_perm (by omega) (by omega)
        · rw [decide_eq_false hlt, if_neg (by simp), w64i (by omega) (by omega)]
          have := ih k x hx (by omega) (fun p q hpq hq => by
            by_cases hp : p = j + 1
            · subst hp; exact hh.2 q hpq hq
            · by_cases hq' : q = j + 1
              · subst hq'
                by_cases hpj : p = j
                · subst hpj; omega
                · have := hh.1 p j (by omega) (by omega) hp (by omega)
                  omega
              · exact hh.1 p q hpq hq hp hq') (by omega)
          rwa [show ((i + 1 : Nat) : Int) = (i : Int) + 1 from by omega] at this
    obtain ⟨k, rfl⟩ : ∃ m, k = m + 1 := ⟨k - 1, by omega⟩
    simp only [slices_insertionSortOrdered_byte.l0]
    rw [if_pos (by omega)]
    exact inner i k x hx (Nat.le_refl _) ⟨fun p q hpq hq hp hq' => hs p q hpq (by omega), fun q h1 h2 => by omega⟩ (by omega)
/-- The insertion sort of a few bytes comes to a sorted order of them. -/
theorem ins_f (l : List Int) (hn : l.length ≤ 1000) : ∃ k r, slices_insertionSortOrdered_byte.f k l 0 (l.length : Int) = some r ∧ r.Perm l ∧ SortedTo r l.length ∧ r.length = l.length := by
  rcases Nat.eq_zero_or_pos l.length with h0 | h0
  · refine ⟨1, l, ?_, List.Perm.refl _, fun p q hpq hq => by omega, rfl⟩
    unfold slices_insertionSortOrdered_byte.f
    simp only [slices_insertionSortOrdered_byte.l0]
    rw [w64i (by omega) (by omega), if_neg (by omega)]
  · have h := ins_all l.length hn (l.length - 1) ((l.length - 1) * (l.length + 2) + l.length + 2) l rfl (by omega) (fun p q hpq hq => by omega) (by omega)
    rw [show l.length - (l.length - 1) = 1 from by omega] at h
    obtain ⟨r, h1, h2, h3, h4⟩ := h
    refine ⟨(l.length - 1) * (l.length + 2) + l.length + 2, r, ?_, h2, h3, h4⟩
    unfold slices_insertionSortOrdered_byte.f
    rw [w64i (by omega) (by omega)]
    exact h1
/-! ### own: are all of a list its own? -/
/-- Are all of l in lf? -/
def allIn (lf l : List Int) : Bool := l.all fun x => decide (0 ≤ at1 lf x)
theorem own_each (w : World) (b g : Nat) (ty dev : ByteArray) (A : Option Addr) (n c : Nat) (lf : List Int) (st : Int) (d : ByteArray) (ag : Value) (h : EndB w g ty dev (.slice A n c) st d ag) (hz : A = none → c = 0)
    (hr : Kd.C (Kd.int .u8) w A n lf) (hb : w.cell? ⟨b, 0, none⟩ = some (.pointer (some ⟨g, 0, none⟩))) (x : Int) :
    Calls Try.prog 89 #[.int .u8 x, .pointer (some ⟨b, 0, none⟩)] w fun e w' => e = .returned (.bool (decide (at1 lf x < 0))) ∧ w = w' := by
  have hc2 : w.cell? ⟨g, 2, none⟩ = some (.slice A n c) := blk_cell h 2
  have HR := Aside0.mk hr
  have HZ := Aside0.mk hz
  clear h hr hz
  go_enter Try.func89, Try.ntmps89
  go_wp2_with (go_at_call 81; go_must (refine (indexByte_any _ _ _ lf _ x HR.out HZ.out).mono ?_; rintro e w1 ⟨rfl, rfl⟩))
  go_ret
  exact ⟨rfl, rfl⟩
theorem index_own (w : World) (b g : Nat) (ty dev : ByteArray) (A : Option Addr) (n c : Nat) (lf : List Int) (st : Int) (d : ByteArray) (ag : Value) (h : EndB w g ty dev (.slice A n c) st d ag) (hz : A = none → c = 0)
    (hr : Kd.C (Kd.int .u8) w A n lf) (hb : w.cell? ⟨b, 0, none⟩ = some (.pointer (some ⟨g, 0, none⟩)))
    (B : Option Addr) (m cm : Nat) (l : List Int) (hl : Kd.C (Kd.int .u8) w B m l) (hm : m ≤ 140737488355328) :
    Calls Try.prog 109 #[.slice B m cm, .func (.func 89) #[] #[.pointer (some ⟨b, 0, none⟩)]] w fun e w' => ∃ r : Int, e = .returned (.int .i64 r) ∧ decide (0 ≤ r) = !allIn lf l ∧ w = w' := by
  obtain rfl : l.length = m := hl.1
  have hm2 : l.length ≤ 9223372036854775807 := by omega
  have HE := Aside0.mk (own_each w b g ty dev A n c lf st d ag h hz hr hb)
  have HL := Aside0.mk hl
  clear h hz hr hb hl hm
  go_enter Try.func109, Try.ntmps109
  go_wp2
  go_loop [8] (fun i => ∃ k : Nat, k ≤ l.length ∧ i = .int .i64 k ∧ Aside0 (∀ j, j < k → 0 ≤ at1 lf (rd l j))) (fun i => l.length - (intOf i).toNat)
  case atStart => exact ⟨0, Nat.zero_le _, rfl, ⟨fun j hj => absurd hj (by omega)⟩⟩
  case round =>
    obtain ⟨k, hk, rfl, HA⟩ := hrel
    by_cases hlt : k < l.length
    · obtain ⟨ad, e, hx⟩ := cell0 HL.out k hlt
      subst e
      have hk0 : (0 : Int) ≤ (k : Int) := Int.natCast_nonneg k
      have hk1 : (k : Int) < (l.length : Int) := Int.ofNat_lt.2 hlt
      by_cases hf : at1 lf (rd l k) < 0
      · have hd : decide (at1 lf (rd l k) < 0) = true := decide_eq_true hf
        have hF := Aside0.mk (show allIn lf l = false by
          unfold allIn
          rw [List.all_eq_false]
          refine ⟨rd l k, ?_, by simp; omega⟩
          unfold rd
          rw [Int.toNat_natCast, List.getD_eq_getElem?_getD, List.getElem?_eq_getElem hlt]
          exact List.getElem_mem hlt)
        clear hf HA
        go_wp2_with (go_at_call 89; go_must (refine (HE.out _).mono ?_; rintro e w1 ⟨rfl, rfl⟩))
        go_ret
        exact ⟨_, rfl, by rw [hF.out]; simp, rfl⟩
      · have hA2 : Aside0 (∀ j, j < k + 1 → 0 ≤ at1 lf (rd l j)) := ⟨fun j hj => by
          rcases Nat.lt_or_ge j k with h | h
          · exact HA.out j h
          · obtain rfl : j = k := by omega
            omega⟩
        have hd : decide (at1 lf (rd l k) < 0) = false := decide_eq_false hf
        clear hf HA
        go_wp2_with (go_at_call 89; go_must (refine (HE.out _).mono ?_; rintro e w1 ⟨rfl, rfl⟩))
        go_round
        case rel => exact ⟨k + 1, hlt, by go_num, hA2⟩
        case measure => simp [intOf]; omega
    · have hF := Aside0.mk (show allIn lf l = true by
        unfold allIn
        rw [List.all_eq_true]
        intro x hx
        obtain ⟨j, hj, rfl⟩ := List.getElem_of_mem hx
        have := HA.out j (by omega)
        unfold rd at this
        rw [Int.toNat_natCast, List.getD_eq_getElem?_getD, List.getElem?_eq_getElem hj] at this
        exact decide_eq_true this)
      clear HA
      go_wp2
      go_ret
      exact ⟨_, rfl, by rw [hF.out]; simp, rfl⟩
theorem own_any (w : World) (g : Nat) (ty dev : ByteArray) (A : Option Addr) (n c : Nat) (lf : List Int) (st : Int) (d : ByteArray) (ag : Value) (h : EndB w g ty dev (.slice A n c) st d ag) (hz : A = none → c = 0)
    (hr : Kd.C (Kd.int .u8) w A n lf) (B : Option Addr) (m cm : Nat) (l : List Int) (hl : Kd.C (Kd.int .u8) w B m l) (hm : m ≤ 140737488355328) :
    Calls Try.prog 78 #[.pointer (some ⟨g, 0, none⟩), .slice B m cm] w fun e w' => e = .returned (.bool (allIn lf l)) ∧ Below w.heap.size w w' := by
  have HI := Aside0.mk (fun (W : World) (hb : Below w.heap.size w W) (b : Nat) (hbx : W.cell? ⟨b, 0, none⟩ = some (.pointer (some ⟨g, 0, none⟩))) => index_own W b g ty dev A n c lf st d ag (h.below hb) hz (Kd.C_below hr hb) hbx B m cm l (Kd.C_below hl hb) hm)
  clear h hz hr hl hm
  have hmf : ∀ (fn : Fn) (first cap : Array Value) (w : World), (Instr.makeFunc fn first cap).run Try.prog w = .ok (.func fn first cap) w := fun _ _ _ _ => rfl
  go_enter Try.func78, Try.ntmps78
  go_wp2_with (first | (go_at_call 109; go_must (refine (HI.out _ (below_alloc (Below.refl _ _) _) w.heap.size ((blk_cell (blk_new w _) 0).trans rfl)).mono ?_; rintro e w1 ⟨r, rfl, hd, rfl⟩)) | (go_at_call 88; go_in))
  go_ret
  exact ⟨by simp, below_alloc (Below.refl _ _) _⟩
/-! ### a row of bytes lies apart from an end -/
theorem C_fr {w w1 : World} {S : Nat → Prop} {A : Option Addr} {n : Nat} {l : List Int} (h : Kd.C (Kd.int .u8) w A n l) (hf : Fr S w w1) (hs : ∀ ad, A = some ad → 0 < n → ¬ S ad.block) : Kd.C (Kd.int .u8) w1 A n l := by
  refine ⟨h.1, h.2.1, fun hn => ?_⟩
  obtain ⟨ad, he, hc⟩ := h.2.2 hn
  refine ⟨ad, he, fun j p hj => ?_⟩
  obtain ⟨cs, h1, h2, h3⟩ := hc j p hj
  refine ⟨cs, h1, h2, fun i u hu => ?_⟩
  have h4 := h3 i u hu
  have hlt := World.block_lt_of_cell? w _ h4
  rw [← h4]
  refine World.cell?_of_block (hf.block _ hlt ?_)
  rw [add_block]
  exact hs ad he hn
theorem C_apart {w : World} {A : Option Addr} {n : Nat} {l : List Int} (h : Kd.C (Kd.int .u8) w A n l) {g : Nat} {ty dev : ByteArray} {A2 : Option Addr} {n2 c2 : Nat} {st : Int} {d : ByteArray} {A3 : Option Addr} {n3 c3 : Nat} (hE : EndB w g ty dev (.slice A2 n2 c2) st d (.slice A3 n3 c3)) :
    ∀ ad, A = some ad → 0 < n → ¬ only g ad.block := by
  rintro ad rfl hn hg
  obtain ⟨ad', e, hx⟩ := cell0 h 0 hn
  cases e
  have hb : ad.block = g := hg
  have h2 : w.cell? ad = some (.int .u8 (rd l 0)) := hx
  obtain ⟨b, o, s⟩ := ad
  subst hb
  have hs : s = none := by simpa using World.cell?_spot h2
  subst hs
  have h3 := (blk_cell hE o).symm.trans h2
  have h5 : o < 6 := by
    have := (Array.getElem?_eq_some_iff.1 h3).1
    simpa using this
  match o, h5 with
  | 0, _ | 1, _ | 2, _ | 3, _ | 4, _ | 5, _ => simp at h3

/-! ### offer, agree -/
set_option maxHeartbeats 400000 in
theorem offer_any (w : World) (g : Nat) (ty dev : ByteArray) (A : Option Addr) (n c : Nat) (st : Int) (d : ByteArray) (A3 : Option Addr) (n3 c3 : Nat) (h : EndB w g ty dev (.slice A n c) st d (.slice A3 n3 c3))
    (B : Option Addr) (m cm : Nat) (l : List Int) (hl : Kd.C (Kd.int .u8) w B m l) (hm : m ≤ 1000000) :
    Calls Try.prog 76 #[.pointer (some ⟨g, 0, none⟩), .slice B m cm] w fun e w' => ∃ v, e = .returned v ∧ OwnB w' w.heap.size v ([3, 7] ++ l) ∧ EndB w' g ty dev (.slice A n c) 2 d (.slice none 0 0) ∧ Fr (only g) w w' := by
  have hc3 : w.cell? ⟨g, 3, none⟩ = some (.int .i64 st) := blk_cell h 3
  have hc5 : w.cell? ⟨g, 5, none⟩ = some (.slice A3 n3 c3) := blk_cell h 5
  have hf3 := blk_frozen h 3
  have hf5 := blk_frozen h 5
  have hlt : g < w.heap.size := blk_lt h
  have HAP := Aside0.mk (C_apart hl h)
  have H := Aside0.mk h
  have HL := Aside0.mk hl
  have HM := Aside0.mk hm
  clear h hl hm
  go_enter Try.func76, Try.ntmps76
  go_wp2_with (first | ((with_reducible refine gate_dst (N := 11) rfl ?_); go_must (refine litE w.heap.size rfl (N := 11) rfl [3, 7] ?zr ?zb ?zl ?_; (case zr => first | (go_simp; done) | (go_simp; rfl)); (case zb => simp); (case zl => simp); intro v1 w1 ho hb hfr; have BK : w1.heap[g]? = some (.cells #[.string ty, .string dev, .slice A n c, .int .i64 2, .string d, .slice none 0 0] 113 (0, 0)) := blk_below (by exact blk_put (blk_put H.out 3 _ rfl) 5 _ rfl) hb; have HF : Fr (only g) w w1 := Fr.below (by exact ((Fr.refl (only g) w).setCell (p := ⟨g, 3, none⟩) (.inl rfl) _).setCell (p := ⟨g, 5, none⟩) (.inl rfl) _) hb; have HO := Aside0.mk ho; have HB := Aside0.mk BK; have HFF := Aside0.mk HF; have HG := own_ge ho; have hz := HF.size; have hk : ∀ k, v1.ownBlock = some k → only g k ∨ w.heap.size ≤ k := fun k hk => .inr (HG k hk); have hne : some g ≠ v1.ownBlock := fun e => Nat.lt_irrefl _ (Nat.lt_of_lt_of_le hlt (HG g e.symm)); have HK := Aside0.mk hk; have HNE := Aside0.mk hne; clear hk hne HG ho BK HF hb hfr hc3 hc5 hf3 hf5)) | (at_builtin; go_must (refine appL w.heap.size rfl (.tmp 11) (.tmp 12) rfl _ [3, 7] l B m cm rfl rfl HO.out (C_fr HL.out HFF.out HAP.out) hz ?z4 ?_; (case z4 => have h4 := HM.out; simp only [List.length_cons, List.length_nil]; omega); intro v2 w2 ho2 hg2; have BK2 := blk_grown HB.out hg2 HNE.out; have HF2 := Aside0.mk (HFF.out.grown hg2 (fun i hi => HK.out i hi)); obtain ⟨A1, m1, c1, rfl, _, _, _⟩ := OwnB.open ho2; have HO2 := Aside0.mk ho2; have HB2 := Aside0.mk BK2; clear ho2 BK2 hg2)))
  go_ret
  exact ⟨_, rfl, HO2.out, HB2.out, HF2.out⟩
/-! ### slices.Sort of a few bytes -/
theorem pdq_small (w0 w : World) (A : Option Addr) (n c : Nat) (l r : List Int) (k : Nat) (lim : Int) (hB : Below w0.heap.size w0 w) (ho : OwnB w w0.heap.size (.slice A n c) l) (hn : n ≤ 12) (hl : l.length = n)
    (hs : slices_insertionSortOrdered_byte.f k l 0 (n : Int) = some r) :
    Calls Try.prog 127 #[.slice A n c, .int .i64 0, .int .i64 n, .int .i64 lim] w fun e w' => e = .returned (.tuple #[]) ∧ OwnB w' w0.heap.size (.slice A n c) r ∧ Below w0.heap.size w0 w' ∧ Kept w w' (fun k => (Value.slice A n c).ownBlock = some k) := by
  have h1 : Kd.R (Kd.int .u8) 5 w w0.heap.size (fun k => (Value.slice A n c).ownBlock = some k) (.slice A n c) l := Kd.R_of_own (h1 := fun _ => rfl) (own_nums ho) (fun _ h => h)
  have HS := Aside0.mk (slices_insertionSortOrdered_byte.calls k _ (.slice A n c) l 0 (n : Int) r w0 w hB h1 hs)
  have h12 : (n : Int) ≤ 12 := by omega
  clear hB ho hs h1 hl
  go_enter Try.func127, Try.ntmps127
  go_wp2
  refine wp_loop_rounds 1 ?_
  rw [rounds_succ]
  go_wp2_with (go_at_call 138; go_must (refine HS.out.mono ?_; rintro e w1 ⟨rfl, hR, hb, hk⟩; have HR := Aside0.mk hR; have HB := Aside0.mk hb; have HK := Aside0.mk hk; clear hR hb hk))
  refine bodyPost_ret (results_none rfl _ _ _) rfl ?_
  exact ⟨rfl, Kd.R_mono HR.out (fun _ _ => trivial), HB.out, HK.out⟩
theorem sort_small (w0 w : World) (A : Option Addr) (n c : Nat) (l r : List Int) (k : Nat) (hB : Below w0.heap.size w0 w) (ho : OwnB w w0.heap.size (.slice A n c) l) (hn : n ≤ 12) (hl : l.length = n)
    (hs : slices_insertionSortOrdered_byte.f k l 0 (n : Int) = some r) :
    Calls Try.prog 111 #[.slice A n c] w fun e w' => e = .returned (.tuple #[]) ∧ OwnB w' w0.heap.size (.slice A n c) r ∧ Below w0.heap.size w0 w' ∧ Kept w w' (fun k => (Value.slice A n c).ownBlock = some k) := by
  have HP := Aside0.mk (fun lim => pdq_small w0 w A n c l r k lim hB ho hn hl hs)
  clear hB ho hs hl
  go_enter Try.func111, Try.ntmps111
  go_wp2_with (first | (go_at_call 84; go_must (refine (Try.bits_Len (n : Int) _ (Int.natCast_nonneg n) (by omega)).mono ?_; rintro e w1 ⟨rfl, rfl⟩)) | (go_at_call 127; go_must (refine (HP.out _).mono ?_; rintro e w1 ⟨rfl, hR, hb, hk⟩; have HR := Aside0.mk hR; have HB := Aside0.mk hb; have HK := Aside0.mk hk; clear hR hb hk)))
  go_end0
  exact ⟨rfl, HR.out, HB.out, HK.out⟩
/-! ### slices.Values, Collect, Sorted of bytes -/
section iter
attribute [local go_sem] Oper.semAt_some
open Go.Shelf
theorem Fr.of_upto {n₀ : Nat} {w w1 : World} (h : Below n₀ w w1) : Fr (fun k => n₀ ≤ k) w w1 := ⟨h.os, h.tape, h.output, h.size, fun k _ hn => h.block k (by omega)⟩
def uptoR (l : List Int) (k : Nat) : List Int := (List.range k).map fun (j : Nat) => rd l (j : Int)
theorem uptoR_succ (l : List Int) (k : Nat) : uptoR l (k + 1) = uptoR l k ++ [rd l (k : Int)] := by simp [uptoR, List.range_succ]
theorem uptoR_len (l : List Int) (k : Nat) : (uptoR l k).length = k := by simp [uptoR]
theorem uptoR_all (l : List Int) : uptoR l l.length = l := by
  apply List.ext_getElem
  · simp [uptoR]
  · intro i h1 h2
    simp [uptoR, rd, h2]
set_option maxRecDepth 100000 in
set_option maxHeartbeats 2000000 in
theorem values1_in (F : Fence) (n : Nat) (h7 : F.fn 112) (hro : F.round = none) (hn : 1 ≤ n) (l Bs n₀ : Nat) (A : Option Addr) (len cap : Nat) (zs : List Int) (hm : len ≤ 140737488355328) (hb : ∀ ad, A = some ad → 0 < len → ad.block < n₀) (J Jx : List Int → World → Prop)
    (hY : ∀ pre x W, J pre W → pre.length < len → YieldAt F (n - 1) Try.prog l #[.int .u8 x] W fun e W' =>
      (e = .returned (.bool true) ∧ J (pre ++ [x]) W' ∧ Below n₀ W W') ∨ (e = .returned (.bool false) ∧ Jx (pre ++ [x]) W'))
    (W : World) (hBs : W.cell? ⟨Bs, 0, none⟩ = some (.slice A len cap)) (hC : Kd.C (Kd.int .u8) W A len zs) (h0 : J [] W) :
    CallsIn F n Try.prog 112 #[.func (.yield l) #[] #[], .pointer (some ⟨Bs, 0, none⟩)] W fun e W' => (∃ v, e = .returned v) ∧
      ((∃ ys, ys = zs ∧ J ys W') ∨ (∃ pre, True ∧ Jx pre W')) := by
  have HC := Aside0.mk hC
  have HB := Aside0.mk hb
  have HY := Aside0.mk hY
  have hlen : zs.length = len := hC.1
  have HLEN := Aside0.mk hlen
  clear hC hb hY hlen
  refine callsIn_of_wp Try.func112 rfl h7 ?_ hro
  simp only [Try.ntmps112, List.size_toArray, List.length_cons, List.length_nil, Nat.reduceAdd, Nat.reduceSub, Array.replicate_succ, Array.replicate_zero, List.push_toArray, List.append_toArray, List.nil_append, List.cons_append]
  gi_wp2
  gi_loopw [7] (fun i wr => ∃ k : Nat, k ≤ len ∧ i = .int .i64 k ∧ Aside0 (J (uptoR zs k) wr) ∧ Aside0 (Below n₀ W wr))
    (fun i _ => len - (intOf i).toNat)
  case atStart => exact ⟨0, Nat.zero_le _, rfl, ⟨h0⟩, ⟨Below.refl _ _⟩⟩
  case round =>
    obtain ⟨k, hk, rfl, hJs, hnx⟩ := hrel
    by_cases hlt : k < len
    · have hC2 := C_fr HC.out (Fr.of_upto hnx.out) (fun ad e hp hS => by have := HB.out ad e hp; omega)
      obtain ⟨ad, e, hx⟩ := cell0 hC2 k hlt
      subst e
      clear hC2
      obtain ⟨fn, tmps, assign, body, hy, hR⟩ := HY.out _ (rd zs k) wr hJs.out (by rw [uptoR_len]; exact hlt)
      have hk0 : (0 : Int) ≤ (k : Int) := Int.natCast_nonneg k
      have hk1 : (k : Int) < (len : Int) := Int.ofNat_lt.2 hlt
      gi_wp2
      refine hR.mono ?_
      rintro e W3 (⟨rfl, hJ3, hk3⟩ | ⟨rfl, hJx3⟩)
      · have HJ3 := Aside0.mk hJ3
        have HK3 := Aside0.mk (hnx.out.trans hk3)
        clear hJ3 hk3 hJs hnx
        gi_wp2
        go_roundw
        case rel => exact ⟨k + 1, hlt, by go_num, ⟨by rw [uptoR_succ]; exact HJ3.out⟩, HK3⟩
        case measure => simp [intOf]; omega
      · have HJ3 := Aside0.mk hJx3
        clear hJx3
        gi_wp2
        refine bodyPost_ret (results_none rfl _ _ _) rfl ?_
        exact ⟨⟨_, rfl⟩, .inr ⟨_, trivial, HJ3.out⟩⟩
    · have hke : k = len := by omega
      have hJf := Aside0.mk (show J zs wr by have h := hJs.out; rw [hke, ← HLEN.out, uptoR_all] at h; exact h)
      clear hJs hke
      gi_wp2
      go_end0
      exact ⟨⟨_, rfl⟩, .inl ⟨_, rfl, hJf.out⟩⟩

/-- slices.Values(v) hands back a value that SeqStopsK. -/
theorem values_stops (F : Fence) (n : Nat) (h7 : F.fn 112) (hro : F.round = none) (hn : 1 ≤ n) (Bs n₀ : Nat) (A : Option Addr) (len cap : Nat) (zs : List Int) (hm : len ≤ 140737488355328) (w : World) (hBs : Bs < w.heap.size) (hn₀ : n₀ ≤ w.heap.size)
    (hb : ∀ ad, A = some ad → 0 < len → ad.block < n₀) (hc : w.cell? ⟨Bs, 0, none⟩ = some (.slice A len cap)) (hC : Kd.C (Kd.int .u8) w A len zs) :
    SeqStopsK F n Try.prog 112 #[.pointer (some ⟨Bs, 0, none⟩)] (fun x : Int => #[Value.int .u8 x]) (Below n₀) (fun ys => ys = zs) (fun _ => True) len w := fun l J Jx W hW _ _ hY h0 =>
  values1_in F n h7 hro hn l Bs n₀ A len cap zs hm hb J Jx hY W ((hW.cell (p := ⟨Bs, 0, none⟩) hBs).trans hc) (Kd.C_below hC hW) h0

set_option maxRecDepth 100000 in
set_option maxHeartbeats 2000000 in
/-- slices.AppendSeq(nil, seq). -/
theorem appendSeq_in (F : Fence) (n : Nat) (h3 : F.fn 126) (h5 : F.fn 112) (hro : F.round = none) (hn : 3 ≤ n) (Bs : Nat) (A : Option Addr) (len cap : Nat) (zs : List Int) (hm : len ≤ 1000000) (w : World) (hBs : Bs < w.heap.size)
    (hc : w.cell? ⟨Bs, 0, none⟩ = some (.slice A len cap)) (hC : Kd.C (Kd.int .u8) w A len zs) :
    CallsIn F n Try.prog 126 #[.slice none 0 0, .func (.func 112) #[] #[.pointer (some ⟨Bs, 0, none⟩)]] w fun e W' => ∃ v, e = .returned v ∧ W'.ownsRow w.heap.size 5 1 v zs.length (zs.map (Value.int .u8)) ∧ Below w.heap.size w W' := by
  have h1 : 1 ≤ n := by omega
  have hlen : zs.length = len := hC.1
  have hbl : ∀ ad, A = some ad → 0 < len → ad.block < w.heap.size := by
    rintro ad rfl hp
    obtain ⟨ad', e, hx⟩ := cell0 hC 0 hp
    cases e
    exact World.block_lt_of_cell? w ad hx
  obtain ⟨i0, hi, hz0, hz1, hz2⟩ := info_parts info5
  refine callsIn_of_wp_marks Try.func126 rfl h3 ?_ hro
  simp only [Try.ntmps126, List.size_toArray, List.length_cons, List.length_nil, Nat.reduceAdd, Nat.reduceSub, Array.replicate_succ, Array.replicate_zero, List.push_toArray, List.append_toArray, List.nil_append, List.cons_append]
  gi_wp2
  have bO := Boxed.new w 49 (.slice none 0 0)
  have hB0 : Below w.heap.size w (w.alloc (.cells #[.slice none 0 0] 49)) := ((Below.refl _ w).alloc (Nat.le_refl _) _)
  refine wpIn_rangeFunc_ownG hro h1 (gf := 112) (lb := #[.pointer (some ⟨Bs, 0, none⟩)]) rfl h5 (enters_of Try.func112 (by kernel_rfl) rfl)
    (values_stops F (n - 1) h5 hro (by omega) Bs w.heap.size A len cap zs (by omega) _ (by simp; omega) (by simp) hbl ((hB0.cell (p := ⟨Bs, 0, none⟩) hBs).trans hc) (Kd.C_alloc hC _)) belowK_t (belowK_b (by simp)) (Below.refl _ _) (fun _ => rfl)
    (fun (pre : List Int) W => (∃ v, Boxed W w.heap.size 49 v ∧ W.ownsRow w.heap.size 5 1 v pre.length (pre.map (Value.int .u8)) ∧ True) ∧ Below w.heap.size w W)
    (fun _ _ _ => False)
    (OwnFrom.and (Own.from (holdsRow_own w.heap.size w.heap.size 49 5 1 (fun (pre : List Int) => pre.length) (fun (pre : List Int) => pre.map (Value.int .u8)) (fun (pre : List Int) v => True)) _) (ownFrom_below (Nat.le_refl _) (by simp)))
    (fun _ _ _ _ _ hs _ _ => hs)
    ⟨⟨_, bO, World.ownsRow_nil _ _ _ _, trivial⟩, hB0⟩
    (fun x => { tmps := #[.slice none 0 0, .func (.func 112) #[] #[.pointer (some ⟨Bs, 0, none⟩)], .pointer (some ⟨w.heap.size, 0, none⟩), undef, .slice none 0 0, .int .u8 x, .func (.func 112) #[] #[.pointer (some ⟨Bs, 0, none⟩)], .int .u8 x, undef, undef, undef, undef, undef], defers := [] }) ?assign ?body ?done ?stop
  case assign =>
    intro l x W K hK
    gi_wp2
    exact hK
  case body =>
    rintro l pre x W ⟨⟨v, hv, hrow, _⟩, hB⟩ hlt
    have hc := hv.cell
    gi_wp2_with (gi_at_builtin; refine wpListIn_append_own _ rfl _ _ 49 rfl w.heap.size 5 i0 (.int .u8 0) 1 1 Try.underlying49 hi hz0 hz1 hz2 rfl (by decide) _ _ _ rfl (hrow.alloc _) ⟨W.heap.size, 0, none⟩ 1 1 [.int .u8 x] rfl rfl (cell_one_new _ _ _) (by simp [Value.oneCell']) (by simp only [maxLen]; omega) (by omega) (by have := hB.size; simp; omega) ?_; intro v' w1 hown' hgrow _; obtain ⟨g', cap', rfl⟩ := ownsRow_succ hown'; obtain ⟨hv1, hv2, hr2, hk2, hb2⟩ := hv.appended (by decide) hrow hB.size (Nat.le_refl _) hown' hgrow; have hc1 := hv1.cell; have hf1 := hv1.frozen)
    exact ⟨hk2.from _, hb2, ⟨_, hv2, by simpa using hr2, trivial⟩, hB.trans hb2⟩
  case done =>
    rintro D ys W hD rfl ⟨⟨v, hv, hrow, _⟩, hB⟩ hK
    have hc := hv.cell
    gi_wp2
    refine ⟨by simp, .inl ⟨_, _, rfl, run_takeDeferred hK, ?_⟩⟩
    exact ⟨_, results_tmp rfl _ _ _, v, rfl, ownsRow_putObj hrow _ hK rfl, hB.trans (belowK_b (w := w) (Nat.le_refl _) W D _ _ (by simp at hD; omega) hK rfl rfl)⟩
  case stop =>
    rintro D c pre W _ _ h _
    exact h.elim
end iter
end Go.Proofs.Ytclpkbgjaiacpaa
