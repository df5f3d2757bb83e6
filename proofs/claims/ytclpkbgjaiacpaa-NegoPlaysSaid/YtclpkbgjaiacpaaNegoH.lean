/- What is proved: the reference's in, sorted, names, common; Flip. Conditions: those that each theorem states. -/
import Derived.Test.YtclpkbgjaiacpaaNegoG
import Derived.Test.YtclpkbgjaiacpaaPNpx2
import Derived.WalkSpells
import Derived.Deep.DeepMust
import Derived.Deep.RegionHeld3
import Derived.StillTactics
import Derived.Lib.SlBytesConst
namespace Go.Proofs.Ytclpkbgjaiacpaa
open Go.RowKit Go.Proofs.YtclpkbgjaiacpaaW.PrintWords Go.Proofs.YtclpkbgjaiacpaaW.PrintLast Go.Proofs.YtclpkbgjaiacpaaW.PrintMore
open Go.Proofs.Ytclpkbgjaiacpaa.PNegoAgrees Go.Proofs.Ytclpkbgjaiacpaa.PSrt
set_option linter.unusedVariables false
set_option linter.unusedSimpArgs false
/-! ### the reference: names, in, sorted -/
theorem at1_hit {l : List Int} {k : Nat} {cv : Int} (hc0 : 0 ≤ cv) (hc1 : cv < 256) (hr : ∀ x ∈ l, 0 ≤ x ∧ x < 256) (hk : k < l.length) (h : ∀ j, j < k → rd l j ≠ cv) (e : rd l k = cv) : at1 l cv = k := by
  have hm : cv ∈ l := by rw [← e, rd_get l k hk]; exact List.getElem_mem hk
  obtain ⟨o, ho⟩ := Int.eq_ofNat_of_zero_le ((at1_mem l cv hc0 hc1 hr).2 hm)
  have hs := Lib.indexByte_some (l := Lib.bytesOf l) (c := cv.toNat.toUInt8) (o := o) ho
  have at_ : ∀ j : Nat, (hj : j < l.length) → (Lib.bytesOf l)[j]? = some (UInt8.ofNat (rd l j).toNat) := fun j hj => by
    unfold Lib.bytesOf
    rw [List.getElem?_map, List.getElem?_eq_getElem hj, rd_get l j hj]
    rfl
  have hol : o < l.length := by have := at1_lt l cv; omega
  have h1 : rd l o = cv := by
    have h2 := hs.1
    rw [at_ o hol] at h2
    have hro := hr (rd l o) (by rw [rd_get l o hol]; exact List.getElem_mem hol)
    exact u8_inj hro.1 hro.2 hc0 hc1 (Option.some.inj h2)
  have h3 : ¬ k < o := fun hlt => hs.2 k hlt (by rw [at_ k hk, e])
  have h4 : ¬ o < k := fun hlt => h o hlt h1
  rw [ho]
  have : o = k := by omega
  rw [this]
theorem at1_miss {l : List Int} {cv : Int} (hc0 : 0 ≤ cv) (hc1 : cv < 256) (hr : ∀ x ∈ l, 0 ≤ x ∧ x < 256) (h : ∀ j, j < l.length → rd l j ≠ cv) : at1 l cv < 0 := by
  rcases Int.lt_or_le (at1 l cv) 0 with h0 | h0
  · exact h0
  · obtain ⟨j, hj, e⟩ := List.getElem_of_mem ((at1_mem l cv hc0 hc1 hr).1 h0)
    exact absurd (by rw [rd_get l j hj, e]) (h j hj)
theorem in_f (l : List Int) (cv : Int) (hc0 : 0 ≤ cv) (hc1 : cv < 256) (hr : ∀ x ∈ l, 0 ≤ x ∧ x < 256) (hn : l.length ≤ 4611686018427387904) : Ev (fun k => PNp.vitrineref10_in.f k l cv) (decide (0 ≤ at1 l cv)) := by
  have key : ∀ (d i : Nat), i + d = l.length → (∀ j, j < i → rd l j ≠ cv) → Ev (fun k => PNp.vitrineref10_in.l0 k cv l (l.length : Int) (i : Int)) (decide (0 ≤ at1 l cv)) := by
    intro d
    induction d with
    | zero =>
      intro i hi h
      refine Ev.of fun k => ?_
      simp only [PNp.vitrineref10_in.l0]
      rw [if_neg (by omega), decide_eq_false (by have := at1_miss hc0 hc1 hr (fun j hj => h j (by omega)); omega)]
    | succ d ih =>
      intro i hi h
      by_cases e : rd l i = cv
      · refine Ev.of fun k => ?_
        simp only [PNp.vitrineref10_in.l0]
        rw [if_pos (by omega), if_pos (by omega), if_pos (by omega), if_pos e, decide_eq_true (by rw [at1_hit hc0 hc1 hr (by omega) h e]; omega)]
      · refine Ev.step (fun k => ?_) (ih (i + 1) (by omega) (fun j hj => by
          rcases Nat.lt_or_ge j i with h1 | h1
          · exact h j h1
          · obtain rfl : j = i := by omega
            exact e))
        simp only [PNp.vitrineref10_in.l0]
        rw [if_pos (by omega), if_pos (by omega), if_pos (by omega), if_neg e, w64 (by omega) (by omega)]
        rfl
  exact key l.length 0 (by omega) (fun j hj => by omega)
def sortedL (l : List Int) : List Int := ([0, 1, 2, 3, 4] : List Int).filter fun f => decide (0 ≤ at1 l f)
theorem sorted_f (l : List Int) (hr : ∀ x ∈ l, 0 ≤ x ∧ x < 256) (hn : l.length ≤ 4611686018427387904) : Ev (fun k => PNp.vitrineref10_sorted.f k l) (sortedL l) := by
  have st : ∀ (f : Int) (out r : List Int), 0 ≤ f → f ≤ 4 → out.length < 100 → Ev (fun k => PNp.vitrineref10_sorted.l0 k l (if decide (0 ≤ at1 l f) = true then out ++ [f] else out) ((f + 1) % 256)) r → Ev (fun k => PNp.vitrineref10_sorted.l0 k l out f) r := by
    intro f out r h0 hf ho h
    obtain ⟨k0, hk0⟩ := in_f l f h0 (by omega) hr hn
    obtain ⟨k1, hk1⟩ := h
    refine ⟨max k0 k1 + 1, fun k hk => ?_⟩
    obtain ⟨k, rfl⟩ : ∃ m, k = m + 1 := ⟨k - 1, by omega⟩
    have e0 := hk0 k (by omega)
    have e1 := hk1 k (by omega)
    simp only [PNp.vitrineref10_sorted.l0] at e0 e1 ⊢
    rw [if_pos hf, e0, Option.bind_some, ← e1]
    by_cases hd : decide (0 ≤ at1 l f) = true
    · rw [if_pos hd, if_pos hd, if_pos (by omega)]
    · rw [if_neg hd, if_neg hd]
  unfold PNp.vitrineref10_sorted.f
  refine st 0 _ _ (by omega) (by omega) (by simp) ?_
  refine st 1 _ _ (by omega) (by omega) (by split <;> simp) ?_
  refine st 2 _ _ (by omega) (by omega) (by split <;> split <;> simp) ?_
  refine st 3 _ _ (by omega) (by omega) (by split <;> split <;> split <;> simp) ?_
  refine st 4 _ _ (by omega) (by omega) (by split <;> split <;> split <;> split <;> simp) ?_
  refine Ev.of fun k => ?_
  simp only [PNp.vitrineref10_sorted.l0]
  rw [if_neg (by decide)]
  unfold sortedL
  simp only [List.filter_cons, List.filter_nil]
  split <;> split <;> split <;> split <;> split <;> simp
theorem in_q (k : Nat) (w : World) (A : Option Addr) (n c : Nat) (l : List Int) (cv : Int) (b : Bool) (hr : Kd.C (Kd.int .u8) w A n l) (hc : n ≤ c) (h : PNp.vitrineref10_in.f k l cv = some b) :
    Calls Try.prog 80 #[.slice A n c, .int .u8 cv] w fun e w' => e = .returned (.bool b) ∧ ∃ m, w' = w.drewN m := by
  obtain rfl : l.length = n := hr.1
  exact (PNp.vitrineref10_in.calls k A c l cv b w hr hc h).mono fun _ _ ⟨he, ⟨hw⟩⟩ => ⟨he, hw⟩
theorem refsorted_any (k : Nat) (w : World) (A : Option Addr) (n c : Nat) (l r : List Int) (hr : Kd.C (Kd.int .u8) w A n l) (hc : n ≤ c) (h : PNp.vitrineref10_sorted.f k l = some r) :
    Calls Try.prog 63 #[.slice A n c] w fun e w' => ∃ v, e = .returned v ∧ OwnB w' w.heap.size v r ∧ Below w.heap.size w w' := by
  obtain rfl : l.length = n := hr.1
  exact PNp.vitrineref10_sorted.calls k A c l r w hr hc h
theorem refName_q (k : Nat) (w : World) (s : ByteArray) (b : Bool) (h : vitrineref10_Name.f k s = some b) :
    Calls Try.prog 34 #[.string s] w fun e w' => e = .returned (.bool b) ∧ ∃ m, w' = w.drewN m :=
  (vitrineref10_Name.calls k s b w h).mono fun _ _ ⟨he, ⟨hw⟩⟩ => ⟨he, hw⟩
theorem gotS_hit {l : List Int} {k : Nat} (h : at1 l 1 = k) : gotS l = Go.strOfNums (l.drop (k + 1)) := by
  unfold gotS; rw [if_pos (by omega), h]; rfl
theorem gotB_hit {l : List Int} {k : Nat} (h : at1 l 1 = k) : gotB l = (nameB (Go.strOfNums (l.take k)) && nameB (Go.strOfNums (l.drop (k + 1)))) := by
  unfold gotB; rw [decide_eq_true (by omega), h]; rfl
theorem names_any (w : World) (A : Option Addr) (n : Nat) (l : List Int) (c : Nat) (hr : Kd.C (Kd.int .u8) w A n l) (hc : n ≤ c) (hl : n ≤ 140737488355328) (hrng : ∀ x ∈ l, 0 ≤ x ∧ x < 256) :
    Calls Try.prog 61 #[.slice A n c] w fun e w' => e = .returned (.tuple #[.string (gotS l), .bool (gotB l)]) ∧ ∃ m, w' = w.drewN m := by
  obtain rfl : l.length = n := hr.1
  have HR := Aside0.mk hr
  have HH := Aside0.mk (And.intro hc hl)
  have HG := Aside0.mk hrng
  have hm : l.length ≤ 9223372036854775807 := by omega
  clear hr hc hl hrng
  go_enter Try.func61, Try.ntmps61
  go_wp2
  go_loop [8] (fun i => ∃ k : Nat, k ≤ l.length ∧ i = .int .i64 k ∧ Aside0 (∀ j : Nat, j < k → rd l j ≠ 1)) (fun i => l.length - (intOf i).toNat)
  case atStart => exact ⟨0, Nat.zero_le _, rfl, ⟨fun j hj => absurd hj (by omega)⟩⟩
  case round =>
    obtain ⟨k, hk, rfl, HA⟩ := hrel
    by_cases hlt : k < l.length
    · obtain ⟨ad, e, hx⟩ := Kd.at_int HR.out (k : Int) (Int.natCast_nonneg k) (Int.ofNat_lt.2 hlt)
      simp only [Int.toNat_natCast] at hx
      subst e
      have hk0 : (0 : Int) ≤ (k : Int) := Int.natCast_nonneg k
      have hk1 : (k : Int) < (l.length : Int) := Int.ofNat_lt.2 hlt
      by_cases hf : rd l k = 1
      · have hat := at1_hit (by decide) (by decide) HG.out hlt HA.out hf
        have HS := Aside0.mk (gotS_hit hat)
        have HB := Aside0.mk (gotB_hit hat)
        rw [hf] at hx
        have hw : wrap64 ((k : Int) + 1) = ((k + 1 : Nat) : Int) := by rw [w64 (by omega) (by have := HH.out.2; omega)]; rfl
        have hcut1 := slice_take (some ad) l.length c k hk HH.out.1
        have hcut2 := slice_drop (some ad) l.length c (k + 1) (by omega)
        have hcut3 : ∀ W, (Instr.slice 49 (.slice (some ad) l.length c) (some (.int .i64 ((k : Int) + 1))) none none).run Try.prog W = .ok (.slice (if c = k + 1 then some ad else (some ad).map (·.add (k + 1))) (l.length - (k + 1)) (c - (k + 1))) W := fun W => by have := hcut2 W; rwa [show ((k + 1 : Nat) : Int) = (k : Int) + 1 from rfl] at this
        have HT := Aside0.mk (C_take HR.out k hk)
        have HD := Aside0.mk (C_drop HR.out (k + 1) c (by omega) HH.out.1)
        generalize (if c = k + 1 then some ad else (some ad).map (·.add (k + 1))) = A2 at *
        have hn1 := refName_f (Go.strOfNums (l.take k)) (by simp [Go.strOfNums, ByteArray.size]; have := HH.out.2; omega)
        have hn2 := refName_f (Go.strOfNums (l.drop (k + 1))) (by simp [Go.strOfNums, ByteArray.size]; have := HH.out.2; omega)
        have hcv1 : ∀ m, (convert 49 9 (.slice (some ad) k c)).run Try.prog (w.drewN m) = .ok (.string (Go.strOfNums (l.take k))) (w.drewN m) :=
          fun m => Kd.C_string (P := Try.prog) Try.underlying49 Try.underlying5 Try.underlying9 (Kd.C_drewN HT.out m)
        have hcv2 : ∀ m, (convert 49 9 (.slice A2 (l.length - (k + 1)) (c - (k + 1)))).run Try.prog (w.drewN m) = .ok (.string (Go.strOfNums (l.drop (k + 1)))) (w.drewN m) :=
          fun m => Kd.C_string (P := Try.prog) Try.underlying49 Try.underlying5 Try.underlying9 (Kd.C_drewN HD.out m)
        clear HT HD hat hf hcut2
        generalize Go.strOfNums (l.take k) = s1 at *
        generalize Go.strOfNums (l.drop (k + 1)) = s2 at *
        have HN1 := Aside0.mk hn1
        have HN2 := Aside0.mk hn2
        clear hn1 hn2
        generalize s1.size + 1 = k1 at HN1
        generalize s2.size + 1 = k2 at HN2
        generalize nameB s2 = b2 at *
        generalize hb1 : nameB s1 = b1 at *
        clear hb1
        have hone : ((1 : Int) == 1) = true := by decide
        cases b1
        · go_wp2
          go_quiet ((go_at_call 34; exact quiet0 (refName_q k1 _ s1 _ HN1.out)))
          go_wp2
          go_ret2
          exact ⟨by rw [HS.out, HB.out]; rfl, _, rfl⟩
        · go_wp2
          go_quiet ((go_at_call 34; first | (with_reducible exact quiet0 (refName_q k1 _ s1 _ HN1.out)) | exact quiet0 (refName_q k2 _ s2 _ HN2.out)))
          go_wp2
          go_ret2
          exact ⟨by rw [HS.out, HB.out]; cases b2 <;> rfl, _, rfl⟩
      · have hA2 : Aside0 (∀ j : Nat, j < k + 1 → rd l j ≠ 1) := ⟨fun j hj => by
          rcases Nat.lt_or_ge j k with h | h
          · exact HA.out j h
          · obtain rfl : j = k := by omega
            exact hf⟩
        have hd : (rd l k == 1) = false := beq_eq_false_iff_ne.2 hf
        clear hf HA
        go_wp2
        go_round
        case rel => exact ⟨k + 1, hlt, by go_num, hA2⟩
        case measure => simp [intOf]; omega
    · have hmi := at1_miss (by decide) (by decide) HG.out (fun j hj => HA.out j (by omega)) (cv := 1)
      have hS : gotS l = ⟨#[]⟩ := by unfold gotS; rw [if_neg (by omega)]
      have hB : gotB l = false := by unfold gotB; rw [decide_eq_false (by omega)]; rfl
      have HS := Aside0.mk hS
      have HB := Aside0.mk hB
      clear hS hB hmi
      go_wp2
      go_ret2
      exact ⟨by rw [HS.out, HB.out]; rfl, 0, rfl⟩
/-! ### Flip -/
theorem flip_own (w : World) (base : Nat) (v : Value) (l : List Int) (ho : OwnB w base v l) (hb : base ≤ w.heap.size) :
    Calls Try.prog 40 #[v] w fun e w' => e = .returned (.tuple #[]) ∧ Fr (fun k => v.ownBlock = some k) w w' := by
  obtain ⟨A, c, rfl⟩ := ho.slice
  have HO := Aside0.mk ho
  have hm : l.length ≤ 9223372036854775807 := by
    rcases (own_nums ho).2 with ⟨h1, h2⟩ | ⟨g, cap, cur, h1, _, _, h4, h5, _⟩
    · omega
    · have : maxLen ≤ 9223372036854775807 := by simp [maxLen]
      injection h1 with _ _ h3
      omega
  clear ho
  generalize hn : l.length = n at *
  have HN := Aside0.mk hn
  clear hn
  go_enter Try.func40, Try.ntmps40
  go_wp2
  go_loopw [5] (fun i wr => ∃ k : Nat, k ≤ n ∧ i = .int .i64 k ∧ Aside0 (Fr (fun k => (Value.slice A n c).ownBlock = some k) w wr) ∧ Aside0 (∃ l1 : List Int, l1.length = n ∧ OwnB wr base (.slice A n c) l1)) (fun i _ => n - (intOf i).toNat)
  case atStart => exact ⟨0, Nat.zero_le _, rfl, ⟨Fr.refl _ _⟩, ⟨l, HN.out, HO.out⟩⟩
  case round =>
    obtain ⟨k, hk, rfl, HF, H1⟩ := hrel
    by_cases hlt : k < n
    · obtain ⟨l1, hl1, ho1⟩ := H1.out
      clear H1
      have p0 : (0 : Int) ≤ (k : Int) := Int.natCast_nonneg k
      have q0 : (k : Int) < (l1.length : Int) := by rw [hl1]; exact Int.ofNat_lt.2 hlt
      have hk1 : (k : Int) < (n : Int) := Int.ofNat_lt.2 hlt
      obtain ⟨g, cap, e1, _, _, _⟩ := Kd.R_form ho1 (by omega)
      injection e1 with e2 e3 e4
      subst e2 e4
      clear e3
      obtain ⟨hx, hfz⟩ := Kd.R_celln (0 : Int) ho1 (k : Int) p0 hk1
      simp only [Int.toNat_natCast] at hx hfz
      have HP := Aside0.mk (fun x : Int => Kd.R_putn ho1 (k : Int) x)
      have HLL := Aside0.mk hl1
      clear ho1 hl1 q0
      go_wp2
      go_roundw
      case rel => exact ⟨k + 1, hlt, by go_num, ⟨HF.out.setCell (p := ⟨g, k, none⟩) (.inl rfl) _⟩, ⟨l1.set k (Go.bits .xor .u8 (rdOf 0 l1 (k : Int)) 255), by rw [List.length_set]; exact HLL.out, by have := HP.out (Go.bits .xor .u8 (rdOf 0 l1 (k : Int)) 255); simp only [Int.toNat_natCast] at this; exact this⟩⟩
      case measure => simp [intOf]; omega
    · go_wp2
      go_end0
      exact ⟨rfl, HF.out⟩
/-! ### the reference's end -/
/-- The document's end at block h. -/
def RefB (w : World) (h : Nat) (ty dev : ByteArray) (fs : Value) (st : Int) (d : ByteArray) (ag : Value) : Prop :=
  w.heap[h]? = some (.cells #[.string ty, .string dev, fs, .int .i64 st, .string d, ag] 78 (0, 0))
def onceTo (l : List Int) (k : Nat) : Bool := (List.range' 0 k).all fun j => decide (at1 (l.take j) (rd l j) < 0)
theorem onceTo_succ (l : List Int) (k : Nat) : onceTo l (k + 1) = (onceTo l k && !decide (0 ≤ at1 (l.take k) (rd l k))) := by
  unfold onceTo
  rw [List.range'_concat, List.all_append]
  have e : decide (at1 (l.take k) (rd l k) < 0) = !decide (0 ≤ at1 (l.take k) (rd l k)) := by
    by_cases h : at1 (l.take k) (rd l k) < 0
    · rw [decide_eq_true h, decide_eq_false (by omega)]; rfl
    · rw [decide_eq_false h, decide_eq_true (by omega)]; rfl
  rw [← e]
  simp
theorem allIn_succ (lf l : List Int) (k : Nat) (hk : k < l.length) : allIn lf (l.take (k + 1)) = (allIn lf (l.take k) && decide (0 ≤ at1 lf (rd l k))) := by
  unfold allIn
  rw [List.take_succ_eq_append_getElem hk, List.all_append, rd_get l k hk]
  simp
set_option maxHeartbeats 2000000 in
theorem common_any (w : World) (h : Nat) (ty dev : ByteArray) (F : Option Addr) (nf cf : Nat) (fl : List Int) (st : Int) (d : ByteArray) (ag : Value) (hE : RefB w h ty dev (.slice F nf cf) st d ag) (hF : Kd.C (Kd.int .u8) w F nf fl) (hcf : nf ≤ cf) (hnf : nf ≤ 1000000) (hrf : ∀ x ∈ fl, 0 ≤ x ∧ x < 256)
    (B : Option Addr) (m cm : Nat) (l : List Int) (hl : Kd.C (Kd.int .u8) w B m l) (hmc : m ≤ cm) (hm : m ≤ 1000000) (hrl : ∀ x ∈ l, 0 ≤ x ∧ x < 256) :
    Calls Try.prog 62 #[.pointer (some ⟨h, 0, none⟩), .slice B m cm] w fun e w' => ∃ v, e = .returned (.tuple #[v, .bool (allIn fl l), .bool (onceB l)]) ∧ OwnB w' w.heap.size v (commonL fl l) ∧ Below w.heap.size w w' := by
  obtain rfl : l.length = m := hl.1
  have HIN := Aside0.mk (fun (k : Nat) (hk : k < l.length) => (in_f (l.take k) (rd l k) (hrl _ (by rw [rd_get l k hk]; exact List.getElem_mem hk)).1 (hrl _ (by rw [rd_get l k hk]; exact List.getElem_mem hk)).2 (fun x hx => hrl x (List.mem_of_mem_take hx)) (by have := List.length_take_le k l; omega)).some)
  have HIF := Aside0.mk (fun (k : Nat) (hk : k < l.length) => (in_f fl (rd l k) (hrl _ (by rw [rd_get l k hk]; exact List.getElem_mem hk)).1 (hrl _ (by rw [rd_get l k hk]; exact List.getElem_mem hk)).2 hrf (by have := hF.1; omega)).some)
  have HE := Aside0.mk hE
  have HF := Aside0.mk (And.intro hF (And.intro hcf hnf))
  have HL := Aside0.mk (And.intro hl hmc)
  have hm2 : l.length ≤ 9223372036854775807 := by omega
  clear hE hF hcf hnf hrf hl hmc hrl
  go_enter Try.func62, Try.ntmps62
  go_wp2
  go_loopw [7, 8, 9, 14] (fun cv av ov i wr => ∃ k : Nat, k ≤ l.length ∧ i = .int .i64 k ∧ av = .bool (allIn fl (l.take k)) ∧ ov = .bool (onceTo l k) ∧ Aside0 (OwnB wr w.heap.size cv (commonL fl (l.take k))) ∧ Aside0 (Below w.heap.size w wr)) (fun _ _ _ i _ => l.length - (intOf i).toNat)
  case atStart => exact ⟨0, Nat.zero_le _, rfl, by simp [allIn], rfl, ⟨by (have h1 : OwnB w w.heap.size (.slice none 0 0) [] := Kd.R_nil _ _ _ _ _); exact h1⟩, ⟨Below.refl _ _⟩⟩
  case round =>
    obtain ⟨k, hk, rfl, rfl, rfl, HC, HB⟩ := hrel
    by_cases hlt : k < l.length
    · obtain ⟨ad, e, hx⟩ := cell0 (Kd.C_below HL.out.1 HB.out) k hlt
      have hk0 : (0 : Int) ≤ (k : Int) := Int.natCast_nonneg k
      have hk1 : (k : Int) < (l.length : Int) := Int.ofNat_lt.2 hlt
      have hcut := slice_take B l.length cm k hk HL.out.2
      have HT := Aside0.mk (And.intro (C_take (Kd.C_below HL.out.1 HB.out) k hk) (show k ≤ cm from Nat.le_trans hk HL.out.2))
      obtain ⟨k1, hq1⟩ := HIN.out k hlt
      obtain ⟨k2, hq2⟩ := HIF.out k hlt
      have hA2 := allIn_succ fl l k hlt
      have hO2 := onceTo_succ l k
      have hC2 := commonL_succ fl l k hlt
      have hc2 : wr.cell? ⟨h, 2, none⟩ = some (.slice F nf cf) := (blk_cell (blk_below HE.out HB.out) 2).trans rfl
      have HFB := Aside0.mk (And.intro (Kd.C_below HF.out.1 HB.out) HF.out.2.1)
      have HLEN := Aside0.mk (show (commonL fl (l.take k)).length ≤ 1000000 by have := commonL_len fl (l.take k); have := List.length_take_le k l; omega)
      subst e
      generalize decide (0 ≤ at1 (l.take k) (rd l k)) = dup at *
      generalize decide (0 ≤ at1 fl (rd l k)) = fin at *
      generalize allIn fl (l.take k) = ak at *
      generalize onceTo l k = ok at *
      generalize commonL fl (l.take k) = cl at *
      generalize l.take k = lt at *
      generalize rd l k = x at *
      have HK1 := Aside0.mk hq1
      have HK2 := Aside0.mk hq2
      have HA2 := Aside0.mk hA2
      have HO2 := Aside0.mk hO2
      have HC2 := Aside0.mk hC2
      clear hq1 hq2 hA2 hO2 hC2
      cases ok
      · clear HK1
        cases fin
        · skip
          go_wp2_with (first | (go_at_call 80; go_must (refine (in_q k2 _ F nf cf fl x _ ?zc ?zd HK2.out).mono ?_; (case zc => first | exact Kd.C_drewN HFB.out.1 _ | exact HFB.out.1); (case zd => exact HFB.out.2); rintro e w5 ⟨rfl, q5, rfl⟩)))
          go_roundw
          case rel => exact ⟨k + 1, hlt, by go_num, by rw [HA2.out]; first | rfl | simp, by rw [HO2.out]; first | rfl | simp, ⟨by rw [HC2.out]; (first | rw [if_neg (by simp), List.append_nil] | simp only [if_false, List.append_nil]); exact HC.out.below (pw_below_drewN (Below.refl _ _) _)⟩, ⟨pw_below_drewN HB.out _⟩⟩
          case measure => simp [intOf]; omega
        · skip
          go_wp2_with (first | (go_at_call 80; go_must (refine (in_q k2 _ F nf cf fl x _ ?zc ?zd HK2.out).mono ?_; (case zc => first | exact Kd.C_drewN HFB.out.1 _ | exact HFB.out.1); (case zd => exact HFB.out.2); rintro e w5 ⟨rfl, q5, rfl⟩)) | (at_builtin; go_must (refine appL w.heap.size rfl (.tmp 35) (.tmp 37) rfl _ cl [x] (some ⟨wr.heap.size, 0, none⟩) 1 1 rfl rfl ?zo (lit_C _ [x] (by simp)) ?zb2 ?z4 ?_; (case zo => first | exact (HC.out.below (pw_below_drewN (Below.refl _ _) _)).below (below_alloc (Below.refl _ _) _)); (case zb2 => exact Nat.le_trans HB.out.size (by simp)); (case z4 => (have h1 := HLEN.out; omega)); intro v6 w6 ho6 hg6; have HO6 := Aside0.mk ho6; have HB6 := Aside0.mk (((pw_below_drewN HB.out _).alloc (Nat.le_trans HB.out.size (by simp)) _).grown hg6 (Nat.le_trans HB.out.size (by simp)) (own_ge HC.out)); clear ho6 hg6)))
          go_roundw
          case rel => exact ⟨k + 1, hlt, by go_num, by rw [HA2.out]; first | rfl | simp, by rw [HO2.out]; first | rfl | simp, ⟨by rw [HC2.out]; rw [if_pos (by trivial)]; exact HO6.out⟩, HB6⟩
          case measure => simp [intOf]; omega
      · cases fin
        · skip
          go_wp2_with (first | (go_at_call 80; have tk := HK1; go_must (clear tk; refine (in_q k1 _ _ k cm _ x _ ?zc ?zd HK1.out).mono ?_; (case zc => first | exact HT.out.1 | exact Kd.C_drewN HT.out.1 _); (case zd => exact HT.out.2); rintro e w4 ⟨rfl, q4, rfl⟩; clear HK1)) | (go_at_call 80; go_must (refine (in_q k2 _ F nf cf fl x _ ?zc ?zd HK2.out).mono ?_; (case zc => first | exact Kd.C_drewN HFB.out.1 _ | exact HFB.out.1); (case zd => exact HFB.out.2); rintro e w5 ⟨rfl, q5, rfl⟩)))
          go_roundw
          case rel => exact ⟨k + 1, hlt, by go_num, by rw [HA2.out]; first | rfl | simp, by rw [HO2.out]; first | rfl | simp, ⟨by rw [HC2.out]; (first | rw [if_neg (by simp), List.append_nil] | simp only [if_false, List.append_nil]); exact HC.out.below (pw_below_drewN (Below.refl _ _) _)⟩, ⟨pw_below_drewN HB.out _⟩⟩
          case measure => simp [intOf]; omega
        · skip
          go_wp2_with (first | (go_at_call 80; have tk := HK1; go_must (clear tk; refine (in_q k1 _ _ k cm _ x _ ?zc ?zd HK1.out).mono ?_; (case zc => first | exact HT.out.1 | exact Kd.C_drewN HT.out.1 _); (case zd => exact HT.out.2); rintro e w4 ⟨rfl, q4, rfl⟩; clear HK1)) | (go_at_call 80; go_must (refine (in_q k2 _ F nf cf fl x _ ?zc ?zd HK2.out).mono ?_; (case zc => first | exact Kd.C_drewN HFB.out.1 _ | exact HFB.out.1); (case zd => exact HFB.out.2); rintro e w5 ⟨rfl, q5, rfl⟩)) | (at_builtin; go_must (refine appL w.heap.size rfl (.tmp 35) (.tmp 37) rfl _ cl [x] (some ⟨wr.heap.size, 0, none⟩) 1 1 rfl rfl ?zo (lit_C _ [x] (by simp)) ?zb2 ?z4 ?_; (case zo => first | exact (HC.out.below (pw_below_drewN (Below.refl _ _) _)).below (below_alloc (Below.refl _ _) _)); (case zb2 => exact Nat.le_trans HB.out.size (by simp)); (case z4 => (have h1 := HLEN.out; omega)); intro v6 w6 ho6 hg6; have HO6 := Aside0.mk ho6; have HB6 := Aside0.mk (((pw_below_drewN HB.out _).alloc (Nat.le_trans HB.out.size (by simp)) _).grown hg6 (Nat.le_trans HB.out.size (by simp)) (own_ge HC.out)); clear ho6 hg6)))
          go_roundw
          case rel => exact ⟨k + 1, hlt, by go_num, by rw [HA2.out]; first | rfl | simp, by rw [HO2.out]; first | rfl | simp, ⟨by rw [HC2.out]; rw [if_pos (by trivial)]; exact HO6.out⟩, HB6⟩
          case measure => simp [intOf]; omega
    · obtain rfl : k = l.length := by omega
      have HC3 := Aside0.mk (show OwnB wr w.heap.size u7 (commonL fl l) by have h1 := HC.out; rwa [List.take_of_length_le (Nat.le_refl _)] at h1)
      have HA3 := Aside0.mk (show allIn fl (l.take l.length) = allIn fl l by rw [List.take_of_length_le (Nat.le_refl _)])
      clear HC
      obtain ⟨A7, n7, c7, rfl, _, _, _⟩ := OwnB.open HC3.out
      have HO3 := Aside0.mk (show onceTo l l.length = onceB l from rfl)
      go_wp2
      go_ret3
      refine ⟨_, ?_, HC3.out, HB.out⟩
      rw [HA3.out, HO3.out]
      rfl
end Go.Proofs.Ytclpkbgjaiacpaa
