/- What is proved: what Hear answers, of the program and of the reference: the same. Conditions: those that each theorem states. -/
import Derived.Test.YtclpkbgjaiacpaaNegoJ
import Derived.Test.YtclpkbgjaiacpaaPNpx2
import Derived.WalkSpells
import Derived.Deep.DeepMust
import Derived.Deep.RegionHeld3
import Derived.StillTactics
import Derived.Lib.SlBytesConst
namespace Go.Proofs.Ytclpkbgjaiacpaa
open Go.RowKit Go.Proofs.YtclpkbgjaiacpaaW.PrintWords Go.Proofs.YtclpkbgjaiacpaaW.PrintLast Go.Proofs.YtclpkbgjaiacpaaW.PrintMore
open Go.Proofs.Ytclpkbgjaiacpaa.PNegoAgrees Go.Proofs.Ytclpkbgjaiacpaa.PSrt
set_option linter.unusedVariables false
set_option linter.unusedSimpArgs false
/-! ### plain: lists that come once, prefixes -/
theorem once_nodup (l : List Int) (hr : ∀ x ∈ l, 0 ≤ x ∧ x < 256) (h : onceB l = true) : l.Nodup := by
  rw [List.nodup_iff_pairwise_ne, List.pairwise_iff_getElem]
  intro i j hi hj hij e
  unfold onceB at h
  rw [List.all_eq_true] at h
  have h1 := of_decide_eq_true (h j (List.mem_range'_1.2 (by omega)))
  have hm := hr l[j] (List.getElem_mem hj)
  rw [rd_get l j hj] at h1
  have h2 := (at1_mem (l.take j) l[j] hm.1 hm.2 (fun x hx => hr x (List.mem_of_mem_take hx))).2 (by
    rw [← e]
    exact List.mem_take_iff_getElem.2 ⟨i, by omega, rfl⟩)
  omega
theorem allIn_sub (fl l : List Int) (hf : ∀ x ∈ fl, 0 ≤ x ∧ x < 256) (hr : ∀ x ∈ l, 0 ≤ x ∧ x < 256) (h : allIn fl l = true) : ∀ x ∈ l, x ∈ fl := by
  intro x hx
  unfold allIn at h
  have := of_decide_eq_true (List.all_eq_true.1 h x hx)
  exact (at1_mem fl x (hr x hx).1 (hr x hx).2 hf).1 this
theorem rises_small (fl : List Int) (h : risesB fl = true) : ∀ x ∈ fl, x ≤ 4 := by
  intro x hx
  obtain ⟨j, hj, rfl⟩ := List.getElem_of_mem hx
  unfold risesB at h
  have := List.all_eq_true.1 h j (List.mem_range'_1.2 (by omega))
  rw [Bool.and_eq_true] at this
  have h2 := of_decide_eq_true this.1
  rwa [rd_get fl j hj] at h2
theorem sorted_eq (l r : List Int) (hn : l.Nodup) (hr : ∀ x ∈ l, 0 ≤ x ∧ x ≤ 4) (hp : r.Perm l) (hs : SortedTo r l.length) : r = sortedL l := by
  have h5 : Five (sortedL l) := List.filter_sublist
  have hmem : ∀ a, a ∈ sortedL l ↔ a ∈ l := fun a => by
    have hrl : ∀ x ∈ l, 0 ≤ x ∧ x < 256 := fun x hx => by have := hr x hx; omega
    unfold sortedL
    rw [List.mem_filter]
    constructor
    · rintro ⟨h1, h2⟩
      have h3 : 0 ≤ a ∧ a < 256 := five_mem (List.Sublist.refl _) a h1
      exact (at1_mem l a h3.1 h3.2 hrl).1 (of_decide_eq_true h2)
    · intro h
      have h3 := hr a h
      refine ⟨?_, decide_eq_true ((at1_mem l a h3.1 (by omega) hrl).2 h)⟩
      simp
      omega
  have hp2 : (sortedL l).Perm l := (List.perm_ext_iff_of_nodup (List.Nodup.sublist h5 (by decide)) hn).2 hmem
  exact sorted_same (hp.trans hp2.symm) (by rw [hp2.length_eq]; exact hs) (five_pair h5)
theorem bytes_eq {l m : List Int} (hl : ∀ x ∈ l, 0 ≤ x ∧ x < 256) (hm : ∀ x ∈ m, 0 ≤ x ∧ x < 256) (h : Lib.bytesOf l = Lib.bytesOf m) : l = m := by
  have hlen : l.length = m.length := by have := congrArg List.length h; rwa [Lib.bytesOf_length, Lib.bytesOf_length] at this
  apply List.ext_getElem hlen
  intro i h1 h2
  have h3 := congrArg (fun t => t[i]?) h
  simp only [Lib.bytesOf, List.getElem?_map, List.getElem?_eq_getElem h1, List.getElem?_eq_getElem h2, Option.map_some] at h3
  have a := hl l[i] (List.getElem_mem h1)
  have b := hm m[i] (List.getElem_mem h2)
  exact u8_inj a.1 a.2 b.1 b.2 (Option.some.inj h3)
theorem eqB_iff {l m : List Int} (hl : ∀ x ∈ l, 0 ≤ x ∧ x < 256) (hm : ∀ x ∈ m, 0 ≤ x ∧ x < 256) : eqB l m = true ↔ l = m := by
  unfold eqB
  rw [beq_iff_eq, Lib.strOfNums_toList, Lib.strOfNums_toList]
  exact ⟨bytes_eq hl hm, fun h => by rw [h]⟩
theorem eqB_82 (l : List Int) : ((Go.strOfNums l).toList == [8, 2]) = eqB l [8, 2] := by
  unfold eqB; rw [Lib.strOfNums_toList [8, 2]]; rfl
theorem eqB_1 (l : List Int) : ((Go.strOfNums l).toList == [1]) = eqB l [1] := by
  unfold eqB; rw [Lib.strOfNums_toList [1]]; rfl
theorem eqB_one (l : List Int) (hl : ∀ x ∈ l, 0 ≤ x ∧ x < 256) : eqB l [1] = true ↔ l.length = 1 ∧ rd l 0 = 1 := by
  rw [eqB_iff hl (by decide)]
  constructor
  · rintro rfl; exact ⟨rfl, rfl⟩
  · rintro ⟨h1, h2⟩
    match l, h1, h2 with
    | [x], _, h2 => rw [show x = 1 from h2]
theorem prefix2 (l : List Int) (hl : ∀ x ∈ l, 0 ≤ x ∧ x < 256) (h2 : 2 ≤ l.length) (a b : Int) (ha : 0 ≤ a ∧ a < 256) (hb : 0 ≤ b ∧ b < 256) :
    (((Go.strOfNums l).extract 0 2).toList == [UInt8.ofNat a.toNat, UInt8.ofNat b.toNat]) = decide (rd l 0 = a ∧ rd l 1 = b) := by
  match l, h2 with
  | x :: y :: t, _ =>
    have hx := hl x (by simp)
    have hy := hl y (by simp)
    have e1 : ((Go.strOfNums (x :: y :: t)).extract 0 2).toList = [UInt8.ofNat x.toNat, UInt8.ofNat y.toNat] := by
      rw [ByteArray.toList_eq]
      unfold Go.strOfNums
      simp
    rw [e1, Bool.eq_iff_iff, beq_iff_eq, decide_eq_true_eq]
    show _ ↔ x = a ∧ y = b
    constructor
    · intro h
      injection h with h3 h4
      injection h4 with h5
      exact ⟨u8_inj hx.1 hx.2 ha.1 ha.2 h3, u8_inj hy.1 hy.2 hb.1 hb.2 h5⟩
    · rintro ⟨rfl, rfl⟩; rfl
/-! ### what is answered -/
/-- (the answer, the error, the state, the device, the functions agreed on) -/
abbrev Res := List Int × Int × Int × ByteArray × List Int
def hearS (ty dev : ByteArray) (fl : List Int) (st : Int) (d : ByteArray) (gl : List Int) (op : Int) (l : List Int) : Res :=
  if op = 24 then (if eqB l [1] = true then ([0] ++ bytesOf ty, 0, st, d, gl) else ([], 4, st, d, gl))
  else if op ≠ 40 then ([], 5, st, d, gl)
  else if eqB l [8, 2] = true then (if st = 4 then ([], 6, st, d, gl) else (askedL ty dev, 0, 1, ⟨#[]⟩, []))
  else if l.length < 2 then ([], 4, st, d, gl)
  else if rd l 0 = 2 ∧ rd l 1 = 6 then
    (if l.length = 4 ∧ rd l 2 = 5 then (if st = 1 then ([], 0, 4, d, gl) else ([], 6, st, d, gl)) else ([], 4, st, d, gl))
  else if rd l 0 = 2 ∧ rd l 1 = 4 then
    (if gotB (l.drop 2) = true then (if st = 1 then ([3, 7] ++ fl, 0, 2, gotS (l.drop 2), []) else ([], 6, st, d, gl)) else ([], 4, st, d, gl))
  else if rd l 0 = 3 ∧ rd l 1 = 4 then
    (if onceB (l.drop 2) = true then (if st = 2 then (if allIn fl (l.drop 2) = true then ([], 0, 3, d, sortedL (l.drop 2)) else ([], 0, 4, d, gl)) else ([], 6, st, d, gl)) else ([], 4, st, d, gl))
  else if rd l 0 = 3 ∧ rd l 1 = 7 then
    (if onceB (l.drop 2) = true then (if st = 2 ∨ st = 3 then (if allIn fl (l.drop 2) = true then ([3, 4] ++ l.drop 2, 0, 3, d, sortedL (l.drop 2)) else ([3, 7] ++ commonL fl (l.drop 2), 0, 2, d, [])) else ([], 6, st, d, gl)) else ([], 4, st, d, gl))
  else ([], 4, st, d, gl)
/-- A call answered so: the end E reads as the result says, of what was there the blocks of S alone changed. -/
def Said (E : World → Int → ByteArray → Value → Prop) (S : Nat → Prop) (w : World) (G : Option Addr) (ng cg : Nat) (st : Int) (gl : List Int) (r : Res) (e : Ending) (w' : World) : Prop :=
  ∃ v G' ng' cg', e = .returned (.tuple #[v, .int .i64 r.2.1]) ∧ OwnB w' w.heap.size v r.1 ∧ E w' r.2.2.1 r.2.2.2.1 (.slice G' ng' cg') ∧ Fr S w w' ∧
    (r.2.2.1 = 3 → (G' = G ∧ ng' = ng ∧ cg' = cg ∧ st = 3 ∧ r.2.2.2.2 = gl) ∨ (Kd.C (Kd.int .u8) w' G' ng' r.2.2.2.2 ∧ ng' ≤ cg' ∧ ∀ ad, G' = some ad → 0 < ng' → w.heap.size ≤ ad.block ∧ v.ownBlock ≠ some ad.block))
section
variable {E : World → Int → ByteArray → Value → Prop} {S : Nat → Prop} {w w' : World} {G : Option Addr} {ng cg : Nat} {st : Int} {d : ByteArray} {gl : List Int} {e : Ending}
theorem said_same {code : Int} (he : e = .returned (.tuple #[.slice none 0 0, .int .i64 code])) (hE : E w' st d (.slice G ng cg)) (hf : Fr S w w') : Said E S w G ng cg st gl ([], code, st, d, gl) e w' :=
  ⟨_, G, ng, cg, he, Kd.R_nil _ _ _ _ _, hE, hf, fun h => .inl ⟨rfl, rfl, rfl, h, rfl⟩⟩
theorem said_kept {v : Value} {a : List Int} {code : Int} (he : e = .returned (.tuple #[v, .int .i64 code])) (ho : OwnB w' w.heap.size v a) (hE : E w' st d (.slice G ng cg)) (hf : Fr S w w') : Said E S w G ng cg st gl (a, code, st, d, gl) e w' :=
  ⟨_, G, ng, cg, he, ho, hE, hf, fun h => .inl ⟨rfl, rfl, rfl, h, rfl⟩⟩
theorem said_off {v : Value} {a : List Int} {code st' : Int} {d' : ByteArray} {gl' : List Int} {G' : Option Addr} {ng' cg' : Nat} (he : e = .returned (.tuple #[v, .int .i64 code])) (ho : OwnB w' w.heap.size v a) (hE : E w' st' d' (.slice G' ng' cg')) (hf : Fr S w w') (h3 : st' ≠ 3) : Said E S w G ng cg st gl (a, code, st', d', gl') e w' :=
  ⟨_, G', ng', cg', he, ho, hE, hf, fun h => absurd h h3⟩
theorem said_own {v u : Value} {a r : List Int} {code st' : Int} {d' : ByteArray} (he : e = .returned (.tuple #[v, .int .i64 code])) (ho : OwnB w' w.heap.size v a) (hu : OwnB w' w.heap.size u r) (hE : E w' st' d' u) (hf : Fr S w w') (hv : ∀ k, v.ownBlock = some k → u.ownBlock ≠ some k) : Said E S w G ng cg st gl (a, code, st', d', r) e w' := by
  obtain ⟨A, n, c, rfl, hc, hC, _⟩ := OwnB.open hu
  refine ⟨_, A, n, c, he, ho, hE, hf, fun _ => .inr ⟨hC, hc, ?_⟩⟩
  rintro ad rfl hn
  exact ⟨own_ge hu ad.block rfl, fun h => hv _ h rfl⟩
end
theorem strSlice (s : ByteArray) (h : 2 ≤ s.size) (W : World) : (Instr.slice 9 (.string s) none (some (.int .i64 2)) none).run Try.prog W = .ok (.string (s.extract 0 2)) W := by
  rw [run_slice_string_to_if W 9 s .i64 2 Try.underlying9, if_pos (by omega)]
  rfl
theorem fr_of {S : Nat → Prop} {w w' : World} (h : w = w') : Fr S w w' := by subst h; exact Fr.refl _ _
theorem onlyOff {g : Nat} {w w' : World} (hb : Below w.heap.size w w') : Fr (only g) w w' := Fr.of_below hb
theorem nilB {w : World} {base : Nat} : OwnB w base (.slice none 0 0) [] := Kd.R_nil _ _ _ _ _
theorem hearB (w : World) (h : Nat) (ty dev : ByteArray) (F : Option Addr) (nf cf : Nat) (fl : List Int) (st : Int) (d : ByteArray) (G : Option Addr) (ng cg : Nat) (gl : List Int) (hE : RefB w h ty dev (.slice F nf cf) st d (.slice G ng cg))
    (hF : Kd.C (Kd.int .u8) w F nf fl) (hcf : nf ≤ cf) (hnf : nf ≤ 1000000) (hrf : ∀ x ∈ fl, 0 ≤ x ∧ x < 256) (hty : ty.size ≤ 1000) (hdv : dev.size ≤ 1000)
    (op : Int) (A : Option Addr) (n c : Nat) (l : List Int) (hr : Kd.C (Kd.int .u8) w A n l) (hnc : n ≤ c) (hm : n ≤ 1000000) (hrng : ∀ x ∈ l, 0 ≤ x ∧ x < 256) :
    Calls Try.prog 42 #[.pointer (some ⟨h, 0, none⟩), .int .u8 op, .slice A n c] w (Said (fun W st d ag => RefB W h ty dev (.slice F nf cf) st d ag) (only h) w G ng cg st gl (hearS ty dev fl st d gl op l)) := by
  have hlen : l.length = n := hr.1
  have e82 := eqB_82 l
  have e1 := eqB_1 l
  unfold hearS
  by_cases h24 : op = 24
  · subst h24
    rw [if_pos rfl]
    by_cases hb : eqB l [1] = true
    · rw [if_pos hb]
      exact (rh_type w h A n c l _ rfl hr ty dev F nf cf fl st d G ng cg hE hty (e1.trans hb)).mono fun e w' ⟨v, he, ho, hb⟩ => said_kept he ho (blk_below hE hb) (onlyOff hb)
    · rw [if_neg hb]
      exact (rh_form1 w h A n c l _ rfl hr (e1.trans (by simpa using hb))).mono fun e w' ⟨he, hw⟩ => said_same he (hw ▸ hE) (fr_of hw)
  · rw [if_neg h24]
    by_cases h40 : op = 40
    · subst h40
      rw [if_neg (by simp)]
      by_cases hb : eqB l [8, 2] = true
      · rw [if_pos hb]
        by_cases h4 : st = 4
        · rw [if_pos h4]
          exact (rh_ask4 w h A n c l _ rfl hr ty dev F nf cf fl st d G ng cg hE (e82.trans hb) h4).mono fun e w' ⟨he, hw⟩ => said_same he (hw ▸ hE) (fr_of hw)
        · rw [if_neg h4]
          have h4b : (st == 4) = false := beq_eq_false_iff_ne.2 h4
          have hde : (dev.toList == []) = dev.toList.isEmpty := by cases dev.toList <;> rfl
          cases hd : dev.toList.isEmpty with
          | true =>
            refine (rh_asks_bare w h A n c l _ rfl hr ty dev F nf cf fl st d G ng cg hE hty hdv (e82.trans hb) h4b (hde.trans hd)).mono fun e w' ⟨v, he, ho, hR, hf⟩ => said_off he ?_ hR hf (by decide)
            unfold askedL
            rw [hd, if_pos rfl, List.append_nil]
            exact ho
          | false =>
            refine (rh_asks_dev w h A n c l _ rfl hr ty dev F nf cf fl st d G ng cg hE hty hdv (e82.trans hb) h4b (hde.trans hd)).mono fun e w' ⟨v, he, ho, hR, hf⟩ => said_off he ?_ hR hf (by decide)
            unfold askedL
            rw [hd, if_neg (by simp)]
            simpa using ho
      · rw [if_neg hb]
        have hb' : ((Go.strOfNums l).toList == [8, 2]) = false := e82.trans (by simpa using hb)
        by_cases hn : l.length < 2
        · rw [if_pos hn]
          exact (rh_short w h A n c l _ rfl hr hb' (decide_eq_true (by omega))).mono fun e w' ⟨he, hw⟩ => said_same he (hw ▸ hE) (fr_of hw)
        · rw [if_neg hn]
          have hn2 : 2 ≤ n := by omega
          have hsl := fun W => strSlice (Go.strOfNums l) (by have h9 : (Go.strOfNums l).size = l.length := (by simp [Go.strOfNums, ByteArray.size]); omega) W
          have p26 := prefix2 l hrng (by omega) 2 6 (by decide) (by decide)
          have p24 := prefix2 l hrng (by omega) 2 4 (by decide) (by decide)
          have p34 := prefix2 l hrng (by omega) 3 4 (by decide) (by decide)
          have p37 := prefix2 l hrng (by omega) 3 7 (by decide) (by decide)
          by_cases c26 : rd l 0 = 2 ∧ rd l 1 = 6
          · rw [if_pos c26]
            have q26 := p26.trans (decide_eq_true c26)
            by_cases h45 : l.length = 4 ∧ rd l 2 = 5
            · rw [if_pos h45]
              by_cases h1 : st = 1
              · rw [if_pos h1]
                exact (rh_26 w h A n c l _ rfl hr ty dev F nf cf fl st d G ng cg hE _ hsl hb' hn2 hnc q26 (by omega) h45.2 h1).mono fun e w' ⟨he, hR, hf⟩ => said_off he nilB hR hf (by decide)
              · rw [if_neg h1]
                exact (rh_26state w h A n c l _ rfl hr ty dev F nf cf fl st d G ng cg hE _ hsl hb' hn2 hnc q26 (by omega) h45.2 (beq_eq_false_iff_ne.2 h1)).mono fun e w' ⟨he, hw⟩ => said_same he (hw ▸ hE) (fr_of hw)
            · rw [if_neg h45]
              by_cases hn4 : n = 4
              · exact (rh_26form w h A n c l _ rfl hr _ hsl hb' hn2 hnc q26 hn4 (beq_eq_false_iff_ne.2 (fun h5 => h45 ⟨by omega, h5⟩))).mono fun e w' ⟨he, hw⟩ => said_same he (hw ▸ hE) (fr_of hw)
              · exact (rh_26len w h A n c l _ rfl hr _ hsl hb' hn2 hnc q26 (bne_iff_ne.2 (by omega))).mono fun e w' ⟨he, hw⟩ => said_same he (hw ▸ hE) (fr_of hw)
          · rw [if_neg c26]
            have q26 := p26.trans (decide_eq_false c26)
            by_cases c24 : rd l 0 = 2 ∧ rd l 1 = 4
            · rw [if_pos c24]
              have q24 := p24.trans (decide_eq_true c24)
              by_cases hg : gotB (l.drop 2) = true
              · rw [if_pos hg]
                by_cases h1 : st = 1
                · rw [if_pos h1]
                  exact (rh_24 w h A n c l _ rfl hr ty dev F nf cf fl st d G ng cg hE _ hsl hb' hn2 hnc q26 q24 hrng hm hF hcf hnf hrf hg h1).mono fun e w' ⟨v, he, ho, hR, hf⟩ => said_off he ho hR hf (by decide)
                · rw [if_neg h1]
                  exact (rh_24state w h A n c l _ rfl hr ty dev F nf cf fl st d G ng cg hE _ hsl hb' hn2 hnc q26 q24 hrng hm hg (bne_iff_ne.2 h1)).mono fun e w' ⟨he, hb⟩ => said_same he (blk_below hE hb) (onlyOff hb)
              · rw [if_neg hg]
                exact (rh_24form w h A n c l _ rfl hr _ hsl hb' hn2 hnc q26 q24 hrng hm (by simpa using hg)).mono fun e w' ⟨he, hb⟩ => said_same he (blk_below hE hb) (onlyOff hb)
            · rw [if_neg c24]
              have q24 := p24.trans (decide_eq_false c24)
              by_cases c34 : rd l 0 = 3 ∧ rd l 1 = 4
              · rw [if_pos c34]
                have q34 := p34.trans (decide_eq_true c34)
                by_cases ho : onceB (l.drop 2) = true
                · rw [if_pos ho]
                  by_cases h2 : st = 2
                  · rw [if_pos h2]
                    by_cases ha : allIn fl (l.drop 2) = true
                    · rw [if_pos ha]
                      exact (rh_34 w h A n c l _ rfl hr ty dev F nf cf fl st d G ng cg hE _ hsl hb' hn2 hnc q26 q24 q34 hrng hm hF hcf hnf hrf ho ha h2).mono fun e w' ⟨u, he, hu, hR, hf⟩ => said_own he nilB hu hR hf (fun k hk => by cases hk)
                    · rw [if_neg ha]
                      exact (rh_34not w h A n c l _ rfl hr ty dev F nf cf fl st d G ng cg hE _ hsl hb' hn2 hnc q26 q24 q34 hrng hm hF hcf hnf hrf ho (by simpa using ha) h2).mono fun e w' ⟨he, hR, hf⟩ => said_off he nilB hR hf (by decide)
                  · rw [if_neg h2]
                    exact (rh_34state w h A n c l _ rfl hr ty dev F nf cf fl st d G ng cg hE _ hsl hb' hn2 hnc q26 q24 q34 hrng hm hF hcf hnf hrf ho (bne_iff_ne.2 h2)).mono fun e w' ⟨he, hb⟩ => said_same he (blk_below hE hb) (onlyOff hb)
                · rw [if_neg ho]
                  exact (rh_34form w h A n c l _ rfl hr ty dev F nf cf fl st d G ng cg hE _ hsl hb' hn2 hnc q26 q24 q34 hrng hm hF hcf hnf hrf (by simpa using ho)).mono fun e w' ⟨he, hb⟩ => said_same he (blk_below hE hb) (onlyOff hb)
              · rw [if_neg c34]
                have q34 := p34.trans (decide_eq_false c34)
                by_cases c37 : rd l 0 = 3 ∧ rd l 1 = 7
                · rw [if_pos c37]
                  have q37 := p37.trans (decide_eq_true c37)
                  by_cases ho : onceB (l.drop 2) = true
                  · rw [if_pos ho]
                    by_cases h2 : st = 2 ∨ st = 3
                    · rw [if_pos h2]
                      by_cases ha : allIn fl (l.drop 2) = true
                      · rw [if_pos ha]
                        rcases h2 with h2 | h2
                        · exact (rh_37_2 w h A n c l _ rfl hr ty dev F nf cf fl st d G ng cg hE _ hsl hb' hn2 hnc q26 q24 q34 q37 hrng hm hF hcf hnf hrf ho ha h2).mono fun e w' ⟨u, v, he, hu, hR, hf, hv, hap⟩ => said_own he hv hu hR hf hap
                        · exact (rh_37_3 w h A n c l _ rfl hr ty dev F nf cf fl st d G ng cg hE _ hsl hb' hn2 hnc q26 q24 q34 q37 hrng hm hF hcf hnf hrf ho ha h2).mono fun e w' ⟨u, v, he, hu, hR, hf, hv, hap⟩ => said_own he hv hu hR hf hap
                      · rw [if_neg ha]
                        have ha' : allIn fl (l.drop 2) = false := by simpa using ha
                        rcases h2 with h2 | h2
                        · exact (rh_37not_2 w h A n c l _ rfl hr ty dev F nf cf fl st d G ng cg hE _ hsl hb' hn2 hnc q26 q24 q34 q37 hrng hm hF hcf hnf hrf ho ha' h2).mono fun e w' ⟨v, he, hR, hf, hv⟩ => said_off he hv hR hf (by decide)
                        · exact (rh_37not_3 w h A n c l _ rfl hr ty dev F nf cf fl st d G ng cg hE _ hsl hb' hn2 hnc q26 q24 q34 q37 hrng hm hF hcf hnf hrf ho ha' h2).mono fun e w' ⟨v, he, hR, hf, hv⟩ => said_off he hv hR hf (by decide)
                    · rw [if_neg h2]
                      exact (rh_37state w h A n c l _ rfl hr ty dev F nf cf fl st d G ng cg hE _ hsl hb' hn2 hnc q26 q24 q34 q37 hrng hm hF hcf hnf hrf ho (bne_iff_ne.2 (fun h => h2 (.inl h))) (bne_iff_ne.2 (fun h => h2 (.inr h)))).mono fun e w' ⟨he, hb⟩ => said_same he (blk_below hE hb) (onlyOff hb)
                  · rw [if_neg ho]
                    exact (rh_37form w h A n c l _ rfl hr ty dev F nf cf fl st d G ng cg hE _ hsl hb' hn2 hnc q26 q24 q34 q37 hrng hm hF hcf hnf hrf (by simpa using ho)).mono fun e w' ⟨he, hb⟩ => said_same he (blk_below hE hb) (onlyOff hb)
                · rw [if_neg c37]
                  have q37 := p37.trans (decide_eq_false c37)
                  exact (rh_other w h A n c l _ rfl hr _ hsl hb' hn2 hnc q26 q24 q34 q37).mono fun e w' ⟨he, hw⟩ => said_same he (hw ▸ hE) (fr_of hw)
    · rw [if_pos h40]
      exact (rh_none w h A n c l _ rfl hr op (beq_eq_false_iff_ne.2 h24) (beq_eq_false_iff_ne.2 h40)).mono fun e w' ⟨he, hw⟩ => said_same he (hw ▸ hE) (fr_of hw)
/-! ### heardFunctions where the host asks -/
theorem fun_asks2 (w : World) (g : Nat) (ty dev : ByteArray) (F : Option Addr) (nf cf : Nat) (fl : List Int) (st : Int) (d : ByteArray) (G : Option Addr) (ng cg : Nat) (h : EndB w g ty dev (.slice F nf cf) st d (.slice G ng cg)) (hst : st = 2 ∨ st = 3) (hF : Kd.C (Kd.int .u8) w F nf fl) (hzf : F = none → cf = 0)
    (A : Option Addr) (l : List Int) (n c : Nat)
    (hr : Kd.C (Kd.int .u8) w A n l) (hc : n ≤ c) (hm : n ≤ 140737488355328) (hn : 1 ≤ n) (h4 : rd l 0 = 7) (ho : onceB (l.drop 1) = true) (hown : allIn fl (l.drop 1) = true) (hn13 : n ≤ 13) :
    Calls Try.prog 60 #[.pointer (some ⟨g, 0, none⟩), .slice A n c] w fun e w' => ∃ v r u, e = .returned (.tuple #[u, .int .i64 0]) ∧ OwnB w' w.heap.size v r ∧ r.Perm (l.drop 1) ∧ SortedTo r (n - 1) ∧ EndB w' g ty dev (.slice F nf cf) 3 d v ∧ Fr (only g) w w' ∧ OwnB w' w.heap.size u ([3, 4] ++ l.drop 1) ∧ (∀ k, u.ownBlock = some k → v.ownBlock ≠ some k) := by
  obtain ⟨ad, rfl, x0⟩ := cell00 hr (by omega)
  rw [h4] at x0
  have hlt : g < w.heap.size := blk_lt h
  have hs : ∀ W, (Instr.slice 49 (.slice (some ad) n c) (some (.int .i64 1)) none none).run Try.prog W = .ok (.slice (if c = 1 then some ad else (some ad).map (·.add 1)) (n - 1) (c - 1)) W := fun W => slice_drop (some ad) n c 1 hn W
  have HD := Aside0.mk (C_drop hr 1 c hn hc)
  have hz : (if c = 1 then some ad else (some ad).map (·.add 1)) = none → c - 1 = 0 := by split <;> simp
  have HH := Aside0.mk (And.intro hz (And.intro (show n - 1 ≤ c - 1 by omega) (And.intro (show n - 1 ≤ 140737488355328 by omega) (show n - 1 ≤ 12 by omega))))
  have HO := Aside0.mk (And.intro ho hown)
  have HBK := Aside0.mk h
  have HFF := Aside0.mk (And.intro hF hzf)
  have hc3 : w.cell? ⟨g, 3, none⟩ = some (.int .i64 st) := blk_cell h 3
  have hx0 := World.block_lt_of_cell? w ad x0
  generalize (if c = 1 then some ad else (some ad).map (·.add 1)) = A2 at *
  have HAP := Aside0.mk (show ∀ e, A2 = some e → 0 < n - 1 → ¬ only g e.block from C_apart HD.out h)
  generalize l.drop 1 = dl at *
  have hp : (0 : Int) < (n : Int) := by omega
  have h1' : decide ((n : Int) < 1) = false := decide_eq_false (by omega)
  clear hr hz ho hown h h4 hF hzf hm
  rcases hst with rfl | rfl
  all_goals
    go_enter Try.func60, Try.ntmps60
    go_wp2_with (first | (go_at_call 77; go_must (refine (once_any _ _ _ dl _ HD.out HH.out.2.1 HH.out.2.2.1 HH.out.1).mono ?_; rw [HO.out.1]; rintro e w1 ⟨rfl, rfl⟩)) | (go_at_call 78; go_must (refine (own_any _ g ty dev F nf cf fl _ _ _ HBK.out HFF.out.2 HFF.out.1 _ _ _ dl HD.out HH.out.2.2.1).mono ?_; rw [HO.out.2]; rintro e w2 ⟨rfl, hb2⟩; have hy0 := (pw_cell_below hb2 x0); have HB2 := Aside0.mk hb2; clear hb2)) | (go_at_call 79; go_must (refine (agree_any _ g ty dev _ _ _ _ (blk_below HBK.out HB2.out) _ _ _ dl (Kd.C_below HD.out HB2.out) HH.out.2.2.2).mono ?_; rintro e w3 ⟨v, r, rfl, hov, hp3, hs3, hE, hf⟩; have H3 := Aside0.mk (And.intro hov (And.intro hp3 (And.intro hs3 (And.intro hE hf)))); clear hov hp3 hs3 hE hf)) | ((with_reducible refine gate_dst (N := 80) rfl ?_); go_must (refine litE w3.heap.size rfl (N := 80) rfl [3, 4] ?zr ?zb ?zl ?_; (case zr => first | (go_simp; done) | (go_simp; rfl)); (case zb => simp); (case zl => simp); intro v4 w4 ho4 hb4 hfr4; have HO4 := Aside0.mk ho4; have HB4 := Aside0.mk hb4; have HG4 := Aside0.mk (own_ge ho4); clear ho4 hb4 hfr4)) | (at_builtin; go_must (refine appL w3.heap.size rfl (.tmp 80) (.tmp 81) rfl _ [3, 4] dl A2 (n - 1) (c - 1) rfl rfl HO4.out (Kd.C_below (C_fr (Kd.C_below HD.out HB2.out) H3.out.2.2.2.2 HAP.out) HB4.out) ?zb2 ?z4 ?_; (case zb2 => exact HB4.out.size); (case z4 => have h4 := HH.out.2.2.2; simp only [List.length_cons, List.length_nil]; omega); intro v5 w5 ho5 hg5; have HO5 := Aside0.mk ho5; have HG5 := Aside0.mk hg5; obtain ⟨A5, m5, c5, rfl, _, _, _⟩ := OwnB.open ho5; clear ho5 hg5)))
    go_ret2
    have hb : Below w3.heap.size w3 w5 := (((Fr.of_below (S := nothing) HB4.out).grown HG5.out (fun i hi => .inr (HG4.out i hi)))).to_below (fun _ h => h.elim)
    exact ⟨v, r, _, rfl, (H3.out.1.below hb).lower HB2.out.size, H3.out.2.1, H3.out.2.2.1, blk_below H3.out.2.2.2.1 hb, ((Fr.refl (only g) w).below HB2.out |>.then_ H3.out.2.2.2.2 (fun i hi => .inl hi)).below hb, HO5.out.lower (Nat.le_trans HB2.out.size H3.out.2.2.2.2.size), fun k hk hk2 => by (have h1 := own_ge HO5.out k hk; have h2 := own_lt (own_nums H3.out.1) k hk2; omega)⟩
/-! ### the program's Hear, whole -/
section
variable {E : World → Int → ByteArray → Value → Prop} {S : Nat → Prop} {w W w' : World} {G : Option Addr} {ng cg : Nat} {st : Int} {gl : List Int} {r : Res} {e : Ending}
theorem said_lift (hW : Below w.heap.size w W) (h : Said E S W G ng cg st gl r e w') : Said E S w G ng cg st gl r e w' := by
  obtain ⟨v, G', ng', cg', he, ho, hE, hf, h3⟩ := h
  refine ⟨v, G', ng', cg', he, ho.lower hW.size, hE, (Fr.of_below (S := S) hW).then_ hf (fun i hi => .inl hi), fun h => ?_⟩
  rcases h3 h with h4 | ⟨h4, h5, h6⟩
  · exact .inl h4
  · exact .inr ⟨h4, h5, fun ad ha hn => ⟨Nat.le_trans hW.size (h6 ad ha hn).1, (h6 ad ha hn).2⟩⟩
theorem said_ret (h : Said E S w G ng cg st gl r e w') : ∃ v code, e = .returned (.tuple #[v, .int .i64 code]) ∧ Said E S w G ng cg st gl r (.returned (.tuple #[v, .int .i64 code])) w' := by
  obtain ⟨v, G', ng', cg', he, ho, hE, hf, h3⟩ := h
  exact ⟨v, r.2.1, he, v, G', ng', cg', rfl, ho, hE, hf, h3⟩
end
theorem A_dev {E : World → Int → ByteArray → Value → Prop} {S : Nat → Prop} {G : Option Addr} {ng cg : Nat} {st : Int} {gl : List Int} {r : Res} (w : World) (g : Nat) (A : Option Addr) (l : List Int) (n c : Nat) (hr : Kd.C (Kd.int .u8) w A n l) (hc : n ≤ c) (he : eqB l [8, 2] = false) (hn : 1 ≤ n) (h2 : rd l 0 = 2)
    (hin : ∀ (W : World), Below w.heap.size w W → ∀ A2 : Option Addr, Kd.C (Kd.int .u8) W A2 (n - 1) (l.drop 1) → Calls Try.prog 59 #[.pointer (some ⟨g, 0, none⟩), .slice A2 (n - 1) (c - 1)] W (Said E S W G ng cg st gl r)) :
    Calls Try.prog 28 #[.pointer (some ⟨g, 0, none⟩), .int .u8 40, .slice A n c] w (Said E S w G ng cg st gl r) :=
  (hear_dev w g A l n c hr hc he hn h2 (fun v code w' => Said E S w G ng cg st gl r (.returned (.tuple #[v, .int .i64 code])) w') (fun W hW A2 _ hC2 => (hin W hW A2 hC2).mono fun e w' h => said_ret (said_lift hW h))).mono fun e w' ⟨v, code, he, h⟩ => by rw [he]; exact h
theorem A_fun {E : World → Int → ByteArray → Value → Prop} {S : Nat → Prop} {G : Option Addr} {ng cg : Nat} {st : Int} {gl : List Int} {r : Res} (w : World) (g : Nat) (A : Option Addr) (l : List Int) (n c : Nat) (hr : Kd.C (Kd.int .u8) w A n l) (hc : n ≤ c) (he : eqB l [8, 2] = false) (hn : 1 ≤ n) (h2 : rd l 0 = 3)
    (hin : ∀ (W : World), Below w.heap.size w W → ∀ A2 : Option Addr, Kd.C (Kd.int .u8) W A2 (n - 1) (l.drop 1) → Calls Try.prog 60 #[.pointer (some ⟨g, 0, none⟩), .slice A2 (n - 1) (c - 1)] W (Said E S W G ng cg st gl r)) :
    Calls Try.prog 28 #[.pointer (some ⟨g, 0, none⟩), .int .u8 40, .slice A n c] w (Said E S w G ng cg st gl r) :=
  (hear_fun w g A l n c hr hc he hn h2 (fun v code w' => Said E S w G ng cg st gl r (.returned (.tuple #[v, .int .i64 code])) w') (fun W hW A2 _ hC2 => (hin W hW A2 hC2).mono fun e w' h => said_ret (said_lift hW h))).mono fun e w' ⟨v, code, he, h⟩ => by rw [he]; exact h
set_option maxRecDepth 100000 in
theorem hear_type (w : World) (g : Nat) (ty dev : ByteArray) (fs : Value) (st : Int) (d : ByteArray) (ag : Value) (h : EndB w g ty dev fs st d ag) (ht : ty.size ≤ 1000)
    (A : Option Addr) (l : List Int) (c : Nat) (hr : Kd.C (Kd.int .u8) w A 1 l) (h1 : rd l 0 = 1) :
    Calls Try.prog 28 #[.pointer (some ⟨g, 0, none⟩), .int .u8 24, .slice A 1 c] w fun e w' => ∃ v, e = .returned (.tuple #[v, .int .i64 0]) ∧ OwnB w' w.heap.size v ([0] ++ bytesOf ty) ∧ Below w.heap.size w w' := by
  obtain ⟨ad, rfl, x0⟩ := cell00 hr (by omega)
  rw [h1] at x0
  have HE := Aside0.mk h
  have HT := Aside0.mk ht
  clear hr h ht h1
  go_enter Try.func28, Try.ntmps28
  go_wp2_with (first | ((with_reducible refine gate_dst (N := 23) rfl ?_); go_must (refine litE w.heap.size rfl (N := 23) rfl [0] ?zr ?zb ?zl ?_; (case zr => first | (go_simp; done) | (go_simp; rfl)); (case zb => exact Nat.le_refl _); (case zl => simp); intro v7 w7 ho7 hb7 hfr7; have BK := blk_below HE.out hb7; have y0 := (blk_cell BK 0).trans rfl; have HO7 := Aside0.mk ho7; have HB7 := Aside0.mk hb7; clear ho7 hb7 hfr7 BK)) | (at_builtin; go_must (refine appS w.heap.size rfl (.tmp 23) (.tmp 28) rfl _ [0] ty rfl rfl HO7.out HB7.out.size ?z4 ?_; (case z4 => (have h4 := HT.out; simp only [List.length_cons, List.length_nil]; omega)); intro v8 w8 ho8 hg8; have HB8 := Aside0.mk (grown_below HB7.out hg8 (own_ge HO7.out)); have HO8 := Aside0.mk ho8; obtain ⟨A8, c8, rfl⟩ := HO8.out.slice; clear ho8 hg8)))
  go_ret2
  exact ⟨_, rfl, HO8.out, HB8.out⟩
theorem hear_type4 (w : World) (g : Nat) (A : Option Addr) (l : List Int) (n c : Nat) (hr : Kd.C (Kd.int .u8) w A n l) (h : ¬ (n = 1 ∧ rd l 0 = 1)) :
    Calls Try.prog 28 #[.pointer (some ⟨g, 0, none⟩), .int .u8 24, .slice A n c] w fun e w' => e = .returned (.tuple #[.slice none 0 0, .int .i64 4]) ∧ w = w' := by
  by_cases h1 : n = 1
  · subst h1
    obtain ⟨ad, rfl, x0⟩ := cell00 hr (by omega)
    have hb : (rd l 0 != 1) = true := bne_iff_ne.2 (fun e => h ⟨rfl, e⟩)
    clear hr h
    go_enter Try.func28, Try.ntmps28
    go_wp2
    go_ret2
    exact ⟨rfl, rfl⟩
  · have hb : ((n : Int) != 1) = true := bne_iff_ne.2 (by omega)
    clear hr h h1
    go_enter Try.func28, Try.ntmps28
    go_wp2
    go_ret2
    exact ⟨rfl, rfl⟩
theorem hear_other (w : World) (g : Nat) (op : Int) (h24 : (op == 24) = false) (h40 : (op != 40) = true) (p : Value) :
    Calls Try.prog 28 #[.pointer (some ⟨g, 0, none⟩), .int .u8 op, p] w fun e w' => e = .returned (.tuple #[.slice none 0 0, .int .i64 5]) ∧ w = w' := by
  go_enter Try.func28, Try.ntmps28
  go_wp2
  go_ret2
  exact ⟨rfl, rfl⟩
theorem hearA (w : World) (g : Nat) (ty dev : ByteArray) (F : Option Addr) (nf cf : Nat) (fl : List Int) (st : Int) (d : ByteArray) (G : Option Addr) (ng cg : Nat) (gl : List Int) (hE : EndB w g ty dev (.slice F nf cf) st d (.slice G ng cg))
    (hF : Kd.C (Kd.int .u8) w F nf fl) (hzf : F = none → cf = 0) (hnf : fl.length ≤ 8) (hrf : ∀ x ∈ fl, 0 ≤ x ∧ x < 256) (hrise : risesB fl = true) (hty : ty.size ≤ 1000) (hdv : dev.size ≤ 1000)
    (op : Int) (A : Option Addr) (n c : Nat) (l : List Int) (hr : Kd.C (Kd.int .u8) w A n l) (hnc : n ≤ c) (hm : n ≤ 1000000) (hrng : ∀ x ∈ l, 0 ≤ x ∧ x < 256) :
    Calls Try.prog 28 #[.pointer (some ⟨g, 0, none⟩), .int .u8 op, .slice A n c] w (Said (fun W st d ag => EndB W g ty dev (.slice F nf cf) st d ag) (only g) w G ng cg st gl (hearS ty dev fl st d gl op l)) := by
  have hlen : l.length = n := hr.1
  have hnf' : nf ≤ 1000000 := by have := hF.1; omega
  unfold hearS
  by_cases h24 : op = 24
  · subst h24
    rw [if_pos rfl]
    by_cases hb : eqB l [1] = true
    · rw [if_pos hb]
      obtain ⟨hl1, h1⟩ := (eqB_one l hrng).1 hb
      have hn1 : n = 1 := by omega
      subst hn1
      exact (hear_type w g ty dev _ st d _ hE hty A l c hr h1).mono fun e w' ⟨v, he, ho, hb⟩ => said_kept he ho (blk_below hE hb) (onlyOff hb)
    · rw [if_neg hb]
      exact (hear_type4 w g A l n c hr (fun h => hb ((eqB_one l hrng).2 ⟨by omega, h.2⟩))).mono fun e w' ⟨he, hw⟩ => said_same he (hw ▸ hE) (fr_of hw)
  · rw [if_neg h24]
    by_cases h40 : op = 40
    · subst h40
      rw [if_neg (by simp)]
      by_cases hb : eqB l [8, 2] = true
      · rw [if_pos hb]
        by_cases h4 : st = 4
        · rw [if_pos h4]
          subst h4
          exact (hear_asks4 w g ty dev _ d _ hE A l n c hr hnc hb).mono fun e w' ⟨he, hb⟩ => said_same he (blk_below hE hb) (onlyOff hb)
        · rw [if_neg h4]
          exact (hear_asks w g ty dev _ st d _ hE hty hdv A l n c hr hnc hb h4).mono fun e w' ⟨v, he, ho, hR, hf⟩ => said_off he ho hR hf (by decide)
      · rw [if_neg hb]
        have hb' : eqB l [8, 2] = false := by simpa using hb
        by_cases hn : l.length < 2
        · rw [if_pos hn]
          by_cases hno : n < 1 ∨ (rd l 0 ≠ 2 ∧ rd l 0 ≠ 3)
          · exact (hear_none w g A l n c hr hnc hb' hno).mono fun e w' ⟨he, hb⟩ => said_same he (blk_below hE hb) (onlyOff hb)
          · by_cases h2 : rd l 0 = 2
            · refine A_dev w g A l n c hr hnc hb' (by omega) h2 fun W hW A2 hC2 => ?_
              exact (dev_form W g A2 (l.drop 1) (n - 1) (c - 1) hC2 (by omega) (by omega) (.inl (by omega))).mono fun e w' ⟨he, hb⟩ => said_same he (blk_below (blk_below hE hW) hb) (onlyOff hb)
            · refine A_fun w g A l n c hr hnc hb' (by omega) (by omega) fun W hW A2 hC2 => ?_
              exact (fun_form1 W g A2 (l.drop 1) (n - 1) (c - 1) hC2 (by omega) (.inl (by omega))).mono fun e w' ⟨he, hb⟩ => said_same he (blk_below (blk_below hE hW) hb) (onlyOff hb)
        · rw [if_neg hn]
          have hn2 : 2 ≤ n := by omega
          have r1 : rd (l.drop 1) 0 = rd l 1 := by
            match l, hn with
            | x :: y :: t, _ => rfl
            | [x], hn => exact absurd (by simp) hn
            | [], hn => exact absurd (by simp) hn
          have r2 : rd (l.drop 1) 1 = rd l 2 := by
            match l, hn with
            | x :: y :: t, _ => rfl
            | [x], hn => exact absurd (by simp) hn
            | [], hn => exact absurd (by simp) hn
          have hdd : (l.drop 1).drop 1 = l.drop 2 := List.drop_drop ..
          by_cases c2 : rd l 0 = 2
          · by_cases c6 : rd l 1 = 6
            · rw [if_pos ⟨c2, c6⟩]
              by_cases h45 : l.length = 4 ∧ rd l 2 = 5
              · rw [if_pos h45]
                have hn4 : n = 4 := by omega
                subst hn4
                by_cases h1 : st = 1
                · rw [if_pos h1]
                  refine A_dev w g A l 4 c hr hnc hb' (by omega) c2 fun W hW A2 hC2 => ?_
                  exact (dev_refuse W g ty dev _ st d _ (blk_below hE hW) A2 (l.drop 1) (c - 1) hC2 (r1.trans c6) (r2.trans h45.2) h1).mono fun e w' ⟨he, hR, hf⟩ => said_off he nilB hR hf (by decide)
                · rw [if_neg h1]
                  refine A_dev w g A l 4 c hr hnc hb' (by omega) c2 fun W hW A2 hC2 => ?_
                  exact (dev_rej W g ty dev _ st d _ (blk_below hE hW) A2 (l.drop 1) (c - 1) hC2 (r1.trans c6) (r2.trans h45.2) h1).mono fun e w' ⟨he, hb⟩ => said_same he (blk_below (blk_below hE hW) hb) (onlyOff hb)
              · rw [if_neg h45]
                refine A_dev w g A l n c hr hnc hb' (by omega) c2 fun W hW A2 hC2 => ?_
                exact (dev_form W g A2 (l.drop 1) (n - 1) (c - 1) hC2 (by omega) (fun h => h45 ⟨by omega, by rw [← r2]; exact h.2.2⟩) (.inr (by omega))).mono fun e w' ⟨he, hb⟩ => said_same he (blk_below (blk_below hE hW) hb) (onlyOff hb)
            · rw [if_neg (fun h => c6 h.2)]
              by_cases c4 : rd l 1 = 4
              · rw [if_pos ⟨c2, c4⟩]
                by_cases hg : gotB (l.drop 2) = true
                · rw [if_pos hg]
                  by_cases h1 : st = 1
                  · rw [if_pos h1]
                    subst h1
                    refine A_dev w g A l n c hr hnc hb' (by omega) c2 fun W hW A2 hC2 => ?_
                    refine (dev_ok W g ty dev F nf cf fl d G ng cg (blk_below hE hW) (Kd.C_below hF hW) hnf' A2 (l.drop 1) (n - 1) (c - 1) hC2 (by omega) (by omega) (by omega) (r1.trans c4) (by rw [hdd]; exact hg)).mono fun e w' ⟨v, he, ho, hR, hf⟩ => ?_
                    rw [hdd] at hR
                    exact said_off he ho hR hf (by decide)
                  · rw [if_neg h1]
                    refine A_dev w g A l n c hr hnc hb' (by omega) c2 fun W hW A2 hC2 => ?_
                    exact (dev_got W g ty dev _ st d _ (blk_below hE hW) A2 (l.drop 1) (n - 1) (c - 1) hC2 (by omega) (by omega) (by omega) (r1.trans c4) true (by rw [hdd]; exact hg) (.inr h1)).mono fun e w' ⟨he, hb⟩ => said_same he (blk_below (blk_below hE hW) hb) (onlyOff hb)
                · rw [if_neg hg]
                  refine A_dev w g A l n c hr hnc hb' (by omega) c2 fun W hW A2 hC2 => ?_
                  exact (dev_got W g ty dev _ st d _ (blk_below hE hW) A2 (l.drop 1) (n - 1) (c - 1) hC2 (by omega) (by omega) (by omega) (r1.trans c4) false (by rw [hdd]; simpa using hg) (.inl rfl)).mono fun e w' ⟨he, hb⟩ => said_same he (blk_below (blk_below hE hW) hb) (onlyOff hb)
              · rw [if_neg (fun h => c4 h.2), if_neg (by omega), if_neg (by omega)]
                refine A_dev w g A l n c hr hnc hb' (by omega) c2 fun W hW A2 hC2 => ?_
                exact (dev_form W g A2 (l.drop 1) (n - 1) (c - 1) hC2 (by omega) (fun h => c6 (r1.symm.trans h.2.1)) (.inr (by omega))).mono fun e w' ⟨he, hb⟩ => said_same he (blk_below (blk_below hE hW) hb) (onlyOff hb)
          · rw [if_neg (fun h => c2 h.1), if_neg (fun h => c2 h.1)]
            by_cases c3 : rd l 0 = 3
            · have hd1 : ∀ x ∈ l.drop 2, 0 ≤ x ∧ x < 256 := fun x hx => hrng x (List.mem_of_mem_drop hx)
              have small : onceB (l.drop 2) = true → allIn fl (l.drop 2) = true → (l.drop 2).Nodup ∧ (∀ x ∈ l.drop 2, 0 ≤ x ∧ x ≤ 4) ∧ n ≤ 13 := fun ho ha => by
                have hnd := once_nodup _ hd1 ho
                have hsub := allIn_sub fl _ hrf hd1 ha
                have hle := List.Nodup.length_le_of_subset hnd hsub
                refine ⟨hnd, fun x hx => ⟨(hd1 x hx).1, rises_small fl hrise x (hsub x hx)⟩, ?_⟩
                rw [List.length_drop] at hle
                omega
              by_cases c4 : rd l 1 = 4
              · rw [if_pos ⟨c3, c4⟩]
                by_cases ho : onceB (l.drop 2) = true
                · rw [if_pos ho]
                  by_cases h2 : st = 2
                  · rw [if_pos h2]
                    subst h2
                    by_cases ha : allIn fl (l.drop 2) = true
                    · rw [if_pos ha]
                      obtain ⟨hnd, hsm, h13⟩ := small ho ha
                      refine A_fun w g A l n c hr hnc hb' (by omega) c3 fun W hW A2 hC2 => ?_
                      refine (fun_is W g ty dev F nf cf fl d _ (blk_below hE hW) (Kd.C_below hF hW) hzf A2 (l.drop 1) (n - 1) (c - 1) hC2 (by omega) (by omega) (by omega) (r1.trans c4) (by rw [hdd]; exact ho) (by rw [hdd]; exact ha) (by omega)).mono fun e w' ⟨v, r, he, hv, hp, hs, hR, hf⟩ => ?_
                      rw [hdd] at hp
                      have e1 := sorted_eq (l.drop 2) r hnd hsm hp (by rw [List.length_drop, hlen]; rwa [show n - 1 - 1 = n - 2 from by omega] at hs)
                      subst e1
                      exact said_own he nilB hv hR hf (fun k hk => by cases hk)
                    · rw [if_neg ha]
                      refine A_fun w g A l n c hr hnc hb' (by omega) c3 fun W hW A2 hC2 => ?_
                      exact (fun_is_not W g ty dev F nf cf fl d _ (blk_below hE hW) (Kd.C_below hF hW) hzf A2 (l.drop 1) (n - 1) (c - 1) hC2 (by omega) (by omega) (by omega) (r1.trans c4) (by rw [hdd]; exact ho) (by rw [hdd]; simpa using ha)).mono fun e w' ⟨he, hR, hf⟩ => said_off he nilB hR hf (by decide)
                  · rw [if_neg h2]
                    refine A_fun w g A l n c hr hnc hb' (by omega) c3 fun W hW A2 hC2 => ?_
                    exact (fun_state W g ty dev _ st d _ (blk_below hE hW) A2 (l.drop 1) (n - 1) (c - 1) hC2 (by omega) (by omega) (by omega) (.inl (r1.trans c4)) (by rw [hdd]; exact ho) h2 (.inl (r1.trans c4))).mono fun e w' ⟨he, hb⟩ => said_same he (blk_below (blk_below hE hW) hb) (onlyOff hb)
                · rw [if_neg ho]
                  refine A_fun w g A l n c hr hnc hb' (by omega) c3 fun W hW A2 hC2 => ?_
                  exact (fun_form2 W g A2 (l.drop 1) (n - 1) (c - 1) hC2 (by omega) (by omega) (by omega) (.inl (r1.trans c4)) (by rw [hdd]; simpa using ho)).mono fun e w' ⟨he, hb⟩ => said_same he (blk_below (blk_below hE hW) hb) (onlyOff hb)
              · rw [if_neg (fun h => c4 h.2)]
                by_cases c7 : rd l 1 = 7
                · rw [if_pos ⟨c3, c7⟩]
                  by_cases ho : onceB (l.drop 2) = true
                  · rw [if_pos ho]
                    by_cases h2 : st = 2 ∨ st = 3
                    · rw [if_pos h2]
                      by_cases ha : allIn fl (l.drop 2) = true
                      · rw [if_pos ha]
                        obtain ⟨hnd, hsm, h13⟩ := small ho ha
                        refine A_fun w g A l n c hr hnc hb' (by omega) c3 fun W hW A2 hC2 => ?_
                        refine (fun_asks2 W g ty dev F nf cf fl st d G ng cg (blk_below hE hW) h2 (Kd.C_below hF hW) hzf A2 (l.drop 1) (n - 1) (c - 1) hC2 (by omega) (by omega) (by omega) (r1.trans c7) (by rw [hdd]; exact ho) (by rw [hdd]; exact ha) (by omega)).mono fun e w' ⟨v, r, u, he, hv, hp, hs, hR, hf, hu, hap⟩ => ?_
                        rw [hdd] at hp hu
                        have e1 := sorted_eq (l.drop 2) r hnd hsm hp (by rw [List.length_drop, hlen]; rwa [show n - 1 - 1 = n - 2 from by omega] at hs)
                        subst e1
                        exact said_own he hu hv hR hf hap
                      · rw [if_neg ha]
                        refine A_fun w g A l n c hr hnc hb' (by omega) c3 fun W hW A2 hC2 => ?_
                        refine (fun_cuts W g ty dev F nf cf fl st d G ng cg (blk_below hE hW) h2 (Kd.C_below hF hW) hzf A2 (l.drop 1) (n - 1) (c - 1) hC2 (by omega) (by omega) (by omega) (r1.trans c7) (by rw [hdd]; exact ho) (by rw [hdd]; simpa using ha)).mono fun e w' ⟨u, he, hR, hf, hu⟩ => ?_
                        rw [hdd] at hu
                        exact said_off he hu hR hf (by decide)
                    · rw [if_neg h2]
                      refine A_fun w g A l n c hr hnc hb' (by omega) c3 fun W hW A2 hC2 => ?_
                      exact (fun_state W g ty dev _ st d _ (blk_below hE hW) A2 (l.drop 1) (n - 1) (c - 1) hC2 (by omega) (by omega) (by omega) (.inr (r1.trans c7)) (by rw [hdd]; exact ho) (fun h => h2 (.inl h)) (.inr (fun h => h2 (.inr h)))).mono fun e w' ⟨he, hb⟩ => said_same he (blk_below (blk_below hE hW) hb) (onlyOff hb)
                  · rw [if_neg ho]
                    refine A_fun w g A l n c hr hnc hb' (by omega) c3 fun W hW A2 hC2 => ?_
                    exact (fun_form2 W g A2 (l.drop 1) (n - 1) (c - 1) hC2 (by omega) (by omega) (by omega) (.inr (r1.trans c7)) (by rw [hdd]; simpa using ho)).mono fun e w' ⟨he, hb⟩ => said_same he (blk_below (blk_below hE hW) hb) (onlyOff hb)
                · rw [if_neg (fun h => c7 h.2)]
                  refine A_fun w g A l n c hr hnc hb' (by omega) c3 fun W hW A2 hC2 => ?_
                  exact (fun_form1 W g A2 (l.drop 1) (n - 1) (c - 1) hC2 (by omega) (.inr ⟨by omega, by omega⟩)).mono fun e w' ⟨he, hb⟩ => said_same he (blk_below (blk_below hE hW) hb) (onlyOff hb)
            · rw [if_neg (fun h => c3 h.1), if_neg (fun h => c3 h.1)]
              exact (hear_none w g A l n c hr hnc hb' (.inr ⟨c2, c3⟩)).mono fun e w' ⟨he, hb⟩ => said_same he (blk_below hE hb) (onlyOff hb)
    · rw [if_pos h40]
      exact (hear_other w g op (beq_eq_false_iff_ne.2 h24) (bne_iff_ne.2 h40) _).mono fun e w' ⟨he, hw⟩ => said_same he (hw ▸ hE) (fr_of hw)
end Go.Proofs.Ytclpkbgjaiacpaa
