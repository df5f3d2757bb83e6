/- What is proved: a tally's map of places; counter. Conditions: those that each theorem states. -/
import Derived.Test.YtclpkbgjaiacpaaPNegoAgreesx1
import Derived.Test.YtclpkbgjaiacpaaTallyA
import Derived.WalkSpells
import Derived.Lib.SliceRun
import Derived.Deep.DeepMust
import Derived.Deep.RegionHeld3
import Derived.StillTactics
import Derived.Defers
import Derived.Laws.Pointers
import Derived.Laws.LoneSync
import Derived.RegionTactic
import Derived.RegionCalls
import Derived.Maps.OwnSet
namespace Go.Proofs.Ytclpkbgjaiacpaa
open Go.RowKit Go.Proofs.YtclpkbgjaiacpaaW.PrintWords Go.Proofs.YtclpkbgjaiacpaaW.PrintLast Go.Proofs.YtclpkbgjaiacpaaW.PrintMore
open Go.Proofs.Ytclpkbgjaiacpaa.PNegoAgrees
set_option linter.unusedVariables false
set_option linter.unusedSimpArgs false
/-! ### index: where each stands -/
theorem mk_map (n : Int) (w : World) : (Instr.makeMap 100 (some (.int .i64 n))).run Try.prog w = .ok (.map (some w.heap.size)) (w.alloc (.map #[] 0)) := by
  simp [Instr.makeMap, run_underlying Try.underlying100, asInt, newObj, asIntOf]
  rfl
/-- A tally at block g. -/
def TalB (w : World) (g : Nat) (names l : Value) (done state sema : Int) (at_ : Value) : Prop :=
  w.heap[g]? = some (.cells #[names, l, .int .u32 done, .int .i32 state, .int .u32 sema, at_] 102 (0, 0))
def mapD (ns : List ByteArray) : Nat → DataW Unit
  | 0 => .map []
  | k + 1 => (mapD ns k).put (.string (rdOf ByteArray.empty ns (k : Int)).data.toList) (.lit (.int .i64 (k : Int)))
abbrev MapB (w : World) (bm : Nat) (ns : List ByteArray) (k : Nat) : Prop := w.ownsMap Try.prog 9 (plainElem (H := Unit) Try.prog 3) bm k (mapD ns k)
theorem CS_fr {w w1 : World} {S : Nat → Prop} {A : Option Addr} {n : Nat} {l : List ByteArray} (h : Kd.C Kd.string w A n l) (hf : Fr S w w1) (hs : ∀ ad, A = some ad → 0 < n → ¬ S ad.block) : Kd.C Kd.string w1 A n l := by
  refine ⟨h.1, h.2.1, fun hn => ?_⟩
  obtain ⟨ad, he, hc⟩ := h.2.2 hn
  refine ⟨ad, he, fun j p hj => ?_⟩
  obtain ⟨cs, h1, h2, h3⟩ := hc j p hj
  refine ⟨cs, h1, h2, fun i u hu => ?_⟩
  have h4 := h3 i u hu
  have hlt := World.block_lt_of_cell? w _ h4
  rw [← h4]
  refine World.cell?_of_block (hf.block _ hlt ?_)
  rw [add_block]
  exact hs ad he hn
theorem strAt {w : World} {A : Option Addr} {n : Nat} {l : List ByteArray} (h : Kd.C Kd.string w A n l) (i : Nat) (hi : i < n) : ∃ ad, A = some ad ∧ w.cell? (ad.add i) = some (.string (rdOf ByteArray.empty l (i : Int))) := by
  obtain ⟨ad, e, hx⟩ := Kd.at_string h (i : Int) (Int.natCast_nonneg i) (by omega)
  exact ⟨ad, e, by simpa only [Int.toNat_natCast] using hx⟩
theorem CS_apart {w : World} {A : Option Addr} {n : Nat} {l : List ByteArray} (h : Kd.C Kd.string w A n l) {g : Nat} {A2 : Option Addr} {n2 c2 : Nat} {A3 : Option Addr} {n3 c3 : Nat} {d st se : Int} {m : Option Nat} (hE : TalB w g (.slice A2 n2 c2) (.slice A3 n3 c3) d st se (.map m)) :
    ∀ ad, A = some ad → 0 < n → ¬ only g ad.block := by
  rintro ad rfl hn hg
  obtain ⟨ad', e, hx⟩ := strAt h 0 hn
  cases e
  have hb : ad.block = g := hg
  have h2 : w.cell? ad = some (.string (rdOf ByteArray.empty l ((0 : Nat) : Int))) := hx
  obtain ⟨b, o, s⟩ := ad
  subst hb
  have hs : s = none := by simpa using World.cell?_spot h2
  subst hs
  have h3 := (blk_cell hE o).symm.trans h2
  have h5 : o < 6 := by
    have := (Array.getElem?_eq_some_iff.1 h3).1
    simpa using this
  match o, h5 with
  | 0, _ | 1, _ | 2, _ | 3, _ | 4, _ | 5, _ => simp at h3
set_option maxRecDepth 100000 in
theorem t_index (w : World) (g : Nat) (N : Option Addr) (n cn : Nat) (ns : List ByteArray) (L : Option Addr) (nl cl : Nat) (d st se : Int) (mo : Option Nat) (hT : TalB w g (.slice N n cn) (.slice L nl cl) d st se (.map mo)) (hN : Kd.C Kd.string w N n ns) (hn : n ≤ 1000) (hsz : ∀ s ∈ ns, s.size ≤ 1000) :
    Calls Try.prog 70 #[.pointer (some ⟨g, 0, none⟩)] w fun e w' => e = .returned (.tuple #[]) ∧ ∃ bm, w.heap.size ≤ bm ∧ MapB w' bm ns n ∧ TalB w' g (.slice N n cn) (.slice L nl cl) d st se (.map (some bm)) ∧ Fr (only g) w w' := by
  have hc0 : w.cell? ⟨g, 0, none⟩ = some (.slice N n cn) := blk_cell hT 0
  have hc5 : w.cell? ⟨g, 5, none⟩ = some (.map mo) := blk_cell hT 5
  have hf5 := blk_frozen hT 5
  have hlt : g < w.heap.size := blk_lt hT
  have HT := Aside0.mk hT
  have HN := Aside0.mk hN
  have HZ := Aside0.mk (And.intro hn hsz)
  clear hT hN hn hsz
  have hmm := mk_map
  go_enter Try.func70, Try.ntmps70
  go_wp2
  have HAP := Aside0.mk (CS_apart HN.out HT.out)
  have hn63 : n ≤ 9223372036854775807 := by have := HZ.out.1; omega
  go_loopw [18] (fun i wr => ∃ k : Nat, k ≤ n ∧ i = .int .i64 k ∧ Aside0 (MapB wr w.heap.size ns k) ∧ Aside0 (TalB wr g (.slice N n cn) (.slice L nl cl) d st se (.map (some w.heap.size))) ∧ Aside0 (Fr (only g) w wr)) (fun i _ => n - (intOf i).toNat)
  case atStart =>
    refine ⟨0, Nat.zero_le _, rfl, ⟨?_⟩, ⟨blk_alloc (blk_put HT.out 5 _ rfl) _⟩, ⟨((Fr.refl (only g) w).setCell (p := ⟨g, 5, none⟩) (.inl rfl) _).alloc _⟩⟩
    have h1 := World.ownsMap_made (w.setCell ⟨g, 5, none⟩ (.map (some w.heap.size))) Try.prog 9 (plainElem (H := Unit) Try.prog 3)
    simpa [World.setCell, MapB, mapD] using h1
  case round =>
    obtain ⟨k, hk, rfl, HM, HTr, HF⟩ := hrel
    have hc5' : wr.cell? ⟨g, 5, none⟩ = some (.map (some w.heap.size)) := blk_cell HTr.out 5
    by_cases hlt2 : k < n
    · obtain ⟨ad, e, hx⟩ := strAt (CS_fr HN.out HF.out HAP.out) k hlt2
      subst e
      have hk0 : (0 : Int) ≤ (k : Int) := Int.natCast_nonneg k
      have hk1 : (k : Int) < (n : Int) := Int.ofNat_lt.2 hlt2
      have hmem : rdOf ByteArray.empty ns (k : Int) ∈ ns := by
        have hl := HN.out.1
        unfold rdOf
        rw [Int.toNat_natCast, List.getD_eq_getElem?_getD, List.getElem?_eq_getElem (by omega)]
        exact List.getElem_mem (by omega)
      have hkey := WideMaps.keyOf_string_mk (P := Try.prog) (k := 9) Try.underlying9 (s := rdOf ByteArray.empty ns (k : Int)) (by have := HZ.out.2 _ hmem; simp only [maxLen]; omega)
      have hwf : (Lit.int .i64 (k : Int)).wf = true := by
        have e1 : IntKind.i64.min = -9223372036854775808 := rfl
        have e2 : IntKind.i64.max = 9223372036854775807 := rfl
        simp [Lit.wf, e1, e2]
        omega
      have HK := Aside0.mk (And.intro hkey hwf)
      clear hkey hwf hmem
      go_wp2_with (at_mapUpdate; go_must (refine wpList_mapUpdate_own _ rfl _ _ _ 100 rfl 9 3 (Maps.string_keyed Try.underlying9) Try.underlying100 (plainElem (H := Unit) Try.prog 3) w.heap.size k (mapD ns k) rfl HM.out (by (have := HZ.out.1; simp only [maxLen]; omega)) _ _ _ rfl rfl HK.out.1 _ [] (plainElem_int Try.underlying3 HK.out.2) ?_; intro w1 hown hg; have HM1 := Aside0.mk hown; have HT1 := Aside0.mk (blk_grown HTr.out hg (fun e => by (have h1 : g = w.heap.size := Option.some.inj e; omega))); have HF1 := Aside0.mk (HF.out.grown hg (fun i hi => .inr (by (have h1 : w.heap.size = i := Option.some.inj hi; omega)))); clear hown hg))
      go_roundw
      case rel => exact ⟨k + 1, hlt2, by go_num, HM1, HT1, HF1⟩
      case measure => simp [intOf]; omega
    · obtain rfl : k = n := by omega
      go_wp2
      go_end0
      exact ⟨rfl, w.heap.size, Nat.le_refl _, HM.out, HTr.out, HF.out⟩
/-! ### what the map says -/
theorem keyS (l : List UInt8) : WideAt.IsKeyLit (.string l) := by first | trivial | exact rfl | simp [WideAt.IsKeyLit]
theorem mapD_isMap (ns : List ByteArray) : ∀ k, Maps.IsMap (mapD ns k)
  | 0 => ⟨_, rfl⟩
  | k + 1 => by
    have h := mapD_isMap ns k
    unfold mapD
    exact Maps.IsMap.put h _ _
theorem str_ne {s t : ByteArray} (h : s ≠ t) : (Lit.string s.data.toList) ≠ Lit.string t.data.toList := fun e => by
  injection e with e
  exact h (Go.WideShapes.bytes_inj e)
theorem mapD_not (ns : List ByteArray) (s : ByteArray) : ∀ k, (∀ i : Nat, i < k → rdOf ByteArray.empty ns (i : Int) ≠ s) → Maps.has (mapD ns k) (.string s.data.toList) = false
  | 0, _ => rfl
  | k + 1, h => by
    unfold mapD
    rw [Maps.has_put_other (str_ne (fun e => h k (by omega) e.symm))]
    exact mapD_not ns s k (fun i hi => h i (by omega))
theorem mapD_at (ns : List ByteArray) (s : ByteArray) (i : Nat) (hs : rdOf ByteArray.empty ns (i : Int) = s) : ∀ k, i < k → (∀ j : Nat, j < k → j ≠ i → rdOf ByteArray.empty ns (j : Int) ≠ s) → Maps.has (mapD ns k) (.string s.data.toList) = true ∧ ∀ z, (mapD ns k).atKey (.string s.data.toList) z = .lit (.int .i64 (i : Int))
  | 0, h, _ => absurd h (by omega)
  | k + 1, h, hd => by
    unfold mapD
    by_cases e : i = k
    · subst e
      rw [hs]
      exact ⟨Maps.has_put_same (mapD_isMap ns i) (keyS _) _, fun z => Maps.atKey_put_same (mapD_isMap ns i) (keyS _) _ z⟩
    · have hne := str_ne (fun e2 => hd k (by omega) (fun e3 => e e3.symm) e2.symm)
      have ih := mapD_at ns s i hs k (by omega) (fun j hj => hd j (by omega))
      rw [Maps.has_put_other hne]
      exact ⟨ih.1, fun z => by rw [Maps.atKey_put_other hne]; exact ih.2 z⟩
/-! ### the map is made once -/
structure Tal (w : World) (g lb : Nat) (N : Option Addr) (cn : Nat) (ns : List ByteArray) (xs : List Int) : Prop where
  t : ∃ (d : Int) (mo : Option Nat), TalB w g (.slice N ns.length cn) (.slice (some ⟨lb, 0, none⟩) ns.length ns.length) d 0 0 (.map mo) ∧ ((d = 0 ∧ mo = none) ∨ (d = 1 ∧ ∃ bm, mo = some bm ∧ MapB w bm ns ns.length))
  n : Kd.C Kd.string w N ns.length ns
  c : w.heap[lb]? = some (.cells (xs.map (Value.int .u64)).toArray 125 (0, 0))
  len : xs.length = ns.length
  few : ns.length ≤ 1000
  size : ∀ s ∈ ns, s.size ≤ 1000
theorem MapB.setCell {w : World} {bm : Nat} {ns : List ByteArray} {k : Nat} (h : MapB w bm ns k) {p : Addr} (hp : bm ≠ p.block) (u : Value) : MapB (w.setCell p u) bm ns k := World.ownsMap.setCell h hp u
theorem MapB.ne {w : World} {bm : Nat} {ns : List ByteArray} {k : Nat} (h : MapB w bm ns k) {g : Nat} {cs : Array Value} {t : TypeId} (hb : w.heap[g]? = some (.cells cs t (0, 0))) : bm ≠ g := by
  rintro rfl
  obtain ⟨es, clock, hm, _⟩ := h
  rw [hm] at hb
  cases hb
theorem t_once (w : World) (g lb : Nat) (N : Option Addr) (cn : Nat) (ns : List ByteArray) (xs : List Int) (hT : Tal w g lb N cn ns xs) :
    Calls Try.prog 69 #[.pointer (some ⟨g, 2, none⟩), .func (.func 70) #[.pointer (some ⟨g, 0, none⟩)] #[]] w fun e w' => e = .returned (.tuple #[]) ∧ ∃ bm, MapB w' bm ns ns.length ∧ TalB w' g (.slice N ns.length cn) (.slice (some ⟨lb, 0, none⟩) ns.length ns.length) 1 0 0 (.map (some bm)) ∧ Fr (only g) w w' := by
  obtain ⟨d, mo, hB, hor⟩ := hT.t
  rcases hor with ⟨rfl, rfl⟩ | ⟨rfl, bm, rfl, hM⟩
  · have hB1 : TalB (w.setCell ⟨g, 3, none⟩ (.int .i32 1)) g (.slice N ns.length cn) (.slice (some ⟨lb, 0, none⟩) ns.length ns.length) 0 1 0 (.map none) := blk_put hB 3 _ rfl
    have hf1 : Fr (only g) w (w.setCell ⟨g, 3, none⟩ (.int .i32 1)) := (Fr.refl (only g) w).setCell (p := ⟨g, 3, none⟩) (.inl rfl) _
    have hi := t_index _ g N ns.length cn ns (some ⟨lb, 0, none⟩) ns.length ns.length 0 1 0 none hB1 (CS_fr hT.n hf1 (CS_apart hT.n hB)) hT.few hT.size
    refine (t_do_first g w (fun w1 => ∃ bm, MapB w1 bm ns ns.length ∧ TalB w1 g (.slice N ns.length cn) (.slice (some ⟨lb, 0, none⟩) ns.length ns.length) 0 1 0 (.map (some bm)) ∧ Fr (only g) w w1) (blk_cell hB 2) (blk_cell hB 3) (blk_frozen hB 2) (blk_frozen hB 3) (hi.mono fun e w1 ⟨he, bm, _, hM, hT1, hf⟩ => ⟨he, bm, hM, hT1, hf1.then_ hf (fun i hi => .inl hi)⟩) (fun w1 ⟨bm, _, h1, _⟩ => ⟨blk_cell h1 2, blk_frozen h1 2, blk_cell h1 3, blk_frozen h1 3⟩)).mono ?_
    rintro e w' ⟨he, w1, ⟨bm, hM, hT1, hf⟩, rfl⟩
    have hne := MapB.ne hM hT1
    exact ⟨he, bm, MapB.setCell (MapB.setCell (World.ownsMap.drew hM) (p := ⟨g, 2, none⟩) hne _) (p := ⟨g, 3, none⟩) hne _, blk_put (blk_put (blk_drew hT1) 2 _ rfl) 3 _ rfl, ((hf.drew).setCell (p := ⟨g, 2, none⟩) (.inl rfl) _).setCell (p := ⟨g, 3, none⟩) (.inl rfl) _⟩
  · refine (t_do_done ⟨g, 2, none⟩ w _ (blk_cell hB 2)).mono ?_
    rintro e w' ⟨he, rfl⟩
    exact ⟨he, bm, hM, hB, Fr.refl _ _⟩
/-! ### counter -/
theorem t_counter_nil (w : World) (s : ByteArray) : Calls Try.prog 49 #[.pointer none, .string s] w fun e w' => e = .returned (.pointer none) ∧ w = w' := by
  go_enter Try.func49, Try.ntmps49
  go_wp2
  go_ret
  exact ⟨rfl, rfl⟩
theorem t_look (w : World) (bm : Nat) (ns : List ByteArray) (n : Nat) (hM : MapB w bm ns n) (s : ByteArray) (hs : s.size ≤ 1000) :
    ((∀ i : Nat, i < n → rdOf ByteArray.empty ns (i : Int) ≠ s) → (Instr.lookup 100 (.map (some bm)) (.string s) true).run Try.prog w = .ok (.tuple #[.int .i64 0, .bool false]) w) ∧
    (∀ i : Nat, i < n → rdOf ByteArray.empty ns (i : Int) = s → (∀ j : Nat, j < n → j ≠ i → rdOf ByteArray.empty ns (j : Int) ≠ s) → (Instr.lookup 100 (.map (some bm)) (.string s) true).run Try.prog w = .ok (.tuple #[.int .i64 (i : Int), .bool true]) w) := by
  have hkey := WideMaps.keyOf_string_mk (P := Try.prog) (k := 9) Try.underlying9 (s := s) (by simp only [maxLen]; omega)
  have hz : (zeroValue 3).run Try.prog w = .ok (.int .i64 0) w := by kernel_rfl
  obtain ⟨v, ps, hrun, hv⟩ := World.ownsMap.look_ok hM (Maps.string_keyed Try.underlying9) Try.underlying100 hz (plainElem_int (H := Unit) Try.underlying3 (show (Lit.int .i64 0).wf = true by decide)) hkey
  obtain ⟨c, rfl, hc, _⟩ := plainElem_int_inv Try.underlying3 hv
  simp only [Prod.mk.injEq] at hc
  constructor
  · intro h
    rw [mapD_not ns s n h] at hrun
    have h0 : (mapD ns n).atKey (.string s.data.toList) (.lit (.int .i64 0)) = .lit (.int .i64 0) := Maps.atKey_of_not_has (mapD_not ns s n h) _
    rw [h0] at hc
    have : c = 0 := by simpa using hc.1.symm
    rw [this] at hrun
    exact hrun
  · intro i hi e hd
    obtain ⟨h1, h2⟩ := mapD_at ns s i e n hi hd
    rw [h1] at hrun
    rw [h2] at hc
    have : c = (i : Int) := by simpa using hc.1.symm
    rw [this] at hrun
    exact hrun
/-- Where a name stands in a list of names that come once. -/
def At (ns : List ByteArray) (s : ByteArray) (i : Nat) : Prop := i < ns.length ∧ rdOf ByteArray.empty ns (i : Int) = s ∧ ∀ j : Nat, j < ns.length → j ≠ i → rdOf ByteArray.empty ns (j : Int) ≠ s
def NotAt (ns : List ByteArray) (s : ByteArray) : Prop := ∀ i : Nat, i < ns.length → rdOf ByteArray.empty ns (i : Int) ≠ s
theorem Tal.fr {w w' : World} {g lb : Nat} {N : Option Addr} {cn : Nat} {ns : List ByteArray} {xs : List Int} (hT : Tal w g lb N cn ns xs) {bm : Nat} (hM : MapB w' bm ns ns.length) (hB : TalB w' g (.slice N ns.length cn) (.slice (some ⟨lb, 0, none⟩) ns.length ns.length) 1 0 0 (.map (some bm))) (hf : Fr (only g) w w') : Tal w' g lb N cn ns xs := by
  obtain ⟨d, mo, hB0, _⟩ := hT.t
  refine ⟨⟨1, some bm, hB, .inr ⟨rfl, bm, rfl, hM⟩⟩, CS_fr hT.n hf (CS_apart hT.n hB0), hf.blk hT.c (fun e => ?_), hT.len, hT.few, hT.size⟩
  have h1 : lb = g := e
  subst h1
  have h2 := hT.c
  rw [show w.heap[lb]? = _ from hB0] at h2
  simp at h2
set_option maxRecDepth 100000 in
theorem t_counter (w : World) (g lb : Nat) (N : Option Addr) (cn : Nat) (ns : List ByteArray) (xs : List Int) (hT : Tal w g lb N cn ns xs) (s : ByteArray) (hs : s.size ≤ 1000) (p : Value)
    (hp : (NotAt ns s ∧ p = .pointer none) ∨ ∃ i, At ns s i ∧ p = .pointer (some ⟨lb, i, none⟩)) :
    Calls Try.prog 49 #[.pointer (some ⟨g, 0, none⟩), .string s] w fun e w' => e = .returned p ∧ Tal w' g lb N cn ns xs ∧ Fr (only g) w w' := by
  have HO := Aside0.mk (t_once w g lb N cn ns xs hT)
  have HT := Aside0.mk hT
  have HS := Aside0.mk hs
  have hmf : ∀ (fn : Fn) (first cap : Array Value) (w : World), (Instr.makeFunc fn first cap).run Try.prog w = .ok (.func fn first cap) w := fun _ _ _ _ => rfl
  clear hT hs
  rcases hp with ⟨hn, rfl⟩ | ⟨i, hi, rfl⟩
  · have HN := Aside0.mk hn
    clear hn
    go_enter Try.func49, Try.ntmps49
    go_wp2_with (go_at_call 69; go_must (refine HO.out.mono ?_; rintro e w1 ⟨rfl, bm, hM, hB, hf⟩; have x5 : w1.cell? ⟨g, 5, none⟩ = some (.map (some bm)) := blk_cell hB 5; have hl := (t_look w1 bm ns _ hM s HS.out).1 HN.out; have HX := Aside0.mk (And.intro (HT.out.fr hM hB hf) hf); clear hM hB hf))
    go_ret
    exact ⟨rfl, HX.out.1, HX.out.2⟩
  · have HI := Aside0.mk hi
    have hi0 : (0 : Int) ≤ (i : Int) := Int.natCast_nonneg i
    have hi1 : (i : Int) < (ns.length : Int) := Int.ofNat_lt.2 hi.1
    clear hi
    go_enter Try.func49, Try.ntmps49
    go_wp2_with (go_at_call 69; go_must (refine HO.out.mono ?_; rintro e w1 ⟨rfl, bm, hM, hB, hf⟩; have x5 : w1.cell? ⟨g, 5, none⟩ = some (.map (some bm)) := blk_cell hB 5; have x1 : w1.cell? ⟨g, 1, none⟩ = some (.slice (some ⟨lb, 0, none⟩) ns.length ns.length) := blk_cell hB 1; have hl := (t_look w1 bm ns _ hM s HS.out).2 i HI.out.1 HI.out.2.1 HI.out.2.2; have HX := Aside0.mk (And.intro (HT.out.fr hM hB hf) hf); clear hM hB hf))
    go_ret
    exact ⟨by first | rfl | simp | skip, HX.out.1, HX.out.2⟩
end Go.Proofs.Ytclpkbgjaiacpaa
