/- Package index over the plain list: each call's contract. -/
import Derived.Test.YtccjbmmhdbainaaIdxL
namespace Go.Proofs.Ytccjbmmhdbainaa
open Go.RowKit Sets
set_option linter.unusedVariables false
set_option maxRecDepth 100000
set_option linter.unusedSectionVars false
set_option linter.unusedSimpArgs false

theorem mem_keysM {M : Mod} {k : ByteArray} : k ∈ keysM M ↔ ∃ p ∈ M, p.1 = k := List.mem_map
theorem sd_filter {M : Mod} (h : Sd (keysM M)) (p : Ent → Bool) : Sd (keysM (M.filter p)) := h.sublist ((List.filter_sublist).map _)
theorem lk_mem {M : Mod} (h : Sd (keysM M)) {k : ByteArray} {P : List Lab → Prop} : (∃ ls, lkM M k = some ls ∧ P ls) ↔ ∃ p ∈ M, P p.2 ∧ p.1 = k := by
  constructor
  · rintro ⟨ls, h1, h2⟩
    exact ⟨(k, ls), (lk_some h).1 h1, h2, rfl⟩
  · rintro ⟨p, h1, h2, rfl⟩
    exact ⟨p.2, (lk_some h).2 h1, h2⟩
section
variable {M : Mod} {F : Lab → Option (List ByteArray)} {N : ByteArray → Option (List ByteArray)}
theorem at_find (h : GoodI (keysM M) (lkM M) F N) (y : Lab) : (F y).getD [] = findM M y :=
  Sd.ext (h.sdF y) (sd_filter h.sd _) fun k => by
    refine (h.memF y k).trans ((lk_mem h.sd).trans ?_)
    unfold findM
    rw [mem_keysM]
    constructor
    · rintro ⟨p, h1, h2, h3⟩
      exact ⟨p, List.mem_filter.2 ⟨h1, hasL_iff.2 h2⟩, h3⟩
    · rintro ⟨p, h1, h3⟩
      exact ⟨p, (List.mem_filter.1 h1).1, hasL_iff.1 (List.mem_filter.1 h1).2, h3⟩
theorem at_with (h : GoodI (keysM M) (lkM M) F N) (n : ByteArray) : (N n).getD [] = withM M n :=
  Sd.ext (h.sdN n) (sd_filter h.sd _) fun k => by
    refine (h.memN n k).trans ((lk_mem h.sd).trans ?_)
    unfold withM
    rw [mem_keysM]
    constructor
    · rintro ⟨p, h1, h2, h3⟩
      exact ⟨p, List.mem_filter.2 ⟨h1, (hasB_iff _ _).2 h2⟩, h3⟩
    · rintro ⟨p, h1, h3⟩
      exact ⟨p, (List.mem_filter.1 h1).1, (hasB_iff _ _).1 (List.mem_filter.1 h1).2, h3⟩
theorem len_find (y : Lab) : (findM M y).length ≤ M.length := by
  unfold findM keysM
  rw [List.length_map]
  exact List.length_filter_le _ _
theorem len_with (n : ByteArray) : (withM M n).length ≤ M.length := by
  unfold withM keysM
  rw [List.length_map]
  exact List.length_filter_le _ _
theorem len_keys : (keysM M).length = M.length := List.length_map _
theorem len_set (M : Mod) (key : ByteArray) (l : List Lab) : (setM M key l).length ≤ M.length + 1 := by
  unfold setM
  rw [(insBy_perm _ _ _).length_eq, List.length_cons]
  have : (dropM M key).length ≤ M.length := List.length_filter_le _ _
  omega
theorem len_put (M : Mod) (key : ByteArray) (l : List Lab) : (putM M key l).length ≤ M.length + 1 := by
  unfold putM
  split
  · exact len_set M key l
  · omega
theorem len_drop (M : Mod) (key : ByteArray) : (dropM M key).length ≤ M.length := List.length_filter_le _ _
theorem sum_lenG (h : Sd (keysM M)) : sumG (lkM M) (keysM M) = sizeM M := by
  unfold sumG sizeM keysM
  rw [List.map_map]
  congr 1
  refine List.map_congr_left fun p hp => ?_
  show lenG (lkM M) p.1 = p.2.length
  unfold lenG
  rw [(lk_some h).2 (show (p.1, p.2) ∈ M from hp)]
  rfl
theorem size_le (h : GoodM M) : sizeM M ≤ 8 * M.length := by
  have : ∀ l : Mod, (∀ p ∈ l, p.2.length ≤ 8) → sizeM l ≤ 8 * l.length := by
    intro l
    induction l with
    | nil => intro _; simp [sizeM]
    | cons a l ih =>
      intro hh
      have h1 := ih fun p hp => hh p (by simp [hp])
      have h2 := hh a (by simp)
      simp only [sizeM, List.map_cons, List.sum_cons, List.length_cons] at h1 ⊢
      omega
  exact this M fun p hp => (right_ok (h.ent p hp).2.1).2
end
/-- Block x is an index that holds M; its maps are the blocks of L. -/
structure IdxL (B : Nat) (w : World) (x : Nat) (L : List Nat) (M : Mod) : Prop where
  ex : ∃ b1 b2 b3 F N, L = [b1, b2, b3] ∧ IdxM B w x (lkM M) F N b1 b2 b3 ∧ GoodI (keysM M) (lkM M) F N
  good : GoodM M
section
variable {B x : Nat} {w w' : World} {L L' : List Nat} {M : Mod}
theorem IdxL.blocks (h : IdxL B w x L M) : ∀ k ∈ L, B ≤ k ∧ k < w.heap.size := by
  obtain ⟨⟨b1, b2, b3, F, N, rfl, hi, hg⟩, hm⟩ := h
  intro k hk
  have h1 := hi.lts
  have h2 := hi.h1
  have h3 := hi.h2
  have h4 := hi.h3
  simp at hk
  omega
theorem IdxL.kp (h : IdxL B w x L M) (hk : Kp L' w w') (hc : Cm w w') (hd : ∀ k ∈ L, k ∉ L') : IdxL B w' x L M := by
  obtain ⟨⟨b1, b2, b3, F, N, rfl, hi, hg⟩, hm⟩ := h
  exact ⟨⟨b1, b2, b3, F, N, rfl, hi.kp hk hc (hd b1 (by simp)) (hd b2 (by simp)) (hd b3 (by simp)), hg⟩, hm⟩
theorem IdxL.ext (h : IdxL B w x L M) (hx : Ext w w') : IdxL B w' x L M := h.kp (L' := []) (Kp.of_ext hx) (Cm.of_ext hx) (by simp)
theorem IdxL.base {B' : Nat} (h : IdxL B w x L M) (hb : B' ≤ B) : IdxL B' w x L M := by
  obtain ⟨⟨b1, b2, b3, F, N, rfl, hi, hg⟩, hm⟩ := h
  obtain ⟨q1, q2, q3, q4, q5, q6, q7, q8, q9, q10, q11⟩ := hi
  exact ⟨⟨b1, b2, b3, F, N, rfl, ⟨q1, q2, q3, q4, q5, q6, q7, by omega, by omega, by omega, by omega⟩, hg⟩, hm⟩
theorem new_list (w : World) : Calls Try.prog 33 #[] w fun e w' => ∃ x L, e = .returned (.pointer (some ⟨x, 0, none⟩)) ∧ IdxL w.heap.size w' x L [] ∧ Ext w w' := by
  refine (new_any w).mono ?_
  rintro e w' ⟨x, b1, b2, b3, rfl, hi, hx⟩
  exact ⟨x, _, rfl, ⟨⟨b1, b2, b3, _, _, rfl, hi, GoodI.nil⟩, GoodM.nil⟩, hx⟩
theorem has_list (h : IdxL B w x L M) (s : ByteArray) (hs : okS s) : Calls Try.prog 66 #[.pointer (some ⟨x, 0, none⟩), .string s] w fun e w' => e = .returned (.bool (lkM M s).isSome) ∧ w = w' := by
  obtain ⟨⟨b1, b2, b3, F, N, rfl, hi, hg⟩, hm⟩ := h
  exact has_any hi s hs
theorem labels_list (h : IdxL B w x L M) (s : ByteArray) (hs : okS s) : Calls Try.prog 31 #[.pointer (some ⟨x, 0, none⟩), .string s] w fun e w' => ∃ v, e = .returned v ∧ Row labC w' v ((lkM M s).getD []) ∧ Ext w w' := by
  obtain ⟨⟨b1, b2, b3, F, N, rfl, hi, hg⟩, hm⟩ := h
  refine labels_any hi s hs ?_
  cases hl : lkM M s with
  | none => simp
  | some a =>
    have := (hg.gok s a hl).1
    simpa using this
theorem find_list (h : IdxL B w x L M) (y : Lab) (hs : okL y) (hl : M.length ≤ 100000) : Calls Try.prog 62 #[.pointer (some ⟨x, 0, none⟩), .string y.1, .string y.2] w fun e w' => ∃ v, e = .returned v ∧ Txt w' v (findM M y) ∧ Ext w w' := by
  obtain ⟨⟨b1, b2, b3, F, N, rfl, hi, hg⟩, hm⟩ := h
  have e := at_find hg y
  have := find_any hi y hs (by rw [e]; exact Nat.le_trans (len_find y) hl)
  rwa [e] at this
theorem with_list (h : IdxL B w x L M) (n : ByteArray) (hs : okS n) (hl : M.length ≤ 100000) : Calls Try.prog 60 #[.pointer (some ⟨x, 0, none⟩), .string n] w fun e w' => ∃ v, e = .returned v ∧ Txt w' v (withM M n) ∧ Ext w w' := by
  obtain ⟨⟨b1, b2, b3, F, N, rfl, hi, hg⟩, hm⟩ := h
  have e := at_with hg n
  have := with_any hi n hs (by rw [e]; exact Nat.le_trans (len_with n) hl)
  rwa [e] at this
theorem keys_list (h : IdxL B w x L M) (hl : M.length ≤ 100000) : Calls Try.prog 30 #[.pointer (some ⟨x, 0, none⟩)] w fun e w' => ∃ v, e = .returned v ∧ Txt w' v (keysM M) ∧ Ext w w' := by
  obtain ⟨⟨b1, b2, b3, F, N, rfl, hi, hg⟩, hm⟩ := h
  exact keys_any hi (keysM M) hg.sd hg.keys (by rw [len_keys]; exact hl)
theorem drop_list (h : IdxL B w x L M) (key : ByteArray) (hs : okS key) (hl : M.length ≤ 100000) : Calls Try.prog 48 #[.pointer (some ⟨x, 0, none⟩), .string key] w fun e w' => e = .returned (.bool (lkM M key).isSome) ∧ IdxL B w' x L (dropM M key) ∧ Kp L w w' ∧ Cm w w' := by
  obtain ⟨⟨b1, b2, b3, F, N, rfl, hi, hg⟩, hm⟩ := h
  have hK : (keysM M).length ≤ 1000000 := by rw [len_keys]; omega
  refine (drop_any hi key hs (hg.shortF hK) (hg.shortN hK) (hg.gok key)).mono ?_
  rintro e w' ⟨rfl, hid⟩
  have h1 := hid.at_
  have h2 := hg.drop key
  rw [← lk_drop hm.sd] at h1 h2
  rw [← keys_drop] at h2
  exact ⟨rfl, ⟨⟨b1, b2, b3, _, _, rfl, h1, h2⟩, hm.drop key⟩, hid.kp, hid.cm⟩
theorem set_list (h : IdxL B w x L M) (key : ByteArray) (v : Value) (l : List Lab) (hs : okS key) (hr : Row labC w v l) (hlen : l.length ≤ 100000) (hoky : ∀ y ∈ l, okL y) (hl : M.length ≤ 100000) :
    Calls Try.prog 34 #[.pointer (some ⟨x, 0, none⟩), .string key, v] w fun e w' => e = .returned (.int .i64 (errM key l)) ∧ IdxL B w' x L (putM M key l) ∧ Kp L w w' ∧ Cm w w' := by
  have hh := h
  obtain ⟨⟨b1, b2, b3, F, N, rfl, hi, hg⟩, hm⟩ := h
  have hK : (keysM M).length ≤ 1000000 := by rw [len_keys]; omega
  refine (set_any hi key v l hs hr hlen hoky (hg.shortF hK) (hg.shortN hK) (hg.gok key)).mono ?_
  rintro e w' (⟨hbad, rfl, hx⟩ | ⟨hgood, rfl, a, hp, hsa, hid⟩)
  · have hb : okM key l = false := hbad
    have he : errM key l = 1 := by unfold errM; rw [hb]; rfl
    rw [he]
    have e1 : putM M key l = M := by unfold putM; rw [hb]; rfl
    rw [e1]
    exact ⟨rfl, hh.ext hx, Kp.of_ext hx, Cm.of_ext hx⟩
  · have hb : okM key l = true := hgood
    have he : errM key l = 0 := by unfold errM; rw [hb]; rfl
    rw [he]
    have e1 : putM M key l = setM M key l := by unfold putM; rw [hb]; rfl
    rw [e1]
    have hgd : goodI l = true := right_good (by rw [Bool.and_eq_true] at hgood; exact hgood.2)
    obtain rfl : a = srtL l := srtL_eq hgd hp hsa
    have h1 := hid.at_
    have h2 := hg.set key l _ hgood hp hsa
    rw [← lk_set hm hb] at h1 h2
    rw [keys_set hm hb] at h2
    exact ⟨rfl, ⟨⟨b1, b2, b3, _, _, rfl, h1, h2⟩, hm.set hb⟩, hid.kp, hid.cm⟩
end
/-- What a law holds: an index behind its start, all that was there kept. -/
structure Gx (w v : World) (x : Nat) (L : List Nat) (M : Mod) : Prop where
  at_ : IdxL w.heap.size v x L M
  ext : Ext w v
theorem Gx.later {w v v' : World} {x : Nat} {L : List Nat} {M : Mod} (h : Gx w v x L M) (k : Ext v v') : Gx w v' x L M := ⟨h.at_.ext k, h.ext.trans k⟩
theorem Gx.did {w v v' : World} {x : Nat} {L : List Nat} {M M' : Mod} (h : Gx w v x L M) (hi : IdxL w.heap.size v' x L M') (hk : Kp L v v') : Gx w v' x L M' := ⟨hi, hk.to_ext h.ext fun k hm => (h.at_.blocks k hm).1⟩
end Go.Proofs.Ytccjbmmhdbainaa
