/- The keys that terms find: package filter. -/
import Derived.Test.YtccjbmmhdbainaaFltN
namespace Go.Proofs.Ytccjbmmhdbainaa
open Go.RowKit Sets
set_option linter.unusedVariables false
set_option linter.unusedSectionVars false
set_option linter.unusedSimpArgs false
set_option maxRecDepth 100000

theorem andF_any (x y : Bool) (w : World) : Calls Try.prog 59 #[.bool x, .bool y] w fun e w' => e = .returned (.bool (andK x y)) ∧ w = w' := by
  cases x <;> cases y
  all_goals
    go_enter Try.func59, Try.ntmps59
    go_wp2
    go_ret
    exact ⟨rfl, rfl⟩
theorem andF_call (a : Array Value) (w : World) : (callFunc 59 a).run Try.prog w = .ok (.enter 59 a) w := by kernel_rfl
set_option maxHeartbeats 400000 in
theorem and_txt (va vb : Value) (xs ys : List ByteArray) (w : World) (ha : Txt w va xs) (hb : Txt w vb ys) (hsum : xs.length + ys.length ≤ 4294967296) :
    Calls Try.prog 42 #[va, vb] w fun e w' => ∃ u, e = .returned u ∧ Txt w' u (mk andK xs ys) ∧ Ext w w' := by
  have hx := length_norm_le xs
  have hy := length_norm_le ys
  go_enter Try.func42, Try.ntmps42
  go_wp2_with fail
  refine (of_txt va xs _ ha (by omega)).mono ?_
  rintro e w1 ⟨u1, rfl, hu1, he1⟩
  go_wp2_with fail
  refine (of_txt vb ys _ (hb.ext he1) (by omega)).mono ?_
  rintro e w2 ⟨u2, rfl, hu2, he2⟩
  go_wp2_with fail
  refine (merge_txt andK 59 andF_call andF_any u1 u2 _ _ _ (hu1.ext he2) hu2 (by omega)).mono ?_
  rintro e w3 ⟨u3, rfl, hu3, he3⟩
  go_wp2
  go_ret
  exact ⟨u3, rfl, hu3, he1.trans (he2.trans he3)⟩
/-- An index, or none; what it holds. -/
def Ix (w : World) (v : Value) (M : Mod) : Prop := (v = .pointer none ∧ M = []) ∨ ∃ x L B, v = .pointer (some ⟨x, 0, none⟩) ∧ IdxL B w x L M
theorem Ix.ext {w w' : World} {v : Value} {M : Mod} (h : Ix w v M) (hx : Ext w w') : Ix w' v M := by
  rcases h with h | ⟨x, L, B, h1, h2⟩
  · exact .inl h
  · exact .inr ⟨x, L, B, h1, h2.ext hx⟩
theorem Ix.good {w : World} {v : Value} {M : Mod} (h : Ix w v M) : GoodM M := by
  rcases h with ⟨_, rfl⟩ | ⟨x, L, B, h1, h2⟩
  · exact GoodM.nil
  · exact h2.good
theorem ix_keys {w : World} {v : Value} {M : Mod} (h : Ix w v M) (hl : M.length ≤ 100000) : Calls Try.prog 30 #[v] w fun e w' => ∃ u, e = .returned u ∧ Txt w' u (keysM M) ∧ Ext w w' := by
  rcases h with ⟨rfl, rfl⟩ | ⟨x, L, B, rfl, h2⟩
  · refine (keys_nil w).mono ?_
    rintro e _ ⟨rfl, rfl⟩
    exact ⟨_, rfl, txt_nil _, Ext.refl _⟩
  · exact keys_list h2 hl
theorem ix_with {w : World} {v : Value} {M : Mod} (h : Ix w v M) (n : ByteArray) (hs : okS n) (hl : M.length ≤ 100000) : Calls Try.prog 60 #[v, .string n] w fun e w' => ∃ u, e = .returned u ∧ Txt w' u (withM M n) ∧ Ext w w' := by
  rcases h with ⟨rfl, rfl⟩ | ⟨x, L, B, rfl, h2⟩
  · refine (with_nil n w).mono ?_
    rintro e _ ⟨rfl, rfl⟩
    exact ⟨_, rfl, txt_nil _, Ext.refl _⟩
  · exact with_list h2 n hs hl
theorem ix_find {w : World} {v : Value} {M : Mod} (h : Ix w v M) (n y : ByteArray) (hs : okL (n, y)) (hl : M.length ≤ 100000) : Calls Try.prog 62 #[v, .string n, .string y] w fun e w' => ∃ u, e = .returned u ∧ Txt w' u (findM M (n, y)) ∧ Ext w w' := by
  rcases h with ⟨rfl, rfl⟩ | ⟨x, L, B, rfl, h2⟩
  · refine (find_nil n y w).mono ?_
    rintro e _ ⟨rfl, rfl⟩
    exact ⟨_, rfl, txt_nil _, Ext.refl _⟩
  · exact find_list h2 (n, y) hs hl
/-- The keys whose labels match. -/
def keysOf (M : Mod) (t : Tm) : List ByteArray := keysM (M.filter fun p => matchT t p.2)
def foundBy (M : Mod) (ts : List Tm) : List ByteArray := keysM (M.filter fun p => ts.all fun t => matchT t p.2)
theorem mem_filt {M : Mod} {f : Ent → Bool} {k : ByteArray} : k ∈ keysM (M.filter f) ↔ ∃ p ∈ M, f p = true ∧ p.1 = k := by
  rw [mem_keysM]
  constructor
  · rintro ⟨p, hp, e⟩
    obtain ⟨h1, h2⟩ := List.mem_filter.1 hp
    exact ⟨p, h1, h2, e⟩
  · rintro ⟨p, h1, h2, e⟩
    exact ⟨p, List.mem_filter.2 ⟨h1, h2⟩, e⟩
theorem name_one {l : List Lab} (hn : (namesI l).Nodup) {a b : Lab} (ha : a ∈ l) (hb : b ∈ l) (e : a.1 = b.1) : a = b := by
  induction l with
  | nil => simp at ha
  | cons c l ih =>
    obtain ⟨h1, h2⟩ := List.nodup_cons.1 (show (c.1 :: namesI l).Nodup from hn)
    rcases List.mem_cons.1 ha with e1 | ha1
    · rcases List.mem_cons.1 hb with e2 | hb1
      · rw [e1, e2]
      · exact absurd (show c.1 ∈ namesI l from List.mem_map.2 ⟨b, hb1, by rw [← e, e1]⟩) h1
    · rcases List.mem_cons.1 hb with e2 | hb1
      · exact absurd (show c.1 ∈ namesI l from List.mem_map.2 ⟨a, ha1, by rw [e, e2]⟩) h1
      · exact ih h2 ha1 hb1
theorem match_names {t : Tm} {l : List Lab} (h : t.vals.length = 0) : matchT t l = (hasB (namesI l) t.name == t.not) := by
  unfold matchT
  cases hf : l.find? (fun y => decide (y.1 = t.name)) with
  | none =>
    have hno : hasB (namesI l) t.name = false := by
      rw [Bool.eq_false_iff]
      intro hh
      rw [hasB_iff] at hh
      obtain ⟨y, hy, e⟩ := List.mem_map.1 hh
      rw [List.find?_eq_none] at hf
      exact hf y hy (by simpa using e)
    rw [hno]
    dsimp only
    rw [decide_eq_true h]
    cases t.not <;> rfl
  | some y =>
    have hyes : hasB (namesI l) t.name = true := by
      rw [hasB_iff]
      have := List.find?_some hf
      exact List.mem_map.2 ⟨y, List.mem_of_find?_eq_some hf, by simpa using this⟩
    rw [hyes]
    dsimp only
    rw [if_pos h]
    cases t.not <;> rfl
theorem match_vals {t : Tm} {l : List Lab} (h : t.vals.length ≠ 0) (hn : (namesI l).Nodup) : matchT t l = ((t.vals.any fun v => hasL l (t.name, v)) != t.not) := by
  unfold matchT
  cases hf : l.find? (fun y => decide (y.1 = t.name)) with
  | none =>
    have hno : (t.vals.any fun v => hasL l (t.name, v)) = false := by
      rw [Bool.eq_false_iff]
      intro hh
      obtain ⟨v, _, hv⟩ := List.any_eq_true.1 hh
      rw [hasL_iff] at hv
      rw [List.find?_eq_none] at hf
      exact hf _ hv (by simp)
    rw [hno]
    dsimp only
    rw [decide_eq_false h]
  | some y =>
    have hy1 := List.find?_some hf
    have hy2 := List.mem_of_find?_eq_some hf
    simp at hy1
    have he : (t.vals.any fun v => hasL l (t.name, v)) = hasB t.vals y.2 := by
      rw [Bool.eq_iff_iff, List.any_eq_true, hasB_iff]
      constructor
      · rintro ⟨v, hv, hl⟩
        rw [hasL_iff] at hl
        have := name_one hn hl hy2 hy1.symm
        rw [← this]
        exact hv
      · intro hv
        refine ⟨y.2, hv, ?_⟩
        rw [hasL_iff, ← hy1]
        exact hy2
    rw [he]
    dsimp only
    rw [if_neg h]
theorem good_names {M : Mod} (hM : GoodM M) {p : Ent} (hp : p ∈ M) : (namesI p.2).Nodup := good_nodup (right_good (hM.ent p hp).2.1)
/-- What a list of keys is, if it has the keys of those that are in, or of the others. -/
theorem keys_in {M : Mod} (hM : GoodM M) {t : Tm} {S : List ByteArray} (hS : Sd S) (f : Ent → Bool) (hm : ∀ k, k ∈ S ↔ ∃ p ∈ M, f p = true ∧ p.1 = k) (he : ∀ p ∈ M, matchT t p.2 = f p) : S = keysOf M t := by
  refine Sd.ext hS (sd_filter hM.sd _) fun k => ?_
  unfold keysOf
  rw [hm, mem_filt]
  constructor
  · rintro ⟨p, h1, h2, h3⟩
    exact ⟨p, h1, by rw [he p h1]; exact h2, h3⟩
  · rintro ⟨p, h1, h2, h3⟩
    exact ⟨p, h1, by rw [← he p h1]; exact h2, h3⟩
theorem keys_out {M : Mod} (hM : GoodM M) {t : Tm} {S : List ByteArray} (f : Ent → Bool) (hm : ∀ k, k ∈ S ↔ ∃ p ∈ M, f p = true ∧ p.1 = k) (he : ∀ p ∈ M, matchT t p.2 = !f p) : mk lessK (keysM M) S = keysOf M t := by
  refine keys_in hM (sd_mk _ _ _) (fun p => !f p) (fun k => ?_) he
  rw [mem_less, hm, mem_keysM]
  constructor
  · rintro ⟨⟨p, h1, h2⟩, h3⟩
    refine ⟨p, h1, ?_, h2⟩
    cases hf : f p with
    | true => exact absurd ⟨p, h1, hf, h2⟩ h3
    | false => rfl
  · rintro ⟨p, h1, h2, h3⟩
    refine ⟨⟨p, h1, h3⟩, ?_⟩
    rintro ⟨q, h4, h5, h6⟩
    have := sd_inj hM.sd h1 h4 (h3.trans h6.symm)
    subst this
    rw [h5] at h2
    cases h2
theorem with_mem (M : Mod) (n k : ByteArray) : k ∈ withM M n ↔ ∃ p ∈ M, hasB (namesI p.2) n = true ∧ p.1 = k := mem_filt
theorem find_mem (M : Mod) (y : Lab) (k : ByteArray) : k ∈ findM M y ↔ ∃ p ∈ M, hasL p.2 y = true ∧ p.1 = k := mem_filt
theorem found_next {M : Mod} (hM : GoodM M) (ts : List Tm) (t : Tm) : mk andK (foundBy M ts) (keysOf M t) = foundBy M (ts ++ [t]) := by
  refine Sd.ext (sd_mk _ _ _) (sd_filter hM.sd _) fun k => ?_
  unfold foundBy keysOf
  rw [mem_and, mem_filt, mem_filt, mem_filt]
  constructor
  · rintro ⟨⟨p, h1, h2, h3⟩, q, h4, h5, h6⟩
    have := sd_inj hM.sd h1 h4 (h3.trans h6.symm)
    subst this
    exact ⟨p, h1, by rw [List.all_append, h2]; simpa using h5, h3⟩
  · rintro ⟨p, h1, h2, h3⟩
    rw [List.all_append, Bool.and_eq_true] at h2
    exact ⟨⟨p, h1, h2.1, h3⟩, p, h1, by simpa using h2.2, h3⟩
theorem found_nil (M : Mod) : foundBy M [] = keysM M := by
  exact congrArg keysM (List.filter_eq_self.2 fun p _ => rfl)
theorem found_len (M : Mod) (ts : List Tm) : (foundBy M ts).length ≤ M.length := by
  unfold foundBy keysM
  rw [List.length_map]
  exact List.length_filter_le _ _
theorem keysOf_len (M : Mod) (t : Tm) : (keysOf M t).length ≤ M.length := by
  unfold keysOf keysM
  rw [List.length_map]
  exact List.length_filter_le _ _
end Go.Proofs.Ytccjbmmhdbainaa

/- The keys that terms find: package filter walked. -/
namespace Go.Proofs.Ytccjbmmhdbainaa
open Go.RowKit Sets
set_option linter.unusedVariables false
set_option linter.unusedSectionVars false
set_option linter.unusedSimpArgs false
set_option maxRecDepth 100000

set_option maxHeartbeats 8000000 in
theorem keysT_any (v : Value) (M : Mod) (t : Tm) (u : Value) (w : World) (hi : Ix w v M) (hl : M.length ≤ 1000) (h : Txt w u t.vals) (hk : TmOk t) (hv : t.vals.length ≤ 1000) :
    Calls Try.prog 43 #[v, tmV t u] w fun e w' => ∃ r, e = .returned r ∧ Txt w' r (keysOf M t) ∧ Ext w w' := by
  obtain ⟨name, nt, vals⟩ := t
  obtain ⟨A, n, c, rfl, hn, hnc, hc, hr⟩ := h
  dsimp only at hn hr hv
  have HR := Lib.hid hr
  have HN := Lib.hid hn
  have HI := Lib.hid hi
  have HK := Lib.hid hk
  have HG := Lib.hid hi.good
  have hn1 : n ≤ 1000 := by omega
  clear hr hn hi hk hv
  simp only [tmV]
  go_enter Try.func43, Try.ntmps43
  go_upto_region 1 with fail
  have hb := heap_alloc_new w (.cells #[.string name, .bool nt, .slice A n c] 24 (0, 0))
  have hx1 := Ext.alloc w (.cells #[.string name, .bool nt, .slice A n c] 24)
  generalize w.alloc (.cells #[.string name, .bool nt, .slice A n c] 24) = w1 at hb hx1 ⊢
  generalize w.heap.size = p at hb ⊢
  have HB := Lib.hid hb
  have HX1 := Lib.hid hx1
  obtain ⟨d0, d1, d2⟩ := tm_cells hb (Ext.refl _)
  clear hb hx1
  go_wp2_with fail
  refine (ix_with (HI.out.ext HX1.out) name HK.out.name (by omega)).mono ?_
  rintro e w2 ⟨u2, rfl, hu2, hx⟩
  clear d0 d1 d2
  obtain ⟨d0, d1, d2⟩ := tm_cells HB.out hx
  have HU2 := Lib.hid hu2
  have HX2 := Lib.hid hx
  clear hu2 hx
  by_cases hn0 : n = 0
  · have hn0I : decide ((0 : Int) < (n : Int)) = false := decide_eq_false (by omega)
    have hn0J : decide (0 < n) = false := decide_eq_false (by omega)
    have HMN : Hid (∀ l : List Lab, matchT ⟨name, nt, vals⟩ l = (hasB (namesI l) name == nt)) := Lib.hid (fun l => match_names (t := ⟨name, nt, vals⟩) (by show vals.length = 0; rw [HN.out]; exact hn0))
    clear hn0
    cases nt with
    | true =>
      have HF : Hid (withM M name = keysOf M ⟨name, true, vals⟩) := Lib.hid (keys_in HG.out (sd_filter HG.out.sd _) (fun p => hasB (namesI p.2) name) (fun k => with_mem M name k) (fun p hp => by rw [HMN.out]; cases hasB (namesI p.2) name <;> rfl))
      go_wp2_with fail
      go_ret
      exact ⟨_, rfl, by rw [← HF.out]; exact HU2.out, HX1.out.trans HX2.out⟩
    | false =>
      have HF : Hid (mk lessK (keysM M) (withM M name) = keysOf M ⟨name, false, vals⟩) := Lib.hid (keys_out HG.out (fun p => hasB (namesI p.2) name) (fun k => with_mem M name k) (fun p hp => by rw [HMN.out]; cases hasB (namesI p.2) name <;> rfl))
      have HWL : Hid ((withM M name).length ≤ 1000) := Lib.hid (Nat.le_trans (len_with name) hl)
      go_wp2_with fail
      refine (ix_keys (HI.out.ext (HX1.out.trans HX2.out)) (by omega)).mono ?_
      rintro e w3 ⟨u3, rfl, hu3, hx⟩
      have HU3 := Lib.hid hu3
      have HX3 := Lib.hid hx
      clear hu3 hx d0 d1 d2
      go_wp2_with fail
      refine (less_txt u3 u2 _ _ w3 HU3.out (HU2.out.ext HX3.out) (by rw [len_keys]; have := HWL.out; omega)).mono ?_
      rintro e w4 ⟨u4, rfl, hu4, hx⟩
      go_wp2_with fail
      go_ret
      exact ⟨_, rfl, by rw [← HF.out]; exact hu4, ((HX1.out.trans HX2.out).trans HX3.out).trans hx⟩
  · have hn0I : (0 : Int) < (n : Int) := by omega
    have hn0N : decide (0 < n) = true := decide_eq_true (by omega)
    have HMV : Hid (∀ p ∈ M, matchT ⟨name, nt, vals⟩ p.2 = ((vals.any fun v => hasL p.2 (name, v)) != nt)) := Lib.hid (fun p hp => match_vals (t := ⟨name, nt, vals⟩) (by show vals.length ≠ 0; rw [HN.out]; exact hn0) (good_names HG.out hp))
    clear hn0
    go_wp2_with fail
    go_quiet (fail)
    have hxq := Ext.drewN nq w2
    generalize w2.drewN nq = w3 at hxq ⊢
    have HX3 := Lib.hid (HX2.out.trans hxq)
    clear hxq d0 d1 d2
    obtain ⟨d0, d1, d2⟩ := tm_cells HB.out HX3.out
    go_wp2_with fail
    clear d0 d1 d2
    go_loopw [5, 25] (fun o iv wr => ∃ (k : Nat) (S : List ByteArray), k ≤ n ∧ iv = .int .i64 (k : Int) ∧ Txt wr o S ∧ Hid (Sd S) ∧ Hid (∀ x, x ∈ S ↔ ∃ y ∈ vals.take k, x ∈ findM M (name, y)) ∧ S.length ≤ 1000 * k ∧ Ext w3 wr) (fun _ iv _ => n - (intOf iv).toNat)
    case atStart => exact ⟨0, [], by omega, rfl, txt_nil _, Lib.hid Sd.nil, Lib.hid (by simp), by simp, Ext.refl _⟩
    case round =>
      obtain ⟨k, S, hk, rfl, ht, HSD, HM, hsl, hx⟩ := hrel
      have HT := Lib.hid ht
      have HX4 := Lib.hid (HX3.out.trans hx)
      have HX5 := Lib.hid hx
      clear ht hx
      obtain ⟨d0, d1, d2⟩ := tm_cells HB.out HX4.out
      by_cases hkn : k < n
      · have hkI : (k : Int) < (n : Int) := by omega
        have hkJ : (0 : Int) ≤ (k : Int) := by omega
        obtain ⟨y, hy⟩ : ∃ x, vals[k]? = some x := ⟨_, List.getElem?_eq_getElem (by have := HN.out; omega)⟩
        obtain ⟨ad, rfl, c0⟩ := txt_cell ((HR.out.ext HX1.out).ext HX4.out) hy
        have HOY := Lib.hid (HK.out.vals y (List.mem_of_getElem? hy))
        have HTS := Lib.hid (take_snoc hy)
        clear hy
        go_wp2_with fail
        refine (ix_find (HI.out.ext (HX1.out.trans HX4.out)) name y ⟨HK.out.name, HOY.out⟩ (by omega)).mono ?_
        rintro e w6 ⟨u6, rfl, hu6, hx⟩
        have HU6 := Lib.hid hu6
        have HX6 := Lib.hid hx
        have hfl := Nat.le_trans (len_find (M := M) (name, y)) hl
        clear hu6 hx d0 d1 d2 c0
        go_wp2_with fail
        refine (or_txt _ u6 _ _ w6 (HT.out.ext HX6.out) HU6.out (by omega)).mono ?_
        rintro e w7 ⟨u7, rfl, hu7, hx⟩
        have hml := length_mk_le orK S (findM M (name, y))
        have HX7 := Lib.hid (HX5.out.trans (HX6.out.trans hx))
        have HU7 := Lib.hid hu7
        clear hu7 hx
        go_wp2_with fail
        go_roundw
        case rel => exact ⟨k + 1, mk orK S (findM M (name, y)), by omega, by go_num, HU7.out, Lib.hid (sd_mk _ _ _), Lib.hid (fun x => by
          rw [mem_or, HM.out, HTS.out]
          constructor
          · rintro (⟨z, hz, h⟩ | h)
            · exact ⟨z, List.mem_append_left _ hz, h⟩
            · exact ⟨y, by simp, h⟩
          · rintro ⟨z, hz, h⟩
            rcases List.mem_append.1 hz with hz | hz
            · exact .inl ⟨z, hz, h⟩
            · simp at hz
              subst hz
              exact .inr h), by omega, HX7.out⟩
        case measure => simp [intOf]; omega
      · obtain rfl : k = n := by omega
        have HME : Hid (∀ x, x ∈ S ↔ ∃ p ∈ M, (vals.any fun v => hasL p.2 (name, v)) = true ∧ p.1 = x) := Lib.hid (fun x => by
          rw [HM.out, List.take_of_length_le (by rw [HN.out]; exact Nat.le_refl _)]
          constructor
          · rintro ⟨y, hy, h⟩
            obtain ⟨p, h1, h2, h3⟩ := (find_mem M (name, y) x).1 h
            exact ⟨p, h1, List.any_eq_true.2 ⟨y, hy, h2⟩, h3⟩
          · rintro ⟨p, h1, h2, h3⟩
            obtain ⟨y, hy, h⟩ := List.any_eq_true.1 h2
            exact ⟨y, hy, (find_mem M (name, y) x).2 ⟨p, h1, h, h3⟩⟩)
        cases nt with
        | false =>
          have HF : Hid (S = keysOf M ⟨name, false, vals⟩) := Lib.hid (keys_in HG.out HSD.out _ HME.out (fun p hp => by rw [HMV.out p hp]; cases (vals.any fun v => hasL p.2 (name, v)) <;> rfl))
          go_wp2_with fail
          go_ret
          exact ⟨_, rfl, by rw [← HF.out]; exact HT.out, HX1.out.trans HX4.out⟩
        | true =>
          have HF : Hid (mk lessK (keysM M) S = keysOf M ⟨name, true, vals⟩) := Lib.hid (keys_out HG.out _ HME.out (fun p hp => by rw [HMV.out p hp]; cases (vals.any fun v => hasL p.2 (name, v)) <;> rfl))
          go_wp2_with fail
          refine (ix_keys (HI.out.ext (HX1.out.trans HX4.out)) (by omega)).mono ?_
          rintro e w6 ⟨u6, rfl, hu6, hx⟩
          have HU6 := Lib.hid hu6
          have HX6 := Lib.hid hx
          clear hu6 hx d0 d1 d2
          go_wp2_with fail
          refine (less_txt u6 _ _ _ w6 HU6.out (HT.out.ext HX6.out) (by rw [len_keys]; omega)).mono ?_
          rintro e w7 ⟨u7, rfl, hu7, hx⟩
          go_wp2_with fail
          go_ret
          exact ⟨_, rfl, by rw [← HF.out]; exact hu7, ((HX1.out.trans HX4.out).trans HX6.out).trans hx⟩
set_option maxHeartbeats 8000000 in
theorem findT_any (v : Value) (M : Mod) (ts : List Tm) (u : Value) (w : World) (hi : Ix w v M) (hl : M.length ≤ 1000) (h : Tms w u ts) (hk : ∀ t ∈ ts, TmOk t ∧ t.vals.length ≤ 1000) :
    Calls Try.prog 28 #[v, u] w fun e w' => ∃ r, e = .returned r ∧ Txt w' r (foundBy M ts) ∧ Ext w w' := by
  obtain ⟨es, ⟨A, n, c, rfl, hn, hnc, hc, hr⟩, hes⟩ := h
  have hc' : c ≤ 9223372036854775807 := by simpa [maxLen] using hc
  have HR := Lib.hid hr
  have HN := Lib.hid hn
  have HE := Lib.hid hes
  have HI := Lib.hid hi
  have HK := Lib.hid hk
  have HG := Lib.hid hi.good
  clear hr hn hi hk hes hc
  go_enter Try.func28, Try.ntmps28
  go_wp2_with fail
  refine (ix_keys HI.out (by omega)).mono ?_
  rintro e w1 ⟨u1, rfl, hu1, hx⟩
  have HU1 := Lib.hid hu1
  have HX1 := Lib.hid hx
  clear hu1 hx
  go_wp2_with fail
  go_loopw [5, 12] (fun o iv wr => ∃ (k : Nat), k ≤ n ∧ iv = .int .i64 (k : Int) ∧ Txt wr o (foundBy M (ts.take k)) ∧ Ext w1 wr) (fun _ iv _ => n - (intOf iv).toNat)
  case atStart => exact ⟨0, by omega, rfl, by rw [List.take_zero, found_nil]; exact HU1.out, Ext.refl _⟩
  case round =>
    obtain ⟨k, hk, rfl, ht, hx⟩ := hrel
    have HT := Lib.hid ht
    have HX := Lib.hid hx
    have HX2 := Lib.hid (HX1.out.trans hx)
    clear ht hx
    by_cases hkn : k < n
    · have hkI : (k : Int) < (n : Int) := by omega
      have hkJ : (0 : Int) ≤ (k : Int) := by omega
      obtain ⟨t, ht⟩ : ∃ x, ts[k]? = some x := ⟨_, List.getElem?_eq_getElem (by have := HN.out; have := HE.out.1; omega)⟩
      obtain ⟨e, he, hat⟩ := HE.out.at_ ht
      obtain ⟨ad, rfl⟩ : ∃ ad, A = some ad := row_some HR.out tmC_len (by decide) (by have := HN.out; omega)
      obtain ⟨c0, c1, c2⟩ := tme_cells (HR.out.ext HX2.out) he
      have HOT := Lib.hid (HK.out t (List.mem_of_getElem? ht))
      have HNX : Hid (mk andK (foundBy M (ts.take k)) (keysOf M t) = foundBy M (ts.take (k + 1))) := Lib.hid (by rw [take_snoc ht]; exact found_next HG.out _ _)
      have HFL := Lib.hid (found_len M (ts.take k))
      have HKL := Lib.hid (keysOf_len M t)
      obtain ⟨en, et, ea, el, ec⟩ := e
      obtain ⟨tn, tt, tv⟩ := t
      obtain ⟨rfl, rfl, hvl⟩ := hat
      dsimp only at c0 c1 c2 hvl
      have HVL := Lib.hid hvl
      have hxa := Ext.alloc wr (.cells #[.string en, .bool et, .slice ea el ec] 24)
      have hba := heap_alloc_new wr (.cells #[.string en, .bool et, .slice ea el ec] 24 (0, 0))
      clear ht he hvl
      go_upto_region 5 with fail
      have HX4 := Lib.hid (HX.out.trans hxa)
      have HT4 := Lib.hid (HT.out.ext hxa)
      generalize wr.alloc (.cells #[.string en, .bool et, .slice ea el ec] 24) = v4 at hxa hba HX4 HT4 ⊢
      generalize wr.heap.size = p at hba ⊢
      have d0 := heap_cell hba 0
      have d1 := heap_cell hba 1
      have d2 := heap_cell hba 2
      clear hxa hba c0 c1 c2
      go_wp2_with fail
      refine (keysT_any v M ⟨en, et, tv⟩ (.slice ea el ec) v4 (HI.out.ext (HX1.out.trans HX4.out)) hl (HVL.out.ext (HX1.out.trans HX4.out)) HOT.out.1 HOT.out.2).mono ?_
      rintro e v5 ⟨u5, rfl, hu5, hx⟩
      have HU5 := Lib.hid hu5
      have HX5 := Lib.hid hx
      clear hu5 hx d0 d1 d2
      go_wp2_with fail
      refine (and_txt _ u5 _ _ v5 (HT4.out.ext HX5.out) HU5.out (by have := HFL.out; have := HKL.out; omega)).mono ?_
      rintro e v6 ⟨u6, rfl, hu6, hx⟩
      have HU6 := Lib.hid hu6
      have HX6 := Lib.hid (HX4.out.trans (HX5.out.trans hx))
      clear hu6 hx
      go_wp2_with fail
      go_roundw
      case rel => exact ⟨k + 1, by omega, by go_num, by rw [← HNX.out]; exact HU6.out, HX6.out⟩
      case measure => simp [intOf]; omega
    · obtain rfl : k = n := by omega
      have HF : Hid (ts.take k = ts) := Lib.hid (List.take_of_length_le (by rw [← HE.out.1, HN.out]; exact Nat.le_refl _))
      go_wp2_with fail
      go_ret
      exact ⟨_, rfl, by have := HT.out; rwa [HF.out] at this, HX2.out⟩
end Go.Proofs.Ytccjbmmhdbainaa
