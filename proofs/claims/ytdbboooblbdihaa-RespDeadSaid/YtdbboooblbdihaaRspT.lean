/- Words that ask little; two replies alike; two rows of commands alike. -/
import Derived.Test.YtdbboooblbdihaaRspS
namespace Go.Proofs.Ytdbboooblbdihaa
open Go.RowKit
set_option linter.unusedVariables false
set_option linter.unusedSectionVars false
set_option linter.unusedSimpArgs false
set_option maxRecDepth 100000


def wordsL (ws : List ByteArray) : Prop := ws.length ≤ 70 ∧ ∀ x ∈ ws, x.size ≤ 600
instance (ws : List ByteArray) : Decidable (wordsL ws) := inferInstanceAs (Decidable (_ ∧ _))
theorem words_any (v : Value) (ws : List ByteArray) (w : World) (hv : Txt w v ws) : Calls Try.prog 18 #[v] w fun e w' => e = .returned (.bool (decide (wordsL ws))) ∧ w = w' := by
  obtain ⟨A, n, c, rfl, hn, hnc, hcm, hr⟩ := hv
  have HN := Lib.hid hn
  have HR := Lib.hid hr
  by_cases h70 : n ≤ 70
  · have h70B : decide ((70 : Int) < (n : Int)) = false := decide_eq_false (by omega)
    clear hn hr
    go_enter Try.func18, Try.ntmps18
    go_wp2_with fail
    go_loopw [3] (fun iv wr => ∃ k : Nat, k ≤ n ∧ iv = .int .i64 (k : Int) ∧ (∀ x ∈ ws.take k, x.size ≤ 600) ∧ wr = w) (fun iv _ => n - (intOf iv).toNat)
    case atStart => exact ⟨0, by omega, rfl, by simp, rfl⟩
    case round =>
      obtain ⟨k, hk, rfl, hall, rfl⟩ := hrel
      have HALL := Lib.hid hall
      clear hall
      by_cases hkn : k < n
      · have hkI : (k : Int) < (n : Int) := by omega
        have hkJ : (0 : Int) ≤ (k : Int) := by omega
        have hlm := HN.out
        obtain ⟨x, hxk⟩ : ∃ x, ws[k]? = some x := ⟨_, List.getElem?_eq_getElem (by omega)⟩
        obtain ⟨ad, rfl, hcell⟩ := HR.out.some_ (by rw [List.length_map]; omega)
        have d0 := hcell k (.string x) (by rw [List.getElem?_map, hxk]; rfl)
        have HXK := Lib.hid hxk
        clear hcell hxk hlm
        by_cases hx6 : x.size ≤ 600
        · have h6B : decide ((600 : Int) < (x.size : Int)) = false := decide_eq_false (by omega)
          have h6C : decide (600 < x.size) = false := decide_eq_false (by omega)
          go_wp2_with fail
          go_roundw
          case rel => exact ⟨k + 1, by omega, by go_num, fun y hy => by
            rw [List.take_add_one, HXK.out] at hy
            rcases List.mem_append.1 hy with hy | hy
            · exact HALL.out y hy
            · simp at hy; subst hy; exact hx6, trivial⟩
          case measure => simp [intOf]; omega
        · have h6B : decide ((600 : Int) < (x.size : Int)) = true := decide_eq_true (by omega)
          have h6C : decide (600 < x.size) = true := decide_eq_true (by omega)
          go_wp2_with fail
          go_ret
          exact ⟨ret_f (fun h => hx6 (h.2 x (List.mem_of_getElem? HXK.out))), rfl⟩
      · obtain rfl : k = n := by omega
        have hg : Hid (wordsL ws) := Lib.hid ⟨by rw [HN.out]; exact h70, by have := HALL.out; rwa [List.take_of_length_le (by rw [HN.out]; exact Nat.le_refl _)] at this⟩
        go_wp2_with fail
        go_ret
        exact ⟨ret_t hg.out, rfl⟩
  · have h70B : decide ((70 : Int) < (n : Int)) = true := decide_eq_true (by omega)
    have hb : Hid (¬ wordsL ws) := Lib.hid (fun h => by have := h.1; omega)
    clear hn hr
    go_enter Try.func18, Try.ntmps18
    go_wp2_with fail
    go_ret
    exact ⟨ret_f hb.out, rfl⟩
instance : DecidableEq Itm := fun a b => decidable_of_iff (a.kind = b.kind ∧ a.n = b.n ∧ a.s = b.s) (by cases a; cases b; simp)
instance : DecidableEq Cmd := fun a b => decidable_of_iff (a.ws = b.ws ∧ a.e = b.e) (by cases a; cases b; simp)
theorem snoc_eq {α : Type} {xs ys : List α} {k : Nat} {x : α} (h : xs.take k = ys.take k) (hx : xs[k]? = some x) (hy : ys[k]? = some x) : xs.take (k + 1) = ys.take (k + 1) := by
  rw [List.take_add_one, List.take_add_one, h, hx, hy]
set_option maxHeartbeats 2000000 in
theorem ralike_any (va vb : Value) (xs ys : List Itm) (w : World) (ha : Row itC w va xs) (hb : Row itC w vb ys) :
    Calls Try.prog 28 #[va, vb] w fun e w' => e = .returned (.bool (decide (xs = ys))) ∧ Ext w w' := by
  obtain ⟨A, n, c, rfl, hn, hnc, hcm, hr⟩ := ha
  obtain ⟨B, m, d, rfl, hm, hmc, hdm, hs⟩ := hb
  have hn63 : n ≤ 9223372036854775807 := by simp only [maxLen] at hcm; omega
  have HN := Lib.hid (And.intro hn hm)
  have HR := Lib.hid (And.intro hr hs)
  clear hn hm hr hs
  by_cases hnm : n = m
  · subst hnm
    have hnB : ((n : Int) != (n : Int)) = false := by simp
    go_enter Try.func28, Try.ntmps28
    go_wp2_with fail
    go_loopw [5] (fun iv wr => ∃ k : Nat, k ≤ n ∧ iv = .int .i64 (k : Int) ∧ xs.take k = ys.take k ∧ Ext w wr) (fun iv _ => n - (intOf iv).toNat)
    case atStart => exact ⟨0, by omega, rfl, rfl, Ext.refl _⟩
    case round =>
      obtain ⟨k, hk, rfl, heq, hx⟩ := hrel
      have HEQ := Lib.hid heq
      have HX := Lib.hid hx
      clear heq
      by_cases hkn : k < n
      · have hkI : (k : Int) < (n : Int) := by omega
        have hkJ : (0 : Int) ≤ (k : Int) := by omega
        have hl := HN.out
        obtain ⟨x, hxk⟩ : ∃ x, xs[k]? = some x := ⟨_, List.getElem?_eq_getElem (by omega)⟩
        obtain ⟨y, hyk⟩ : ∃ y, ys[k]? = some y := ⟨_, List.getElem?_eq_getElem (by omega)⟩
        have hr1 := HR.out.1.ext hx
        have hr2 := HR.out.2.ext hx
        obtain ⟨ad, rfl⟩ := row_some hr1 itC_len (by decide) (by omega)
        obtain ⟨bd, rfl⟩ := row_some hr2 itC_len (by decide) (by omega)
        obtain ⟨c0, c1, c2⟩ := row_parts hr1 hxk
        obtain ⟨d0, d1, d2⟩ := row_parts hr2 hyk
        have HXY := Lib.hid (And.intro hxk hyk)
        clear hr1 hr2 hx hl hxk hyk
        obtain ⟨k1, n1, s1⟩ := x
        obtain ⟨k2, n2, s2⟩ := y
        dsimp only at c0 c1 c2 d0 d1 d2
        by_cases hxy : (⟨k1, n1, s1⟩ : Itm) = ⟨k2, n2, s2⟩
        · injection hxy with e1 e2 e3
          subst e1 e2 e3
          have hsB : (s1.toList == s1.toList) = true := by simp
          go_wp2_with fail
          go_quiet (fail)
          go_wp2_with fail
          go_roundw
          case rel => exact ⟨k + 1, by omega, by go_num, snoc_eq HEQ.out HXY.out.1 HXY.out.2, HX.out.trans (Ext.drewN _ _)⟩
          case measure => simp [intOf]; omega
        · have hne : Hid (¬ xs = ys) := Lib.hid (fun e => by
            have h1 := HXY.out.1
            rw [e, HXY.out.2] at h1
            injection h1 with h1
            exact hxy h1.symm)
          by_cases e3 : s1 = s2
          · subst e3
            have hsB : (s1.toList == s1.toList) = true := by simp
            by_cases e1 : k1 = k2
            · subst e1
              have e2 : ¬ n1 = n2 := fun h => hxy (by rw [h])
              have e2B : (n1 == n2) = false := by simpa using e2
              clear hxy
              go_wp2_with fail
              go_quiet (fail)
              go_wp2_with fail
              go_ret
              exact ⟨ret_f hne.out, HX.out.trans (Ext.drewN _ _)⟩
            · have e1B : (k1 == k2) = false := by simpa using e1
              by_cases e2 : n1 = n2
              · subst e2
                clear hxy
                go_wp2_with fail
                go_quiet (fail)
                go_wp2_with fail
                go_ret
                exact ⟨ret_f hne.out, HX.out.trans (Ext.drewN _ _)⟩
              · have e2B : (n1 == n2) = false := by simpa using e2
                clear hxy
                go_wp2_with fail
                go_quiet (fail)
                go_wp2_with fail
                go_ret
                exact ⟨ret_f hne.out, HX.out.trans (Ext.drewN _ _)⟩
          · have hsB : (s1.toList == s2.toList) = false := by
              rw [beq_eq_false_iff_ne]
              exact fun h => e3 (bytes_ext h)
            by_cases e1 : k1 = k2
            · subst e1
              by_cases e2 : n1 = n2
              · subst e2
                clear hxy
                go_wp2_with fail
                go_quiet (fail)
                go_wp2_with fail
                go_ret
                exact ⟨ret_f hne.out, HX.out.trans (Ext.drewN _ _)⟩
              · have e2B : (n1 == n2) = false := by simpa using e2
                clear hxy
                go_wp2_with fail
                go_quiet (fail)
                go_wp2_with fail
                go_ret
                exact ⟨ret_f hne.out, HX.out.trans (Ext.drewN _ _)⟩
            · have e1B : (k1 == k2) = false := by simpa using e1
              by_cases e2 : n1 = n2
              · subst e2
                clear hxy
                go_wp2_with fail
                go_quiet (fail)
                go_wp2_with fail
                go_ret
                exact ⟨ret_f hne.out, HX.out.trans (Ext.drewN _ _)⟩
              · have e2B : (n1 == n2) = false := by simpa using e2
                clear hxy
                go_wp2_with fail
                go_quiet (fail)
                go_wp2_with fail
                go_ret
                exact ⟨ret_f hne.out, HX.out.trans (Ext.drewN _ _)⟩
      · obtain rfl : k = n := by omega
        have hE : Hid (xs = ys) := Lib.hid (by
          have := HEQ.out
          rwa [List.take_of_length_le (by rw [HN.out.1]; exact Nat.le_refl _), List.take_of_length_le (by rw [HN.out.2]; exact Nat.le_refl _)] at this)
        go_wp2_with fail
        go_ret
        exact ⟨ret_t hE.out, HX.out⟩
  · have hnB : ((n : Int) != (m : Int)) = true := by rw [bne_iff_ne]; omega
    have hne : Hid (¬ xs = ys) := Lib.hid (fun e => hnm (by rw [← HN.out.1, ← HN.out.2, e]))
    clear hnm
    go_enter Try.func28, Try.ntmps28
    go_wp2_with fail
    go_ret
    exact ⟨ret_f hne.out, Ext.refl _⟩
set_option maxHeartbeats 2000000 in
theorem rsame_any (va vb : Value) (cs ds : List Cmd) (w : World) (ha : CmdsR w va cs) (hb : CmdsR w vb ds) :
    Calls Try.prog 14 #[va, vb] w fun e w' => e = .returned (.bool (decide (cs = ds))) ∧ Ext w w' := by
  obtain ⟨xs, ⟨A, n, c, rfl, hn, hnc, hcm, hr⟩, hxl, hxc⟩ := ha
  obtain ⟨ys, ⟨B, m, d, rfl, hm, hmc, hdm, hs⟩, hyl, hyc⟩ := hb
  have hn63 : n ≤ 9223372036854775807 := by simp only [maxLen] at hcm; omega
  have HN := Lib.hid (show cs.length = n ∧ ds.length = m from ⟨by omega, by omega⟩)
  have HNX := Lib.hid (And.intro hn hm)
  have HR := Lib.hid (And.intro hr hs)
  have HC := Lib.hid (And.intro hxc hyc)
  clear hn hm hr hs hxl hyl hxc hyc
  by_cases hnm : n = m
  · subst hnm
    have hnB : ((n : Int) != (n : Int)) = false := by simp
    go_enter Try.func14, Try.ntmps14
    go_wp2_with fail
    go_loopw [5] (fun iv wr => ∃ k : Nat, k ≤ n ∧ iv = .int .i64 (k : Int) ∧ cs.take k = ds.take k ∧ Ext w wr) (fun iv _ => n - (intOf iv).toNat)
    case atStart => exact ⟨0, by omega, rfl, rfl, Ext.refl _⟩
    case round =>
      obtain ⟨k, hk, rfl, heq, hx⟩ := hrel
      have HEQ := Lib.hid heq
      have HX := Lib.hid hx
      clear heq
      by_cases hkn : k < n
      · have hkI : (k : Int) < (n : Int) := by omega
        have hkJ : (0 : Int) ≤ (k : Int) := by omega
        have hl := HN.out
        have hlx := HNX.out
        obtain ⟨x, hxk⟩ : ∃ x, xs[k]? = some x := ⟨_, List.getElem?_eq_getElem (by omega)⟩
        obtain ⟨y, hyk⟩ : ∃ y, ys[k]? = some y := ⟨_, List.getElem?_eq_getElem (by omega)⟩
        obtain ⟨p, hpk⟩ : ∃ p, cs[k]? = some p := ⟨_, List.getElem?_eq_getElem (by omega)⟩
        obtain ⟨q, hqk⟩ : ∃ q, ds[k]? = some q := ⟨_, List.getElem?_eq_getElem (by omega)⟩
        obtain ⟨htx, hex⟩ := HC.out.1 k x p hxk hpk
        obtain ⟨hty, hey⟩ := HC.out.2 k y q hyk hqk
        have hr1 := HR.out.1.ext hx
        have hr2 := HR.out.2.ext hx
        obtain ⟨ad, rfl⟩ := row_some hr1 cmdC_len (by decide) (by omega)
        obtain ⟨bd, rfl⟩ := row_some hr2 cmdC_len (by decide) (by omega)
        obtain ⟨c0, c1⟩ := cmd_parts hr1 hxk
        obtain ⟨d0, d1⟩ := cmd_parts hr2 hyk
        have htx2 := htx.ext hx
        have hty2 := hty.ext hx
        obtain ⟨pw, pe⟩ := p
        obtain ⟨qw, qe⟩ := q
        obtain ⟨xv, xe⟩ := x
        obtain ⟨yv, ye⟩ := y
        dsimp only at c0 c1 d0 d1 hex hey htx2 hty2
        subst hex hey
        obtain ⟨xa, xn, xc, rfl, _⟩ := id htx2
        obtain ⟨ya, yn, yc, rfl, _⟩ := id hty2
        have HPQ := Lib.hid (And.intro hpk hqk)
        have HTX := Lib.hid htx2
        have HTY := Lib.hid hty2
        clear hr1 hr2 hx hl hlx hxk hyk hpk hqk htx hty htx2 hty2
        by_cases he : xe = ye
        · subst he
          have heB : (xe != xe) = false := by simp
          have hq0 := fun j => same_txt (.slice xa xn xc) (.slice ya yn yc) pw qw (wr.drewN j) (HTX.out.drewN j) (HTY.out.drewN j)
          by_cases hw : pw = qw
          · have hsw : sameB pw qw = true := by simp [sameB, hw]
            rw [hsw] at hq0
            have HQ0 := Lib.hid hq0
            have HEW := Lib.hid hw
            clear hw hq0 hsw
            go_wp2_with fail
            go_quiet (first | (go_at_call 21
                               exact quiet_drawn (HQ0.out _)))
            go_wp2_with fail
            go_roundw
            case rel => exact ⟨k + 1, by omega, by go_num, snoc_eq HEQ.out HPQ.out.1 (by rw [HPQ.out.2, HEW.out]), HX.out.trans (Ext.drewN _ _)⟩
            case measure => simp [intOf]; omega
          · have hsw : sameB pw qw = false := by simp [sameB, hw]
            rw [hsw] at hq0
            have HQ0 := Lib.hid hq0
            have hne : Hid (¬ cs = ds) := Lib.hid (fun e => by
              have h1 := HPQ.out.1
              rw [e, HPQ.out.2] at h1
              injection h1 with h1
              injection h1 with h1 _
              exact hw h1.symm)
            clear hw hq0 hsw
            go_wp2_with fail
            go_quiet (first | (go_at_call 21
                               exact quiet_drawn (HQ0.out _)))
            go_wp2_with fail
            go_ret
            exact ⟨ret_f hne.out, HX.out.trans (Ext.drewN _ _)⟩
        · have heB : (xe != ye) = true := by simpa [bne] using he
          have hne : Hid (¬ cs = ds) := Lib.hid (fun e => by
            have h1 := HPQ.out.1
            rw [e, HPQ.out.2] at h1
            injection h1 with h1
            injection h1 with _ h1
            exact he h1.symm)
          clear he
          go_wp2_with fail
          go_quiet (fail)
          go_wp2_with fail
          go_ret
          exact ⟨ret_f hne.out, HX.out.trans (Ext.drewN _ _)⟩
      · obtain rfl : k = n := by omega
        have hE : Hid (cs = ds) := Lib.hid (by
          have := HEQ.out
          rwa [List.take_of_length_le (by rw [HN.out.1]; exact Nat.le_refl _), List.take_of_length_le (by rw [HN.out.2]; exact Nat.le_refl _)] at this)
        go_wp2_with fail
        go_ret
        exact ⟨ret_t hE.out, HX.out⟩
  · have hnB : ((n : Int) != (m : Int)) = true := by rw [bne_iff_ne]; omega
    have hne : Hid (¬ cs = ds) := Lib.hid (fun e => hnm (by rw [← HN.out.1, ← HN.out.2, e]))
    clear hnm
    go_enter Try.func14, Try.ntmps14
    go_wp2_with fail
    go_ret
    exact ⟨ret_f hne.out, Ext.refl _⟩
end Go.Proofs.Ytdbboooblbdihaa
