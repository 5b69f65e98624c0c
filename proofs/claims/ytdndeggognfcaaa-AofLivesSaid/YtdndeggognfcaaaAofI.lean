/- AofLives walked. -/
import Derived.Test.YtdndeggognfcaaaAofH
import Derived.Deep.CutRange
import Derived.Deep.CutBlock
namespace Go.Proofs.Ytdndeggognfcaaa
open Go.RowKit Crc Fil
set_option linter.unusedVariables false
set_option linter.unusedSectionVars false
set_option linter.unusedSimpArgs false
set_option maxRecDepth 100000


theorem txt_pre {w : World} {A : Option Addr} {n c : Nat} {l : List ByteArray} (h : Txt w (.slice A n c) l) {i : Nat} (hi : i ≤ n) (l' : List ByteArray) (hl : l.take i = l') : Txt w (.slice A i c) l' := by
  subst hl
  obtain ⟨A', n', c', h1, h2, h3, h4, h5⟩ := h
  cases h1
  refine ⟨A, i, c, rfl, by rw [List.length_take]; omega, by omega, h4, ?_⟩
  have := h5.take i
  rwa [← List.map_take] at this
theorem txt_cap {w : World} {A : Option Addr} {n c : Nat} {l : List ByteArray} (h : Txt w (.slice A n c) l) : n ≤ c ∧ c ≤ 9223372036854775807 := by
  obtain ⟨A', n', c', h1, h2, h3, h4, h5⟩ := h
  cases h1
  exact ⟨h3, h4⟩
set_option maxHeartbeats 20000000 in
theorem aofLives_any (v : Value) (xs : List AOp) (w : World) (hv : Row opC w v xs) (hok : ∀ x ∈ xs, AOpOk w x) : Calls Try.prog 4 #[v] w fun e w' => e = .returned (.bool true) ∧ Ext w w' := by
  obtain ⟨i0, hi0, hz0, hz1, hz2⟩ := info_parts Try.strInfo
  obtain ⟨A, n, c, rfl, hn, hnc, hcm, hr⟩ := hv
  have HN := Lib.hid hn
  have HR := Lib.hid hr
  have HOK := Lib.hid hok
  have hc' : c ≤ 9223372036854775807 := by simpa [maxLen] using hcm
  clear hn hr hok hcm
  go_enter Try.func4, Try.ntmps4
  go_wp2_with fail
  refine (new_own w w (Ext.refl _)).mono ?_
  rintro e w1 ⟨g, rfl, hf1, hx1⟩
  have HF1 := Lib.hid hf1
  clear hf1 hx1
  go_wp2_with fail
  refine (HF1.out.opened).mono ?_
  rintro e w2 ⟨lg, rfl, hl⟩
  have hiv := inv_open g St.empty []
  rw [show recsL St.empty = [] from congrArg LSt.l (open_empty g), open_empty] at hiv
  rw [open_empty] at hl
  have hlv : Lv w w2 lg (.slice none 0 0) (.slice none 0 0) ⟨g, St.empty, [], 0, false⟩ [] [] := by
    obtain ⟨tb, rv, L, h1, h2, h3, h4⟩ := hl
    exact ⟨tb, rv, L, h1, h2, h3, h4, Own.nil _ _, Own.nil _ _, by simp [Value.ownBlock], by simp [Value.ownBlock], by simp [Value.ownBlock]⟩
  have HV0 := Lib.hid hlv
  have HI0 := Lib.hid hiv
  clear hl hlv hiv
  go_wp2_with fail
  go_loopw [4, 6, 7, 8, 9, 10] (fun lp va sp vo cp i wr => ∃ (lg k : Nat) (S : LSt) (all : List ByteArray) (sure : Nat) (other : List ByteArray) (cut : Bool), lp = .pointer (some ⟨lg, 0, none⟩) ∧ sp = .int .i64 (sure : Int) ∧ cp = .bool cut ∧ k ≤ n ∧ k ≤ 60 ∧ i = .int .i64 (k : Int) ∧ Lv w wr lg va vo S all other ∧ Inv S all sure other cut ∧ S.g = g ∧ S.l.length ≤ 3000000 + k ∧ all.length ≤ 3000000 + k) (fun _ _ _ _ _ i _ => n - (intOf i).toNat)
  case atStart => exact ⟨lg, 0, _, [], 0, [], false, rfl, rfl, rfl, by omega, by omega, rfl, HV0.out, HI0.out, rfl, by simp, by simp⟩
  case round =>
    clear HV0 HI0
    obtain ⟨lg, k, S, all, sure, other, cut, rfl, rfl, rfl, hk, hk60, rfl, hlv, hiv, hsg, hsl, hal⟩ := hrel
    obtain ⟨Aa, ca, rfl⟩ := own_len hlv.rowA
    obtain ⟨Ao, co, rfl⟩ := own_len hlv.rowO
    have HV := Lib.hid hlv
    have HI := Lib.hid hiv
    have HG := Lib.hid hsg
    clear hlv hiv hsg
    by_cases hkn : k < n
    · by_cases hk5 : k < 60
      · obtain ⟨ad, rfl⟩ : ∃ ad, A = some ad := row_some HR.out opC_len (by decide) (by have := HN.out; omega)
        obtain ⟨o, ho⟩ : ∃ o, xs[k]? = some o := ⟨_, List.getElem?_eq_getElem (by have := HN.out; omega)⟩
        obtain ⟨c0, c1, c2, c3, c4, c5⟩ := aop_cells (HR.out.ext HV.out.ext) ho
        have HO := Lib.hid (HOK.out o (List.mem_of_getElem? ho))
        obtain ⟨kd, sx, u, ls, on, om, ren⟩ := o
        dsimp only at c0 c1 c2 c3 c4 c5
        clear ho
        obtain ⟨Au, nu, cu, hu, hu1, hu2, hu3, hu4⟩ := HO.out.row
        dsimp only at hu hu1 hu4
        subst hu
        have HU1 := Lib.hid hu1
        have HU4 := Lib.hid hu4
        clear hu1 hu2 hu3 hu4
        go_upto_region 13 with fail
        clear c0 c1 c2 c3 c4 c5
        have hb := heap_alloc_new wr (.cells #[.int .i64 kd, .string sx, .slice Au nu cu, .int .i64 on, .int .i64 om, .bool ren] 36 (0, 0))
        have hxa := Ext.alloc wr (.cells #[.int .i64 kd, .string sx, .slice Au nu cu, .int .i64 on, .int .i64 om, .bool ren] 36)
        have HV1 := Lib.hid (HV.out.later hxa)
        clear HV hxa
        generalize wr.alloc (.cells #[.int .i64 kd, .string sx, .slice Au nu cu, .int .i64 on, .int .i64 om, .bool ren] 36) = v1 at hb HV1 ⊢
        generalize wr.heap.size = p at hb ⊢
        have HB := Lib.hid hb
        clear hb
        have hB0 := heap_cell HB.out 0
        have hB1 := heap_cell HB.out 1
        have hB2 := heap_cell HB.out 2
        have hB3 := heap_cell HB.out 3
        have hB4 := heap_cell HB.out 4
        have hB5 := heap_cell HB.out 5
        go_wp2_with fail
        clear hB0 hB1 hB2 hB3 hB4 hB5
        refine (light_any ⟨kd, sx, .slice Au nu cu, ls, on, om, ren⟩ v1 (HO.out.ext HV1.out.ext)).mono ?_
        rintro e v2 ⟨lt, rfl, hlt, hx⟩
        have HB2 := Lib.hid (OpK.ext hx _ _ _ HB.out)
        have HV2 := Lib.hid (HV1.out.later hx)
        clear HB HV1 hx
        cases lt with
        | false =>
          clear hlt
          go_wp2_with fail
          go_roundw
          case rel => exact ⟨lg, k + 1, S, all, sure, other, cut, rfl, rfl, rfl, by omega, by omega, by go_num, HV2.out, HI.out, HG.out, by omega, by omega⟩
          case measure => simp [intOf]; omega
        | true =>
          have hl := hlt rfl
          dsimp only at hl
          have HL := Lib.hid hl
          clear hlt hl
          have hB0 := heap_cell HB2.out 0
          have hB1 := heap_cell HB2.out 1
          have hB2 := heap_cell HB2.out 2
          have hB3 := heap_cell HB2.out 3
          have hB4 := heap_cell HB2.out 4
          have hB5 := heap_cell HB2.out 5
          by_cases hon : on < 0
          · have honB : decide (on < 0) = true := decide_eq_true hon
            clear hon
            go_wp2_with fail
            go_roundw
            case rel => exact ⟨lg, k + 1, S, all, sure, other, cut, rfl, rfl, rfl, by omega, by omega, by go_num, HV2.out, HI.out, HG.out, by omega, by omega⟩
            case measure => simp [intOf]; omega
          have honB : decide (on < 0) = false := decide_eq_false hon
          by_cases hom : om < 0
          · have homB : decide (om < 0) = true := decide_eq_true hom
            clear hom hon
            go_wp2_with fail
            go_roundw
            case rel => exact ⟨lg, k + 1, S, all, sure, other, cut, rfl, rfl, rfl, by omega, by omega, by go_num, HV2.out, HI.out, HG.out, by omega, by omega⟩
            case measure => simp [intOf]; omega
          have homB : decide (om < 0) = false := decide_eq_false hom
          have HON : Hid (0 ≤ on ∧ 0 ≤ om) := Lib.hid (by omega)
          clear hon hom
          go_upto_block 2 with fail
          clear honB homB
          by_cases h0 : kd = 0
          · subst h0
            have hlen := appL_len S sx
            go_wp2_with fail
            refine (HV2.out.append sx (by have := HL.out.1; omega) (by omega)).mono ?_
            rintro e v4 ⟨rfl, hv4, hk4⟩
            have HB4 := Lib.hid (hk4 _ _ _ HB2.out)
            clear hB0 hB1 hB2 hB3 hB4 hB5
            rcases HI.out.append sx with ⟨e0, hi⟩ | ⟨e0, he⟩
            · rw [e0]
              have hg4 := hlen.2.trans HG.out
              have hl4 := hlen.1
              generalize (appL S sx).2 = S4 at hv4 hi hg4 hl4
              have HV4 := Lib.hid hv4
              have HI4 := Lib.hid hi
              have HG := Lib.hid hg4
              have hB1 := heap_cell HB4.out 1
              clear hv4 hk4 hi e0 hlen
              go_wp2_with (first
                | (at_builtin
                   have HV5 := Lib.hid (HV4.out.later (Ext.alloc v4 (.cells #[.string sx] 9)))
                   refine wpList_append_rd (P := Try.prog) _ rfl (.tmp 126) (.tmp 129) 34 rfl w.heap.size 9 i0 (.string ByteArray.empty) 1 16 Try.underlying34 hi0 hz0 hz1 hz2 rfl (by decide) (.slice Aa all.length ca) all.length _ rfl (by exact HV5.out.rowA) (some ⟨v4.heap.size, 0, none⟩) 1 1 [.string sx] rfl rfl (by exact Rd.new v4 #[_] 9) (by intro u hu; simp at hu; subst hu; rfl) (by simp only [maxLen]; omega) (by omega) HV5.out.ext.size ?_
                   intro v6 w6 happ
                   have happ' : Appended (v4.alloc (.cells #[.string sx] 9)) w6 w.heap.size 9 1 (.slice Aa all.length ca) v6 (all ++ [sx]).length ((all ++ [sx]).map .string) := by rw [List.length_append, List.map_append]; exact happ
                   have HV6 := Lib.hid (HV5.out.put happ').1
                   have hal6 : (all ++ [sx]).length = all.length + 1 := by simp
                   clear happ happ' hB1))
              go_roundw
              case rel => exact ⟨lg, k + 1, S4, (all ++ [sx]), sure, other, cut, rfl, rfl, rfl, by omega, by omega, by go_num, HV6.out, HI4.out, HG.out, by omega, by omega⟩
              case measure => simp [intOf]; omega
            · rw [he] at hv4
              have h0B : ((appL S sx).1 == 0) = false := by simpa using e0
              generalize (appL S sx).1 = ec at h0B
              have HV4 := Lib.hid hv4
              clear hv4 hk4 he e0 hlen
              go_wp2_with fail
              go_roundw
              case rel => exact ⟨lg, k + 1, S, all, sure, other, cut, rfl, rfl, rfl, by omega, by omega, by go_num, HV4.out, HI.out, HG.out, by omega, by omega⟩
              case measure => simp [intOf]; omega
          have h0' : (kd == 0) = false := by simpa using h0
          clear h0
          by_cases h1 : kd = 1
          · subst h1
            have hlen := syncL_len S
            clear hB0 hB1 hB2 hB3 hB4 hB5
            go_wp2_with fail
            refine (HV2.out.sync (by omega)).mono ?_
            rintro e v4 ⟨rfl, hv4, hk4⟩
            rcases HI.out.sync with ⟨e0, hi⟩ | ⟨e0, he⟩
            · rw [e0]
              have hg4 := hlen.2.trans HG.out
              have hl4 := hlen.1
              generalize (syncL S).2 = S4 at hv4 hi hg4 hl4
              have HV4 := Lib.hid hv4
              have HI4 := Lib.hid hi
              have HG := Lib.hid hg4
              clear hv4 hk4 hi e0 hlen hg4
              go_wp2_with fail
              go_roundw
              case rel => exact ⟨lg, k + 1, S4, all, all.length, other, cut, rfl, rfl, rfl, by omega, by omega, by go_num, HV4.out, HI4.out, HG.out, by omega, by omega⟩
              case measure => simp [intOf]; omega
            · rw [he] at hv4
              have h0B : ((syncL S).1 == 0) = false := by simpa using e0
              generalize (syncL S).1 = ec at h0B
              have HV4 := Lib.hid hv4
              clear hv4 hk4 he e0 hlen
              go_wp2_with fail
              go_roundw
              case rel => exact ⟨lg, k + 1, S, all, sure, other, cut, rfl, rfl, rfl, by omega, by omega, by go_num, HV4.out, HI.out, HG.out, by omega, by omega⟩
              case measure => simp [intOf]; omega
          have h1' : (kd == 1) = false := by simpa using h1
          clear h1
          by_cases h2 : kd = 2
          · subst h2
            have hlen := rewL_len S ls on
            have hl20 := HL.out.2.1
            go_wp2_with fail
            refine (HV2.out.halted).mono ?_
            rintro e _ ⟨rfl, rfl⟩
            rw [HI.out.halt]
            go_wp2_with fail
            refine (HV2.out.rewrite (.slice Au nu cu) ls on HO.out.row (by omega) HL.out.2.2 HO.out.n1 HO.out.n2).mono ?_
            rintro e v4 ⟨rfl, hv4, hk4⟩
            have HB4 := Lib.hid (hk4 _ _ _ HB2.out)
            clear hB0 hB1 hB2 hB3 hB4 hB5
            have hg4 := hlen.2.trans HG.out
            have hl4 : (rewL S ls on).2.l.length ≤ 3000000 + k := by
              rcases hlen.1 with h | h <;> omega
            rcases HI.out.rewrite ls on HON.out.1 with ⟨e0, hi⟩ | ⟨e0, hcut, hi⟩ | ⟨e0, hcut, he⟩ | ⟨e0, he⟩
            · rw [e0]
              generalize (rewL S ls on).2 = S4 at hv4 hi hg4 hl4
              have HV4 := Lib.hid hv4
              have HI4 := Lib.hid hi
              have HG := Lib.hid hg4
              have hB2 := (Ext.alloc v4 (.cells #[] 9)).cell (heap_cell HB4.out 2)
              clear hv4 hk4 hi e0 hlen hg4
              go_wp2_with (first
                | (at_builtin
                   refine app_strs (v4.alloc (.cells #[] 9)) rfl (.tmp 150) (.tmp 152) rfl v4 (.slice (some ⟨v4.heap.size, 0, none⟩) 0 0) [] rfl (own_empty v4) Au nu cu ls rfl HU1.out (HU4.out.ext (HV4.out.ext.trans (Ext.alloc v4 _))) (by simp; omega) (Ext.alloc v4 _) ?_
                   intro v5 w5 hown hext
                   have hown' : Own v4 w5 v5 ls := by simpa using hown
                   obtain ⟨A5, c5, rfl⟩ := own_len hown'
                   have HV5 := Lib.hid (HV4.out.renew hext hown')
                   clear hown hown' hext hB2))
              go_roundw
              case rel => exact ⟨lg, k + 1, S4, ls, ls.length, other, cut, rfl, rfl, rfl, by omega, by omega, by go_num, HV5.out, HI4.out, HG.out, by omega, by omega⟩
              case measure => simp [intOf]; omega
            · rw [e0]
              subst hcut
              generalize (rewL S ls on).2 = S4 at hv4 hi hg4 hl4
              have HV4 := Lib.hid hv4
              have HI4 := Lib.hid hi
              have HG := Lib.hid hg4
              have hB2 := (Ext.alloc v4 (.cells #[] 9)).cell (heap_cell HB4.out 2)
              clear hv4 hk4 hi e0 hlen hg4
              go_wp2_with (first
                | (at_builtin
                   refine app_strs (v4.alloc (.cells #[] 9)) rfl (.tmp 162) (.tmp 164) rfl v4 (.slice (some ⟨v4.heap.size, 0, none⟩) 0 0) [] rfl (own_empty v4) Au nu cu ls rfl HU1.out (HU4.out.ext (HV4.out.ext.trans (Ext.alloc v4 _))) (by simp; omega) (Ext.alloc v4 _) ?_
                   intro v5 w5 hown hext
                   have hown' : Own v4 w5 v5 ls := by simpa using hown
                   obtain ⟨A5, c5, rfl⟩ := own_len hown'
                   have HV5 := Lib.hid (HV4.out.reother hext hown')
                   clear hown hown' hext hB2))
              go_roundw
              case rel => exact ⟨lg, k + 1, S4, all, sure, ls, true, rfl, rfl, rfl, by omega, by omega, by go_num, HV5.out, HI4.out, HG.out, by omega, by omega⟩
              case measure => simp [intOf]; omega
            · rw [e0]
              rw [he] at hv4
              subst hcut
              have HV4 := Lib.hid hv4
              clear hv4 hk4 he e0 hlen hl4 hg4
              go_wp2_with fail
              go_roundw
              case rel => exact ⟨lg, k + 1, S, all, sure, other, true, rfl, rfl, rfl, by omega, by omega, by go_num, HV4.out, HI.out, HG.out, by omega, by omega⟩
              case measure => simp [intOf]; omega
            · rw [e0]
              rw [he] at hv4
              have HV4 := Lib.hid hv4
              clear hv4 hk4 he e0 hlen hl4 hg4
              go_wp2_with fail
              go_roundw
              case rel => exact ⟨lg, k + 1, S, all, sure, other, cut, rfl, rfl, rfl, by omega, by omega, by go_num, HV4.out, HI.out, HG.out, by omega, by omega⟩
              case measure => simp [intOf]; omega
          have h2' : (kd == 2) = false := by simpa using h2
          clear h2 hB0 hB1 hB2
          have hcr := HV2.out.crash on om ren HO.out.n1 HO.out.n2 HO.out.m1 HO.out.m2
          rw [HG.out] at hcr
          go_wp2_with fail
          refine hcr.mono ?_
          rintro e v4 ⟨rfl, hv4, hk4⟩
          have hic := HI.out.crash on om ren HON.out.1 HON.out.2
          generalize (crashR S.t on om ren).2 = tc at hv4 hic
          have HV4 := Lib.hid hv4
          clear hv4 hk4 hcr hB3 hB4 hB5
          go_wp2_with fail
          have hop := HV4.out.opened
          dsimp only at hop
          refine hop.mono ?_
          rintro e v5 ⟨lg', rfl, hv5, hk5⟩
          have hio := inv_open g tc other
          have hol := openL_len g tc (by have := HV4.out.ok; exact this)
          have hor : (openL g tc).l = recsL tc := rfl
          have hog : (openL g tc).g = g := rfl
          generalize openL g tc = S5 at hv5 hio hol hor hog
          generalize recsL tc = r at hic hio hor
          have HV5 := Lib.hid hv5
          have HI5 := Lib.hid hio
          have HG5 := Lib.hid hog
          have HC := Lib.hid hic
          rw [hor] at hol
          have HR5 := Lib.hid hor
          clear hv5 hk5 hop hio hic hor hog
          go_wp2_with fail
          refine (HV5.out.records (by rw [HR5.out]; omega)).mono ?_
          rw [HR5.out]
          rintro e v6 ⟨ur, rfl, hur, hx6⟩
          obtain ⟨Ar, cr, rfl⟩ := own_len hur
          have HV6 := Lib.hid (HV5.out.later hx6)
          have HVR := Lib.hid (HV5.out.renew hx6 hur)
          have HUR := Lib.hid hur
          have hLR : S5.l.length ≤ 3000000 + k + 1 := by rw [HR5.out]; omega
          have hGG := HG5.out
          clear hur hx6
          by_cases ha : sure ≤ r.length
          · by_cases hb : r.length ≤ all.length
            · have haI : (sure : Int) ≤ (r.length : Int) := by omega
              have hbI : (r.length : Int) ≤ (all.length : Int) := by omega
              have HTA := Lib.hid (HV6.out.rowA.txt)
              obtain ⟨B1, hB1, hsl1⟩ := cut_upto (P := Try.prog) 34 9 i0 1 Try.underlying34 hi0 hz1 (txt_rd HTA.out) (txt_cap HTA.out).1 r.length (r.length : Int) rfl hb
              have HT1 : Hid (Txt v6 (.slice B1 r.length ca) (all.take r.length)) := Lib.hid ⟨B1, r.length, ca, rfl, by rw [List.length_take]; omega, Nat.le_trans hb (txt_cap HTA.out).1, (txt_cap HTA.out).2, by
                have h := hB1
                rw [Nat.mul_one, ← List.map_take] at h
                exact h⟩
              clear hB1
              by_cases hc : r = all.take r.length
              · have hsb : sameB r (all.take r.length) = true := decide_eq_true hc
                have HSB := Lib.hid hsb
                clear ha hb hc hsb
                go_wp2_with fail
                refine (same_txt _ _ r (all.take r.length) v6 HUR.out.txt HT1.out).mono ?_
                rw [HSB.out]
                rintro e w7 ⟨rfl, q7, rfl⟩
                have HVR7 := Lib.hid (HVR.out.later (Ext.drewN q7 v6))
                generalize v6.drewN q7 = v7 at HVR7 ⊢
                go_wp2_with fail
                have HG := HG5
                go_roundw
                case rel => exact ⟨lg', k + 1, S5, r, r.length, other, false, rfl, rfl, rfl, by omega, by omega, by go_num, HVR7.out, HI5.out, HG.out, by omega, by omega⟩
                case measure => simp [intOf]; omega
              · have HCT : Hid (cut = true ∧ r = other) := Lib.hid (by
                  rcases HC.out with ⟨j, hj1, hj2, hj3⟩ | h
                  · exfalso
                    apply hc
                    have hlj : r.length = j := by rw [hj3, List.length_take]; omega
                    rw [hlj]
                    exact hj3
                  · exact h)
                have hsb : sameB r (all.take r.length) = false := decide_eq_false hc
                have HSB := Lib.hid hsb
                clear hc hsb ha hb
                go_wp2_with fail
                refine (same_txt _ _ r (all.take r.length) v6 HUR.out.txt HT1.out).mono ?_
                rw [HSB.out]
                rintro e w7 ⟨rfl, q7, rfl⟩
                have hx7 : Ext v6 (v6.drewN q7) := Ext.drewN q7 v6
                generalize v6.drewN q7 = v7 at hx7 ⊢
                have HVR7 := Lib.hid (HVR.out.later hx7)
                have HO7 := Lib.hid (HV6.out.rowO.txt.ext hx7)
                have HR7 := Lib.hid (HUR.out.txt.ext hx7)
                clear hx7
                have hct := HCT.out.1
                have hro := HCT.out.2
                clear HCT
                subst hct
                subst hro
                go_wp2_with fail
                refine (same_yes _ _ _ _ v7 HR7.out HO7.out rfl).mono ?_
                rintro e w8 ⟨rfl, hx8⟩
                have HVR8 := Lib.hid (HVR7.out.later hx8)
                clear hx8
                go_wp2_with fail
                have HG := HG5
                go_roundw
                case rel => exact ⟨lg', k + 1, S5, r, r.length, r, false, rfl, rfl, rfl, by omega, by omega, by go_num, HVR8.out, HI5.out, HG.out, by omega, by omega⟩
                case measure => simp [intOf]; omega
            · have haI : (sure : Int) ≤ (r.length : Int) := by omega
              have hbI : ¬ (r.length : Int) ≤ (all.length : Int) := by omega
              have HCT : Hid (cut = true ∧ r = other) := Lib.hid (by
                rcases HC.out with ⟨j, hj1, hj2, hj3⟩ | h
                · exfalso
                  have hlj : r.length = j := by rw [hj3, List.length_take]; omega
                  omega
                · exact h)
              clear ha hb
              have hct := HCT.out.1
              have hro := HCT.out.2
              clear HCT
              subst hct
              subst hro
              go_wp2_with fail
              refine (same_yes _ _ _ _ v6 HUR.out.txt HV6.out.rowO.txt rfl).mono ?_
              rintro e w8 ⟨rfl, hx8⟩
              have HVR8 := Lib.hid (HVR.out.later hx8)
              clear hx8
              go_wp2_with fail
              have HG := HG5
              go_roundw
              case rel => exact ⟨lg', k + 1, S5, r, r.length, r, false, rfl, rfl, rfl, by omega, by omega, by go_num, HVR8.out, HI5.out, HG.out, by omega, by omega⟩
              case measure => simp [intOf]; omega
          · have haI : ¬ (sure : Int) ≤ (r.length : Int) := by omega
            have HCT : Hid (cut = true ∧ r = other) := Lib.hid (by
              rcases HC.out with ⟨j, hj1, hj2, hj3⟩ | h
              · exfalso
                have hlj : r.length = j := by rw [hj3, List.length_take]; omega
                omega
              · exact h)
            clear ha
            have hct := HCT.out.1
            have hro := HCT.out.2
            clear HCT
            subst hct
            subst hro
            go_wp2_with fail
            refine (same_yes _ _ _ _ v6 HUR.out.txt HV6.out.rowO.txt rfl).mono ?_
            rintro e w8 ⟨rfl, hx8⟩
            have HVR8 := Lib.hid (HVR.out.later hx8)
            clear hx8
            go_wp2_with fail
            have HG := HG5
            go_roundw
            case rel => exact ⟨lg', k + 1, S5, r, r.length, r, false, rfl, rfl, rfl, by omega, by omega, by go_num, HVR8.out, HI5.out, HG.out, by omega, by omega⟩
            case measure => simp [intOf]; omega
      · have hkI : ¬ (k : Int) < 60 := by omega
        have hkJ : (k : Int) < (n : Int) := by omega
        go_wp2_with fail
        refine (known_any _).mono ?_
        rintro e w9 ⟨rfl, hx9⟩
        go_wp2_with fail
        go_ret
        exact ⟨rfl, HV.out.ext.trans hx9⟩
    · have hkJ : ¬ (k : Int) < (n : Int) := by omega
      go_wp2_with fail
      refine (known_any _).mono ?_
      rintro e w9 ⟨rfl, hx9⟩
      go_wp2_with fail
      go_ret
      exact ⟨rfl, HV.out.ext.trans hx9⟩
end Go.Proofs.Ytdndeggognfcaaa
