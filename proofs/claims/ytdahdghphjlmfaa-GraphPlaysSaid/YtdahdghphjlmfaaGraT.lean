/- The walk of package graph's pick: the range. -/
import Derived.Test.YtdahdghphjlmfaaGraQ
import Derived.Test.YtdahdghphjlmfaaSetO
import Derived.Deep.LoopGhost
namespace Go.Proofs.Ytdahdghphjlmfaa
open Go.RowKit Sets Gra
set_option linter.unusedVariables false


theorem rd_app {w w' : World} {base e size n m x : Nat} {v v' : Value} {xs ys cs : List Value} (h : Appended w w' base e size v v' n xs) (ho : w.ownsRow base e size v m ys) (hr : Rd w (some ⟨x, 0, none⟩) cs) (hx : ∀ k, v.ownBlock = some k → k ≠ x) : Rd w' (some ⟨x, 0, none⟩) cs :=
  (app_kp h ho).rd hr (fun ad e hm => by
    injection e with e
    subst e
    exact hx x (by simpa using hm) rfl)
theorem one_str (x : ByteArray) : ∀ u ∈ [Value.string x], u.oneCell' = true := by intro u hu; simp at hu; subst hu; rfl
/-- The world behind a new block of one text. -/
theorem new_one (v : World) (x : ByteArray) (n : Nat) (hn : v.heap.size = n) : Rd (v.alloc (.cells #[.string x] 9)) (some ⟨n, 0, none⟩) [.string x] := by
  have := Rd.new v #[.string x] 9
  rw [hn] at this
  exact this

set_option maxHeartbeats 4000000 in
theorem pick_any (so : Rule → Bool) (kf : FuncId) (cap : Array Value) (hcf : ∀ (a : Array Value) (w : World), (callFunc kf a).run Try.prog w = .ok (.enter kf a) w) (B g : Nat) (L : List Rule) (w : World) (h : GraphAt B w g L) (hlen : L.length ≤ 100000)
    (hso : ∀ r w', Ext w w' → Calls Try.prog kf (#[ruleV r] ++ cap) w' fun e w'' => e = .returned (.bool (so r)) ∧ Ext w' w'') :
    Calls Try.prog 30 #[.pointer (some ⟨g, 0, none⟩), .func (.func kf) #[] cap] w fun e w' => ∃ v, e = .returned v ∧ Row ruleC w' v (L.filter so) ∧ Ext w w' := by
  obtain ⟨i0, hi0, hz0, hz1, hz2⟩ := info_parts Try.strInfo
  have HG := Lib.hid h
  obtain ⟨b, l, h1, h2, h3, h4, h5, h6⟩ := h
  have c0 : w.cell? ⟨g, 0, none⟩ = some (.map (some b)) := heap_cell h1 0
  obtain ⟨w1, hrun, hrange, hx1⟩ := h2.range (P := Try.prog) Try.underlying60
  have HSO := Lib.hid hso
  have HP := Lib.hid h3
  have HR1 := Lib.hid hrange
  have HX1 := Lib.hid hx1
  have HOK := Lib.hid h6
  clear hso h1 h2 h3 hrange hx1 h6
  go_enter Try.func30, Try.ntmps30
  go_wp2_with fail
  obtain ⟨r, hrr⟩ : ∃ r, r = w.heap.size := ⟨_, rfl⟩
  have hr0 : w.heap.size ≤ r := by omega
  rw [← hrr] at HR1 ⊢
  clear hrr
  go_loopg [5, 6, 21] l.length (fun gk n s _ wr => ∃ (dn : List Rule) (rest : List (ByteArray × Value)), rest.length = gk ∧ (dn.map entR ++ rest).Perm (L.map entR) ∧ Inv w L r b l wr n s ((dn.filter so).map (·.dst)) ((dn.filter so).map (·.src)) rest)
  case atStart => exact ⟨[], l, rfl, HP.out, World.ownsRow_nil _ _ _ _, World.ownsRow_nil _ _ _ _, by simp [Value.ownBlock], HR1.out, HX1.out⟩
  case round =>
    obtain ⟨dn, rest, hrl, hperm, hinv⟩ := hrel
    have HPE := Lib.hid hperm
    have HIN := Lib.hid hinv
    have HRL := Lib.hid hrl
    rcases hinv.range.next (P := Try.prog) with ⟨rfl, hn⟩ | ⟨x, rest', wn, hpx, hn, hen, hrn, hkn⟩
    · clear HR1 HX1
      have HD := Lib.hid (norm_pick hperm so (·.dst))
      have HS := Lib.hid (norm_pick hperm so (·.src))
      have hdl : dn.length ≤ 100000 := by
        have := hperm.length_eq
        simp at this
        omega
      have hfl := List.length_filter_le so dn
      have HT1 := Lib.hid hinv.own1.txt
      have HT2 := Lib.hid hinv.own2.txt
      have HX2 := Lib.hid hinv.ext
      clear hperm hinv HIN HPE HRL
      go_wp2_with fail
      refine (of_txt u5 _ wr HT1.out (by rw [List.length_map]; omega)).mono ?_
      rintro e v1 ⟨o1, rfl, ht1, hy1⟩
      rw [HD.out] at ht1
      have HT3 := Lib.hid ht1
      have HT4 := Lib.hid (HT2.out.ext hy1)
      have HX3 := Lib.hid (HX2.out.trans hy1)
      clear ht1 hy1
      go_wp2_with fail
      refine (of_txt u6 _ v1 HT4.out (by rw [List.length_map]; omega)).mono ?_
      rintro e v2 ⟨o2, rfl, ht2, hy2⟩
      rw [HS.out] at ht2
      have HT5 := Lib.hid (HT3.out.ext hy2)
      have HX4 := Lib.hid (HX3.out.trans hy2)
      have hDl := length_norm_le ((L.filter so).map (·.dst))
      have hSl := length_norm_le ((L.filter so).map (·.src))
      have hpk := pick_all L so HOK.out
      have hml := List.length_filter_le so L
      rw [List.length_map] at hDl hSl
      obtain ⟨b', c0', hlk⟩ := graph_lookup HG.out
      have hok := HOK.out
      have hdk : ∀ d ∈ norm ((L.filter so).map (·.dst)), d.size ≤ 9223372036854775807 := by
        intro d hd
        rw [mem_norm, List.mem_map] at hd
        obtain ⟨q, hq, rfl⟩ := hd
        have := hok.right q (List.mem_filter.1 hq).1
        simp [rightR, keyR] at this
        omega
      generalize norm ((L.filter so).map (·.dst)) = D at *
      generalize norm ((L.filter so).map (·.src)) = S at *
      have HDK := Lib.hid hdk
      obtain rfl : b' = b := by rw [c0] at c0'; simpa using c0'.symm
      have HLK := Lib.hid hlk
      obtain ⟨A1, n1, e1, rfl, g1, g2, g3, g4⟩ := HT5.out
      obtain ⟨A2, n2, e2, rfl, k1, k2, k3, k4⟩ := ht2
      have HR3 := Lib.hid g4
      have HR4 := Lib.hid k4
      have HPK := Lib.hid hpk
      have HN1 := Lib.hid g1
      have HN2 := Lib.hid k1
      clear hy2 hpk hlk c0' g4 k4 g1 k1 HT3 HT4 HT5 HT1 HT2 HX2 HX3 hdk hok HD HS
      obtain ⟨i1, hi1, hz3, hz4, hz5⟩ := info_parts Try.ruleInfo
      have hb1 : n1 ≤ 100000 := by rw [← HN1.out]; omega
      have hb2 : n2 ≤ 100000 := by rw [← HN2.out]; omega
      clear hDl hSl hml hfl hdl
      go_wp2_with fail
      go_loopw [9, 43] (fun o i wt => ∃ k : Nat, k ≤ n2 ∧ i = .int .i64 (k : Int) ∧ wt.ownsRow v2.heap.size 31 5 o (outA L D S k).length ((outA L D S k).flatMap ruleC) ∧ Ext v2 wt) (fun _ i _ => n2 - (intOf i).toNat)
      case atStart => exact ⟨0, by omega, rfl, World.ownsRow_nil _ _ _ _, Ext.refl _⟩
      case round =>
        obtain ⟨k, hk, rfl, hown, hext⟩ := hrel
        by_cases hkn : k < n2
        · obtain ⟨s, hs⟩ : ∃ s, S[k]? = some s := ⟨_, List.getElem?_eq_getElem (by have := HN2.out; omega)⟩
          obtain ⟨ad2, rfl, hcs⟩ := HR4.out.some_ (by rw [List.length_map]; have := HN2.out; omega)
          have c2 := Ext.cell hext (hcs k (.string s) (by rw [List.getElem?_map, hs]; rfl))
          have HS := Lib.hid hs
          have HO := Lib.hid hown
          have HE := Lib.hid hext
          clear hs hown hext
          go_wp2_with fail
          clear c2
          go_loopw [9, 49] (fun o j wu => ∃ m : Nat, m ≤ n1 ∧ j = .int .i64 (m : Int) ∧ wu.ownsRow v2.heap.size 31 5 o (outB L D S k s m).length ((outB L D S k s m).flatMap ruleC) ∧ Ext v2 wu) (fun _ j _ => n1 - (intOf j).toNat)
          case atStart => exact ⟨0, by omega, rfl, by rw [outB_zero]; exact HO.out, HE.out⟩
          case round =>
            obtain ⟨m, hm, rfl, hown2, hext2⟩ := hrel
            by_cases hmn : m < n1
            · obtain ⟨d, hd⟩ : ∃ d, D[m]? = some d := ⟨_, List.getElem?_eq_getElem (by have := HN1.out; omega)⟩
              obtain ⟨ad1, rfl, hcd⟩ := HR3.out.some_ (by rw [List.length_map]; have := HN1.out; omega)
              have c1 := Ext.cell hext2 (hcd m (.string d) (by rw [List.getElem?_map, hd]; rfl))
              have cr := Ext.cell (HX4.out.trans hext2) c0
              have hl := (HLK.out d (HDK.out d (List.mem_of_getElem? hd)) _ (HX4.out.trans hext2)).2
              have hY := outB_yes L D S k s d m hd
              have hZ := outB_no L D S k s d m hd
              have hbl := outB_len L D S k s m
              have hkd : k * D.length ≤ 100000 * 100000 := Nat.mul_le_mul (by omega) (by have := HN1.out; omega)
              have HO2 := Lib.hid hown2
              have HE2 := Lib.hid hext2
              clear hown2 hext2 hcd
              generalize intoV L d = q at *
              obtain ⟨qs, qd, qk, qz, qa⟩ := q
              simp only [ruleV] at hl
              have hfd := Try.fieldSrc (.string qs) (.string qd) (.int .i64 qk) (.int .i64 qz) (.int .i64 qa)
              by_cases hqs : qs = s
              · have hq2 : (qs.toList == s.toList) = true := by simp [hqs]
                have HY := Lib.hid (hY hqs)
                clear hY hZ hqs
                go_wp2_with (first
                  | (at_builtin
                     refine app_row ruleC_len ruleC_one _ rfl (.tmp 62) (.tmp 69) 51 31 rfl i1 (.agg #[.string ByteArray.empty, .string ByteArray.empty, .int .i64 0, .int .i64 0, .int .i64 0]) 56 Try.underlying51 hi1 hz3 hz4 hz5 rfl (by decide) (by decide) v2.heap.size _ (outB L D S k s m) rfl (by exact World.ownsRow.alloc HO2.out _) (Nat.le_trans HE2.out.size (Ext.alloc _ _).size) _ 1 1 [(⟨qs, qd, qk, qz, qa⟩ : Rule)] rfl rfl (by exact Rd.new _ #[_, _, _, _, _] 31) (by simp only [List.length_singleton]; omega) ?_
                     intro v7 w7 hown7 hchg7
                     have hext7 := ((Chg.of_ext (HE2.out.trans (Ext.alloc _ _))).trans hchg7).to_ext (Nat.le_refl _)
                     clear hchg7
                     ))
                go_roundw
                case rel => exact ⟨m + 1, by omega, by go_num, by rw [HY.out]; exact hown7, hext7⟩
                case measure => simp [intOf]; omega
              · have hq2 : (qs.toList == s.toList) = false := by rw [beq_eq_false_iff_ne]; exact fun e => hqs (text_ext e)
                have HZ := Lib.hid (hZ hqs)
                clear hY hZ hqs
                go_wp2_with fail
                go_roundw
                case rel => exact ⟨m + 1, by omega, by go_num, by rw [HZ.out]; exact HO2.out, HE2.out⟩
                case measure => simp [intOf]; omega
            · obtain rfl : m = n1 := by omega
              have hen := outB_end L D S k s HS.out
              rw [HN1.out] at hen
              rw [hen] at hown2
              have HO2 := Lib.hid hown2
              clear hown2 hen
              go_wp2_with fail
              go_roundw
              case rel => exact ⟨k + 1, by omega, by go_num, HO2.out, hext2⟩
              case measure => simp [intOf]; omega
        · obtain rfl : k = n2 := by omega
          have hpk := HPK.out
          rw [HN2.out] at hpk
          rw [hpk] at hown
          have HO := Lib.hid hown
          clear hown hpk
          go_wp2_with fail
          go_ret
          exact ⟨_, rfl, own_row HO.out, HX4.out.trans hext⟩
    · have hxm : x ∈ L.map entR := hperm.mem_iff.1 (List.mem_append_right _ (hpx.mem_iff.2 (by simp)))
      obtain ⟨q, hq, rfl⟩ := List.mem_map.1 hxm
      obtain ⟨qs, qd, qk, qz, qa⟩ := q
      simp only [entR, ruleV] at hn hen
      have HQ := Lib.hid hq
      have HPX := Lib.hid hpx
      have hin2 := hinv.step hkn hrn hr0
      have HI2 := Lib.hid (hin2.later (Ext.alloc wn (.cells #[.string qs, .string qd, .int .i64 qk, .int .i64 qz, .int .i64 qa] 31)))
      have hlen' : rest'.length < gk := by rw [← hrl, hpx.length_eq]; simp
      have hp2 : ((dn ++ [(⟨qs, qd, qk, qz, qa⟩ : Rule)]).map entR ++ rest').Perm (L.map entR) := by
        refine List.Perm.trans ?_ hperm
        rw [List.map_append, List.append_assoc]
        exact List.Perm.append_left _ hpx.symm
      have HP2 := Lib.hid hp2
      have hdl : dn.length ≤ 100000 := by
        have := hperm.length_eq
        simp at this
        omega
      have hcc : (wn.alloc (.cells #[.string qs, .string qd, .int .i64 qk, .int .i64 qz, .int .i64 qa] 31)).cell? ⟨wn.heap.size, 0, none⟩ = some (.string qs) := heap_cell (heap_alloc_new wn _) 0
      have HCC := Lib.hid hcc
      have hO5 : ∀ k, u5.ownBlock = some k → k ≠ wn.heap.size := fun k hk => Nat.ne_of_lt (own_lt hin2.own1 k hk).1
      have hO6 : ∀ k, u6.ownBlock = some k → k ≠ wn.heap.size := fun k hk => Nat.ne_of_lt (own_lt hin2.own2 k hk).1
      clear hrl hperm hinv hxm hq hpx hrn hkn hin2 hp2 hcc HPE HIN HRL
      cases hsq : so ⟨qs, qd, qk, qz, qa⟩ with
      | false =>
        have HS := Lib.hid hsq
        have hflt : (dn ++ [(⟨qs, qd, qk, qz, qa⟩ : Rule)]).filter so = dn.filter so := by rw [List.filter_append]; simp [hsq]
        have HF := Lib.hid hflt
        clear hsq hflt
        go_wp2_with fail
        refine (HSO.out ⟨qs, qd, qk, qz, qa⟩ _ HI2.out.ext).mono ?_
        rintro e v1 ⟨rfl, hx2⟩
        rw [HS.out]
        have HX2 := Lib.hid hx2
        clear hx2
        go_wp2_with fail
        go_roundg rest'.length
        case rel => exact ⟨dn ++ [⟨qs, qd, qk, qz, qa⟩], rest', rfl, HP2.out, by rw [HF.out]; exact HI2.out.later HX2.out⟩
        case measure => exact hlen'
      | true =>
        have HS := Lib.hid hsq
        have hflt : (dn ++ [(⟨qs, qd, qk, qz, qa⟩ : Rule)]).filter so = dn.filter so ++ [⟨qs, qd, qk, qz, qa⟩] := by rw [List.filter_append]; simp [hsq]
        have HF := Lib.hid hflt
        clear hsq hflt
        go_wp2_with fail
        refine (HSO.out ⟨qs, qd, qk, qz, qa⟩ _ HI2.out.ext).mono ?_
        rintro e v1 ⟨rfl, hx2⟩
        rw [HS.out]
        have HI3 := Lib.hid (HI2.out.later hx2)
        have c8 := hx2.cell HCC.out
        clear hx2
        go_wp2_with fail
        have hz1' : v1.drew.heap.size = v1.heap.size := rfl
        refine wp_region_held_drew (S := fun w' => w'.cell? ⟨wn.heap.size, 0, none⟩ = some (.string qs)) (by kernel_rfl) c8 (fun hHeld => ?_)
        refine' wpAnyH_take (i := 0) (oi := _) (v := _) ?hi1 ?hs1 ?hf1 ?hr1 ?hQ1 (Or.inl ⟨?hw1, ?hy1⟩) (by assumption) ?hrest1
        case hi1 => simp only [List.getElem?_toArray]; rfl
        case hs1 => kernel_rfl
        case hf1 => kernel_rfl
        case hr1 => kernel_rfl
        case hQ1 => exact fun _ _ _ h => h
        case hw1 => rfl
        case hy1 => intro w hSw; (try dsimp only at hSw); go_simp; try with_reducible rfl
        try simp only [Act.put, List.setIfInBounds_toArray, List.set_cons_zero, List.set_cons_succ]
        refine' wpAnyH_take (i := 1) (oi := _) (v := _) ?hi2 ?hs2 ?hf2 ?hr2 ?hQ2 (Or.inl ⟨?hw2, ?hy2⟩) (by assumption) ?hrest2
        case hi2 => simp only [List.getElem?_toArray]; rfl
        case hs2 => kernel_rfl
        case hf2 => kernel_rfl
        case hr2 => kernel_rfl
        case hQ2 => exact fun _ _ _ h => h
        case hw2 => rfl
        case hy2 => intro w hSw; (try dsimp only at hSw); go_simp; try with_reducible rfl
        try simp only [Act.put, List.setIfInBounds_toArray, List.set_cons_zero, List.set_cons_succ]
        refine' wpAnyH_take (i := 4) (oi := _) (v := _) ?hi3 ?hs3 ?hf3 ?hr3 ?hQ3 (Or.inl ⟨?hw3, ?hy3⟩) (by assumption) ?hrest3
        case hi3 => simp only [List.getElem?_toArray]; rfl
        case hs3 => kernel_rfl
        case hf3 => kernel_rfl
        case hr3 => kernel_rfl
        case hQ3 => exact fun _ _ _ h => h
        case hw3 => rfl
        case hy3 => intro w hSw; (try dsimp only at hSw); go_simp; try with_reducible rfl
        try simp only [Act.put, List.setIfInBounds_toArray, List.set_cons_zero, List.set_cons_succ]
        refine' wpAnyH_take (i := 5) (oi := _) (v := _) ?hi4 ?hs4 ?hf4 ?hr4 ?hQ4 (Or.inl ⟨?hw4, ?hy4⟩) (by assumption) ?hrest4
        case hi4 => simp only [List.getElem?_toArray]; rfl
        case hs4 => kernel_rfl
        case hf4 => kernel_rfl
        case hr4 => kernel_rfl
        case hQ4 => exact fun _ _ _ h => h
        case hw4 => rfl
        case hy4 => intro w hSw; (try dsimp only at hSw); go_simp; try with_reducible rfl
        try simp only [Act.put, List.setIfInBounds_toArray, List.set_cons_zero, List.set_cons_succ]
        refine' wpAnyH_take (i := 6) (oi := _) (v := _) ?hi5 ?hs5 ?hf5 ?hr5 ?hQ5 (Or.inl ⟨?hw5, ?hy5⟩) (by assumption) ?hrest5
        case hi5 => simp only [List.getElem?_toArray]; rfl
        case hs5 => kernel_rfl
        case hf5 => kernel_rfl
        case hr5 => kernel_rfl
        case hQ5 => exact fun _ _ _ h => h
        case hw5 => rfl
        case hy5 => intro w hSw; (try dsimp only at hSw); go_simp; try with_reducible rfl
        try simp only [Act.put, List.setIfInBounds_toArray, List.set_cons_zero, List.set_cons_succ]
        have hb5 : ∀ k, u5.ownBlock = some k → k < v1.heap.size := fun k hk => (own_lt HI3.out.own1 k hk).1
        have hb6 : ∀ k, u6.ownBlock = some k → k < v1.heap.size := fun k hk => (own_lt HI3.out.own2 k hk).1
        refine wpAnyH_ready (rs := [2, 7]) (by kernel_rfl) (by simp) ?_
        refine' AllReadyH.cons (o := _) ?ho6a (fun K hK => ?hst6a) (AllReadyH.cons (o := _) ?ho6b (fun K hK => ?hst6b) AllReadyH.nil)
        case ho6a => simp only [List.getElem?_toArray]; rfl
        case ho6b => simp only [List.getElem?_toArray]; rfl
        · go_simp
          have hx4 : Ext v1 (v1.alloc (.cells #[.string qd] 9)).drew := (Ext.alloc v1 _).trans (Ext.drew _)
          have c9 := hx4.cell c8
          have HI5 := Lib.hid (HI3.out.later hx4)
          have RD5 : Rd (v1.alloc (.cells #[.string qd] 9)).drew (some ⟨v1.heap.size, 0, none⟩) [.string qd] := new_one v1 qd _ rfl
          refine hK.out _ _ (c9) (fun hHeld => ?_)
          clear hK K
          try simp only [Act.put, List.setIfInBounds_toArray, List.set_cons_zero, List.set_cons_succ]
          refine wpAnyH_ready (rs := [3, 7]) (by kernel_rfl) (by simp) ?_
          refine' AllReadyH.cons (o := _) ?ho8a (fun K hK => ?hst8a) (AllReadyH.cons (o := _) ?ho8b (fun K hK => ?hst8b) AllReadyH.nil)
          case ho8a => simp only [List.getElem?_toArray]; rfl
          case ho8b => simp only [List.getElem?_toArray]; rfl
          · refine step_append_rd _ rfl (.tmp 29) (.tmp 31) 70 rfl w.heap.size 9 i0 (.string ByteArray.empty) 1 16 Try.underlying70 hi0 hz0 hz1 hz2 rfl (by decide) u5 _ _ rfl HI5.out.own1 (some ⟨v1.heap.size, 0, none⟩) 1 1 [.string qd] rfl rfl RD5 (one_str _) (by rw [List.length_map]; have := List.length_filter_le so dn; simp only [maxLen]; omega) (by rw [List.length_map]; have := List.length_filter_le so dn; omega) HI5.out.ext.size ?_
            intro v6 w6 happ
            have hok : wn.heap.size ∉ u5.ownBlock.toList := fun hm => hO5 _ (by simpa using hm) rfl
            have c10 := (app_kp happ HI5.out.own1).cell c9 hok
            have HI6 := Lib.hid (HI5.out.app1 happ)
            refine hK.out _ _ (c10) (fun hHeld => ?_)
            clear hK K
            try simp only [Act.put, List.setIfInBounds_toArray, List.set_cons_zero, List.set_cons_succ]
            refine wpAnyH_ready (rs := [7]) (by kernel_rfl) (by simp) ?_
            refine' AllReadyH.cons (o := _) ?ho11 (fun K hK => ?hstep11) AllReadyH.nil
            case ho11 => simp only [List.getElem?_toArray]; rfl
            go_simp
            have HI7 := Lib.hid (HI6.out.later (Ext.alloc w6 (.cells #[.string qs] 9)))
            have c11 := (Ext.alloc w6 (.cells #[.string qs] 9)).cell c10
            refine hK.out _ _ (c11) (fun hHeld => ?_)
            clear hK K
            try simp only [Act.put, List.setIfInBounds_toArray, List.set_cons_zero, List.set_cons_succ]
            refine wpAnyH_ready (rs := [8]) (by kernel_rfl) (by simp) ?_
            refine' AllReadyH.cons (o := _) ?ho13 (fun K hK => ?hstep13) AllReadyH.nil
            case ho13 => simp only [List.getElem?_toArray]; rfl
            refine step_append_rd _ rfl (.tmp 33) (.tmp 36) 70 rfl w.heap.size 9 i0 (.string ByteArray.empty) 1 16 Try.underlying70 hi0 hz0 hz1 hz2 rfl (by decide) u6 _ _ rfl HI7.out.own2 (some ⟨w6.heap.size, 0, none⟩) 1 1 [.string qs] rfl rfl (new_one w6 qs _ rfl) (one_str _) (by rw [List.length_map]; have := List.length_filter_le so dn; simp only [maxLen]; omega) (by rw [List.length_map]; have := List.length_filter_le so dn; omega) HI7.out.ext.size ?_
            intro v7 w7 happ2
            have HI8 := Lib.hid (HI7.out.app2 happ2)
            have hok2 : wn.heap.size ∉ u6.ownBlock.toList := fun hm => hO6 _ (by simpa using hm) rfl
            have c12 := (app_kp happ2 HI7.out.own2).cell c11 hok2
            clear happ happ2 hok hok2
            refine hK.out _ _ (c12) (fun hHeld => ?_)
            clear hK K
            try simp only [Act.put, List.setIfInBounds_toArray, List.set_cons_zero, List.set_cons_succ]
            clear hHeld
            refine' wpAnyH_take (i := 9) (oi := _) (v := _) ?hi35 ?hs35 ?hf35 ?hr35 ?hQ35 (Or.inl ⟨?hw35, ?hy35⟩) (by assumption) ?hrest35
            case hi35 => simp only [List.getElem?_toArray]; rfl
            case hs35 => kernel_rfl
            case hf35 => kernel_rfl
            case hr35 => kernel_rfl
            case hQ35 => exact fun _ _ _ h => h
            case hw35 => rfl
            case hy35 => intro w hSw; (try dsimp only at hSw); go_simp; try with_reducible rfl
            try simp only [Act.put, List.setIfInBounds_toArray, List.set_cons_zero, List.set_cons_succ]
            refine' wpAnyH_take (i := 10) (oi := _) (v := _) ?hi36 ?hs36 ?hf36 ?hr36 ?hQ36 (Or.inl ⟨?hw36, ?hy36⟩) (by assumption) ?hrest36
            case hi36 => simp only [List.getElem?_toArray]; rfl
            case hs36 => kernel_rfl
            case hf36 => kernel_rfl
            case hr36 => kernel_rfl
            case hQ36 => exact fun _ _ _ h => h
            case hw36 => rfl
            case hy36 => intro w hSw; (try dsimp only at hSw); go_simp; try with_reducible rfl
            try simp only [Act.put, List.setIfInBounds_toArray, List.set_cons_zero, List.set_cons_succ]
            refine wpAnyH_done (by kernel_rfl) ?_ _
            go_wp2_with fail
            go_roundg rest'.length
            case rel => exact ⟨dn ++ [⟨qs, qd, qk, qz, qa⟩], rest', rfl, HP2.out, by rw [HF.out, List.map_append, List.map_append]; exact HI8.out⟩
            case measure => exact hlen'
          · go_simp
            have hx5 : Ext v1 ((v1.alloc (.cells #[.string qd] 9)).alloc (.cells #[.string qs] 9)).drew := ((Ext.alloc v1 _).trans (Ext.alloc _ _)).trans (Ext.drew _)
            have c10 := hx5.cell c8
            have HI6 := Lib.hid (HI3.out.later hx5)
            have RD6 : Rd ((v1.alloc (.cells #[.string qd] 9)).alloc (.cells #[.string qs] 9)).drew (some ⟨v1.heap.size, 0, none⟩) [.string qd] := (new_one v1 qd _ rfl).alloc _
            have RD7 : Rd ((v1.alloc (.cells #[.string qd] 9)).alloc (.cells #[.string qs] 9)).drew (some ⟨v1.heap.size + 1, 0, none⟩) [.string qs] := new_one (v1.alloc (.cells #[.string qd] 9)) qs _ (by simp)
            refine hK.out _ _ (c10) (fun hHeld => ?_)
            clear hK K
            try simp only [Act.put, List.setIfInBounds_toArray, List.set_cons_zero, List.set_cons_succ]
            refine wpAnyH_ready (rs := [3]) (by kernel_rfl) (by simp) ?_
            refine' AllReadyH.cons (o := _) ?ho18 (fun K hK => ?hstep18) AllReadyH.nil
            case ho18 => simp only [List.getElem?_toArray]; rfl
            refine step_append_rd _ rfl (.tmp 29) (.tmp 31) 70 rfl w.heap.size 9 i0 (.string ByteArray.empty) 1 16 Try.underlying70 hi0 hz0 hz1 hz2 rfl (by decide) u5 _ _ rfl HI6.out.own1 (some ⟨v1.heap.size, 0, none⟩) 1 1 [.string qd] rfl rfl RD6 (one_str _) (by rw [List.length_map]; have := List.length_filter_le so dn; simp only [maxLen]; omega) (by rw [List.length_map]; have := List.length_filter_le so dn; omega) HI6.out.ext.size ?_
            intro v6 w6 happ
            have hok : wn.heap.size ∉ u5.ownBlock.toList := fun hm => hO5 _ (by simpa using hm) rfl
            have c11 := (app_kp happ HI6.out.own1).cell c10 hok
            have RD8 := rd_app happ HI6.out.own1 RD7 (fun k hk => by have := hb5 k hk; omega)
            have HI7 := Lib.hid (HI6.out.app1 happ)
            refine hK.out _ _ (c11) (fun hHeld => ?_)
            clear hK K
            try simp only [Act.put, List.setIfInBounds_toArray, List.set_cons_zero, List.set_cons_succ]
            refine wpAnyH_ready (rs := [8]) (by kernel_rfl) (by simp) ?_
            refine' AllReadyH.cons (o := _) ?ho21 (fun K hK => ?hstep21) AllReadyH.nil
            case ho21 => simp only [List.getElem?_toArray]; rfl
            refine step_append_rd _ rfl (.tmp 33) (.tmp 36) 70 rfl w.heap.size 9 i0 (.string ByteArray.empty) 1 16 Try.underlying70 hi0 hz0 hz1 hz2 rfl (by decide) u6 _ _ rfl HI7.out.own2 (some ⟨v1.heap.size + 1, 0, none⟩) 1 1 [.string qs] rfl rfl RD8 (one_str _) (by rw [List.length_map]; have := List.length_filter_le so dn; simp only [maxLen]; omega) (by rw [List.length_map]; have := List.length_filter_le so dn; omega) HI7.out.ext.size ?_
            intro v7 w7 happ2
            have HI8 := Lib.hid (HI7.out.app2 happ2)
            have hok2 : wn.heap.size ∉ u6.ownBlock.toList := fun hm => hO6 _ (by simpa using hm) rfl
            have c12 := (app_kp happ2 HI7.out.own2).cell c11 hok2
            clear happ happ2 hok hok2
            refine hK.out _ _ (c12) (fun hHeld => ?_)
            clear hK K
            try simp only [Act.put, List.setIfInBounds_toArray, List.set_cons_zero, List.set_cons_succ]
            clear hHeld
            refine' wpAnyH_take (i := 9) (oi := _) (v := _) ?hi38 ?hs38 ?hf38 ?hr38 ?hQ38 (Or.inl ⟨?hw38, ?hy38⟩) (by assumption) ?hrest38
            case hi38 => simp only [List.getElem?_toArray]; rfl
            case hs38 => kernel_rfl
            case hf38 => kernel_rfl
            case hr38 => kernel_rfl
            case hQ38 => exact fun _ _ _ h => h
            case hw38 => rfl
            case hy38 => intro w hSw; (try dsimp only at hSw); go_simp; try with_reducible rfl
            try simp only [Act.put, List.setIfInBounds_toArray, List.set_cons_zero, List.set_cons_succ]
            refine' wpAnyH_take (i := 10) (oi := _) (v := _) ?hi39 ?hs39 ?hf39 ?hr39 ?hQ39 (Or.inl ⟨?hw39, ?hy39⟩) (by assumption) ?hrest39
            case hi39 => simp only [List.getElem?_toArray]; rfl
            case hs39 => kernel_rfl
            case hf39 => kernel_rfl
            case hr39 => kernel_rfl
            case hQ39 => exact fun _ _ _ h => h
            case hw39 => rfl
            case hy39 => intro w hSw; (try dsimp only at hSw); go_simp; try with_reducible rfl
            try simp only [Act.put, List.setIfInBounds_toArray, List.set_cons_zero, List.set_cons_succ]
            refine wpAnyH_done (by kernel_rfl) ?_ _
            go_wp2_with fail
            go_roundg rest'.length
            case rel => exact ⟨dn ++ [⟨qs, qd, qk, qz, qa⟩], rest', rfl, HP2.out, by rw [HF.out, List.map_append, List.map_append]; exact HI8.out⟩
            case measure => exact hlen'
        · go_simp
          have hx4 : Ext v1 (v1.alloc (.cells #[.string qs] 9)).drew := (Ext.alloc v1 _).trans (Ext.drew _)
          have c9 := hx4.cell c8
          refine hK.out _ _ (c9) (fun hHeld => ?_)
          clear hK K
          try simp only [Act.put, List.setIfInBounds_toArray, List.set_cons_zero, List.set_cons_succ]
          refine wpAnyH_ready (rs := [2]) (by kernel_rfl) (by simp) ?_
          refine' AllReadyH.cons (o := _) ?ho26 (fun K hK => ?hstep26) AllReadyH.nil
          case ho26 => simp only [List.getElem?_toArray]; rfl
          go_simp
          have hx5 : Ext v1 ((v1.alloc (.cells #[.string qs] 9)).alloc (.cells #[.string qd] 9)).drew := ((Ext.alloc v1 _).trans (Ext.alloc _ _)).trans (Ext.drew _)
          have c10 := hx5.cell c8
          have HI6 := Lib.hid (HI3.out.later hx5)
          have RD7 : Rd ((v1.alloc (.cells #[.string qs] 9)).alloc (.cells #[.string qd] 9)).drew (some ⟨v1.heap.size, 0, none⟩) [.string qs] := (new_one v1 qs _ rfl).alloc _
          have RD6 : Rd ((v1.alloc (.cells #[.string qs] 9)).alloc (.cells #[.string qd] 9)).drew (some ⟨v1.heap.size + 1, 0, none⟩) [.string qd] := new_one (v1.alloc (.cells #[.string qs] 9)) qd _ (by simp)
          refine hK.out _ _ (c10) (fun hHeld => ?_)
          clear hK K
          try simp only [Act.put, List.setIfInBounds_toArray, List.set_cons_zero, List.set_cons_succ]
          refine wpAnyH_ready (rs := [3]) (by kernel_rfl) (by simp) ?_
          refine' AllReadyH.cons (o := _) ?ho28 (fun K hK => ?hstep28) AllReadyH.nil
          case ho28 => simp only [List.getElem?_toArray]; rfl
          refine step_append_rd _ rfl (.tmp 29) (.tmp 31) 70 rfl w.heap.size 9 i0 (.string ByteArray.empty) 1 16 Try.underlying70 hi0 hz0 hz1 hz2 rfl (by decide) u5 _ _ rfl HI6.out.own1 (some ⟨v1.heap.size + 1, 0, none⟩) 1 1 [.string qd] rfl rfl RD6 (one_str _) (by rw [List.length_map]; have := List.length_filter_le so dn; simp only [maxLen]; omega) (by rw [List.length_map]; have := List.length_filter_le so dn; omega) HI6.out.ext.size ?_
          intro v6 w6 happ
          have hok : wn.heap.size ∉ u5.ownBlock.toList := fun hm => hO5 _ (by simpa using hm) rfl
          have c11 := (app_kp happ HI6.out.own1).cell c10 hok
          have RD8 := rd_app happ HI6.out.own1 RD7 (fun k hk => by have := hb5 k hk; omega)
          have HI7 := Lib.hid (HI6.out.app1 happ)
          refine hK.out _ _ (c11) (fun hHeld => ?_)
          clear hK K
          try simp only [Act.put, List.setIfInBounds_toArray, List.set_cons_zero, List.set_cons_succ]
          refine wpAnyH_ready (rs := [8]) (by kernel_rfl) (by simp) ?_
          refine' AllReadyH.cons (o := _) ?ho31 (fun K hK => ?hstep31) AllReadyH.nil
          case ho31 => simp only [List.getElem?_toArray]; rfl
          refine step_append_rd _ rfl (.tmp 33) (.tmp 36) 70 rfl w.heap.size 9 i0 (.string ByteArray.empty) 1 16 Try.underlying70 hi0 hz0 hz1 hz2 rfl (by decide) u6 _ _ rfl HI7.out.own2 (some ⟨v1.heap.size, 0, none⟩) 1 1 [.string qs] rfl rfl RD8 (one_str _) (by rw [List.length_map]; have := List.length_filter_le so dn; simp only [maxLen]; omega) (by rw [List.length_map]; have := List.length_filter_le so dn; omega) HI7.out.ext.size ?_
          intro v7 w7 happ2
          have HI8 := Lib.hid (HI7.out.app2 happ2)
          have hok2 : wn.heap.size ∉ u6.ownBlock.toList := fun hm => hO6 _ (by simpa using hm) rfl
          have c12 := (app_kp happ2 HI7.out.own2).cell c11 hok2
          clear happ happ2 hok hok2
          refine hK.out _ _ (c12) (fun hHeld => ?_)
          clear hK K
          try simp only [Act.put, List.setIfInBounds_toArray, List.set_cons_zero, List.set_cons_succ]
          clear hHeld
          refine' wpAnyH_take (i := 9) (oi := _) (v := _) ?hi41 ?hs41 ?hf41 ?hr41 ?hQ41 (Or.inl ⟨?hw41, ?hy41⟩) (by assumption) ?hrest41
          case hi41 => simp only [List.getElem?_toArray]; rfl
          case hs41 => kernel_rfl
          case hf41 => kernel_rfl
          case hr41 => kernel_rfl
          case hQ41 => exact fun _ _ _ h => h
          case hw41 => rfl
          case hy41 => intro w hSw; (try dsimp only at hSw); go_simp; try with_reducible rfl
          try simp only [Act.put, List.setIfInBounds_toArray, List.set_cons_zero, List.set_cons_succ]
          refine' wpAnyH_take (i := 10) (oi := _) (v := _) ?hi42 ?hs42 ?hf42 ?hr42 ?hQ42 (Or.inl ⟨?hw42, ?hy42⟩) (by assumption) ?hrest42
          case hi42 => simp only [List.getElem?_toArray]; rfl
          case hs42 => kernel_rfl
          case hf42 => kernel_rfl
          case hr42 => kernel_rfl
          case hQ42 => exact fun _ _ _ h => h
          case hw42 => rfl
          case hy42 => intro w hSw; (try dsimp only at hSw); go_simp; try with_reducible rfl
          try simp only [Act.put, List.setIfInBounds_toArray, List.set_cons_zero, List.set_cons_succ]
          refine wpAnyH_done (by kernel_rfl) ?_ _
          go_wp2_with fail
          go_roundg rest'.length
          case rel => exact ⟨dn ++ [⟨qs, qd, qk, qz, qa⟩], rest', rfl, HP2.out, by rw [HF.out, List.map_append, List.map_append]; exact HI8.out⟩
          case measure => exact hlen'
end Go.Proofs.Ytdahdghphjlmfaa
