/- The document's answer: commands read, all of them. -/
import Derived.Test.YtdbboooblbdihaaRspO
import Derived.Test.YtdbboooblbdihaaRow
namespace Go.Proofs.Ytdbboooblbdihaa
open Go.RowKit
set_option linter.unusedVariables false
set_option linter.unusedSectionVars false
set_option linter.unusedSimpArgs false
set_option maxRecDepth 100000


theorem suf_drop {l l' p : List UInt8} (h : l = p ++ l') : l.drop (l.length - l'.length) = l' := by
  rw [h, List.length_append]
  exact List.drop_left' (by omega)
theorem word_er0 {l : List UInt8} {c : Int} (h : wordP l = .er c) : ¬ c = 0 := by have := word_er h; omega
/-- What the document's command tells. -/
def RCmdOut (l : List UInt8) (w : World) (res : Pr (List ByteArray)) (e : Ending) (w' : World) : Prop :=
  Ext w w' ∧ match res with
    | .ok ws l' => ∃ v, e = .returned (.tuple #[v, .int .i64 ((l.length - l'.length : Nat) : Int), .int .i64 0]) ∧ Own w w' v ws
    | .er c => e = .returned (.tuple #[.slice none 0 0, .int .i64 0, .int .i64 c])
set_option maxHeartbeats 2000000 in
theorem rcmd_any (s : ByteArray) (w : World) (hz : s.size ≤ 1000000000) : Calls Try.prog 33 #[.string s] w (RCmdOut s.toList w (cmdP s.toList)) := by
  obtain ⟨F, hF⟩ : ∃ F, cmdP s.toList = F := ⟨_, rfl⟩
  rw [hF]
  have HN := Lib.hid (rnum_any s 42 64 w hz)
  cases hc : lineP 42 64 s.toList with
  | er c =>
    have hf : F = .er c := by rw [← hF]; simp only [cmdP, hc, Pr.bind]
    have hc0 : (c != 0) = true := by have := line_er0 hc; simpa [bne] using this
    rw [hc] at HN
    unfold tupN at HN
    subst hf
    clear hF hc
    go_enter Try.func33, Try.ntmps33
    go_wp2_with fail
    refine HN.out.mono ?_
    rintro e _ ⟨rfl, rfl⟩
    go_wp2_with fail
    go_ret3
    exact ⟨Ext.refl _, rfl⟩
  | ok n l1 =>
    obtain ⟨N, rfl, hN1, hN2, hl1⟩ := line_inv hc
    have hf : wordsA N [] l1 = F := by rw [← hF]; simp only [cmdP, hc, Pr.bind]; rfl
    rw [hc] at HN
    unfold tupN at HN
    dsimp only at HN
    have hln := line_len hc
    rw [size_list] at hln
    have hdk := suf_drop hl1
    obtain ⟨k, hk⟩ : ∃ k, k = s.toList.length - l1.length := ⟨_, rfl⟩
    rw [← hk] at HN hdk
    rw [size_list] at hk
    have hks : k ≤ s.size := by omega
    have hN64 : N ≤ 64 := by omega
    have HW : Hid (wordsA N [] (s.toList.drop k) = F) := Lib.hid (by rw [hdk]; exact hf)
    clear hF hc hl1 hdk hf hN1 hN2 hk hln
    go_enter Try.func33, Try.ntmps33
    go_wp2_with fail
    refine HN.out.mono ?_
    rintro e _ ⟨rfl, rfl⟩
    clear HN
    go_wp2_with fail
    go_loopw [6, 8, 9] (fun av ov iv wr => ∃ (i a : Nat) (out : List ByteArray), i ≤ N ∧ out.length = i ∧ a ≤ s.size ∧ av = .int .i64 (a : Int) ∧ iv = .int .i64 (i : Int) ∧ Own w wr ov out ∧ wordsA (N - i) out (s.toList.drop a) = F ∧ Ext w wr) (fun _ _ iv _ => N - (intOf iv).toNat)
    case atStart => exact ⟨0, k, [], by omega, rfl, hks, rfl, rfl, Own.nil _ _, HW.out, Ext.refl _⟩
    case round =>
      clear HW
      obtain ⟨i, a, out, hi, rfl, ha, rfl, rfl, hown, hF, hx⟩ := hrel
      have HO := Lib.hid hown
      have HX := Lib.hid hx
      have HF := Lib.hid hF
      clear hown hx hF
      by_cases hiN : out.length < N
      · have hiI : (out.length : Int) < (N : Int) := by omega
        have hsl : (0 : Int) ≤ (a : Int) ∧ (a : Int) ≤ (s.size : Int) := by omega
        obtain ⟨st, hst⟩ : ∃ st, s.extract a s.size = st := ⟨_, rfl⟩
        have hstl : st.toList = s.toList.drop a := by rw [← hst, ext_drop]
        have hstz : st.size ≤ 1000000000 := by rw [← size_list, hstl, List.length_drop, size_list]; omega
        have hsts : st.size + a = s.size := by rw [← size_list, hstl, List.length_drop, size_list]; omega
        have HRW := Lib.hid (rword_any st wr hstz)
        obtain ⟨j, hj⟩ : ∃ j, N - out.length = j + 1 := ⟨N - out.length - 1, by omega⟩
        have hf := HF.out
        rw [hj] at hf
        obtain ⟨A, c1, rfl⟩ := own_len HO.out
        cases hc : wordP st.toList with
        | er c =>
          have hff : F = .er c := by rw [← hf, ← hstl]; simp only [wordsA, hc, Pr.bind]
          have hc0 : (c != 0) = true := by have := word_er0 hc; simpa [bne] using this
          rw [hc] at HRW
          unfold tupW at HRW
          have HST := Lib.hid hstl
          have HSS := Lib.hid hsts
          subst hff
          clear hf HF hc hstl hsts
          go_wp2_with fail
          refine HRW.out.mono ?_
          rintro e _ ⟨rfl, rfl⟩
          go_wp2_with fail
          go_ret3
          exact ⟨HX.out, rfl⟩
        | ok x l2 =>
          have hff : wordsA j (out ++ [x]) l2 = F := by rw [← hf, ← hstl]; simp only [wordsA, hc, Pr.bind]
          obtain ⟨hx5, hxl⟩ := word_inv hc
          have hd2 := suf_drop hxl
          have hl2 := word_len hc
          rw [size_list] at hl2
          rw [hc] at HRW
          unfold tupW at HRW
          dsimp only at HRW
          obtain ⟨m, hm⟩ : ∃ m, m = st.toList.length - l2.length := ⟨_, rfl⟩
          rw [← hm] at HRW hd2
          rw [size_list] at hm
          have hms : a + m ≤ s.size := by omega
          have HF2 : Hid (wordsA (N - (out.length + 1)) (out ++ [x]) (s.toList.drop (a + m)) = F) := Lib.hid (by
            rw [← List.drop_drop, ← hstl, hd2, show N - (out.length + 1) = j by omega]
            exact hff)
          clear hf HF hc hstl hsts hff hd2 hxl hm hl2 hstz
          go_wp2_with fail
          refine HRW.out.mono ?_
          rintro e _ ⟨rfl, rfl⟩
          clear HRW
          go_wp2_with (first
            | (at_builtin
               refine app_strs _ rfl (.tmp 38) (.tmp 40) rfl w (.slice A out.length c1) out rfl (HO.out.ext (Ext.alloc wr _)) (some ⟨wr.heap.size, 0, none⟩) 1 1 [x] rfl rfl (by exact Rd.new wr #[.string x] 9) (by simp; omega) (HX.out.trans (Ext.alloc wr _)) ?_
               intro v' w' hown hext
               have HO2 := Lib.hid hown
               have HX2 := Lib.hid hext
               clear hown hext))
          go_roundw
          case rel => exact ⟨out.length + 1, a + m, out ++ [x], by omega, by simp, hms, by go_num, by go_num, HO2.out, HF2.out, HX2.out⟩
          case measure => simp [intOf]; omega
      · have hiI : ¬ (out.length : Int) < (N : Int) := by omega
        have hiE : N - out.length = 0 := by omega
        have hff : F = .ok out (s.toList.drop a) := by rw [← HF.out, hiE]; rfl
        subst hff
        clear HF
        have HRR : Hid (s.toList.length - (s.toList.drop a).length = a) := Lib.hid (by rw [List.length_drop, size_list]; omega)
        go_wp2_with fail
        go_ret3
        refine ⟨HX.out, _, ?_, HO.out⟩
        rw [HRR.out]
        rfl
theorem Try.rcmdInfo : (Try.prog.info? 61).map (fun i => (i.zero, i.size, i.bytes)) = some (some (.agg #[.slice none 0 0, .int .i64 0]), 2, 32) := by kernel_rfl
/-- A row of the document's commands, of the call's own. -/
def RCmdsAt (w0 w : World) (u : Value) (cs : List Cmd) : Prop := ∃ xs : List CmdE, w.ownsRow w0.heap.size 61 2 u xs.length (xs.flatMap cmdC) ∧ CmdsIn w0 w xs cs
theorem RCmdsAt.nil (w0 w : World) : RCmdsAt w0 w (.slice none 0 0) [] := ⟨[], World.ownsRow_nil _ _ _ _, rfl, by intro i x c h; simp at h⟩
theorem RCmdsAt.ext {w0 w w' : World} {u : Value} {cs : List Cmd} (h : RCmdsAt w0 w u cs) (hx : Ext w w') : RCmdsAt w0 w' u cs := by
  obtain ⟨xs, h1, h2⟩ := h
  exact ⟨xs, row_kp h1 (Kp.of_ext (L := []) hx) (by simp), h2.ext hx⟩
theorem rcmds_put {w0 w w' : World} {u u' : Value} {xs : List CmdE} {cs : List Cmd} {x : CmdE} {c : Cmd} (hin : CmdsIn w0 w xs cs) (hx : Own w0 w x.v c.ws) (he : x.e = c.e) (hown : w.ownsRow w0.heap.size 61 2 u xs.length (xs.flatMap cmdC))
    (ha : Appended w w' w0.heap.size 61 2 u u' (xs.length + 1) (xs.flatMap cmdC ++ cmdC x)) : RCmdsAt w0 w' u' (cs ++ [c]) ∧ Kp u.ownBlock.toList w w' := by
  have hk := ap_kp ha
  have hns : NoS w u.ownBlock.toList := by
    intro k hk c f hcc
    obtain ⟨c1, f1, h1⟩ := own_at hown k (by simpa using hk)
    exact blocks_ne hcc h1 (by decide) rfl
  refine ⟨⟨xs ++ [x], ?_, (hin.kp hk hns).snoc ?_ he⟩, hk⟩
  · have := ha.own
    rw [List.length_append, List.flatMap_append]
    simpa using this
  · exact own_kp hx hk (fun k hb hm => by
      obtain ⟨c', f', h3⟩ := own_at hx k hb
      exact hns k hm c' f' h3)
theorem bsv_toList (s : ByteArray) : bsv s.toList = s := bsv_of s
set_option maxHeartbeats 2000000 in
theorem read_any (s : ByteArray) (w : World) (hz : s.size ≤ 1000000000) : Calls Try.prog 13 #[.string s] w fun e w' => ∃ u, e = .returned (.tuple #[u, .string (bsv (rdAll s.toList).2.1), .bool (rdAll s.toList).2.2]) ∧ RCmdsAt w w' u (rdAll s.toList).1 ∧ Ext w w' := by
  obtain ⟨i1, hi1, hz3, hz4, hz5⟩ := info_parts Try.rcmdInfo
  obtain ⟨T, hT⟩ : ∃ T, rdAll s.toList = T := ⟨_, rfl⟩
  rw [hT]
  have HT := Lib.hid hT
  clear hT
  go_enter Try.func13, Try.ntmps13
  go_wp2_with fail
  go_loopg [0, 5] (s.size + 1) (fun gk sv ov wr => ∃ (st : ByteArray) (cs : List Cmd), gk = st.size + 1 ∧ sv = .string st ∧ cs.length + st.size ≤ s.size ∧ RCmdsAt w wr ov cs ∧ Ext w wr ∧ cs ++ (rdAll st.toList).1 = T.1 ∧ (rdAll st.toList).2 = T.2)
  case atStart => exact ⟨s, [], rfl, rfl, by simp, RCmdsAt.nil _ _, Ext.refl _, by rw [HT.out]; rfl, by rw [HT.out]⟩
  case round =>
    clear HT
    obtain ⟨st, cs, hgk, rfl, hcs, hcm, hx, hT1, hT2⟩ := hrel
    obtain ⟨xs, hown, hin⟩ := hcm
    have HIN := Lib.hid hin
    have HOW := Lib.hid hown
    have HX := Lib.hid hx
    have HT1 := Lib.hid hT1
    have HT2 := Lib.hid hT2
    have HRC := Lib.hid (rcmd_any st wr (by omega))
    have hxl : xs.length ≤ 1000000000 := by rw [hin.1]; omega
    obtain ⟨Au, cu, rfl⟩ := own_len HOW.out
    clear hown hin hx hT1 hT2
    cases hc : cmdP st.toList with
    | er c =>
      have hrd := rdAll_er hc
      have hc0 := cmd_er hc
      rw [hc] at HRC
      by_cases h3 : c = 3
      · subst h3
        rw [if_pos rfl] at hrd
        have hTT : T = (cs, st.toList, false) := by
          have e1 := HT1.out
          have e2 := HT2.out
          rw [hrd] at e1 e2
          simp at e1 e2
          exact Prod.ext e1.symm e2.symm
        subst hTT
        clear HT1 HT2 hrd hc
        go_wp2_with fail
        refine HRC.out.mono ?_
        rintro e w1 ⟨hx1, rfl⟩
        have HX1 := Lib.hid hx1
        clear hx1
        go_wp2_with fail
        go_ret3
        exact ⟨_, by rw [bsv_toList]; rfl, ⟨xs, row_kp HOW.out (Kp.of_ext (L := []) HX1.out) (by simp), HIN.out.ext HX1.out⟩, HX.out.trans HX1.out⟩
      · rw [if_neg h3] at hrd
        have h3B : (c == 3) = false := by simpa using h3
        have h0C : (c != 0) = true := by simpa [bne] using hc0
        have hTT : T = (cs ++ [⟨[], c⟩], [], true) := by
          have e1 := HT1.out
          have e2 := HT2.out
          rw [hrd] at e1 e2
          simp at e1 e2
          exact Prod.ext e1.symm e2.symm
        subst hTT
        clear HT1 HT2 hrd hc
        go_wp2_with fail
        refine HRC.out.mono ?_
        rintro e w1 ⟨hx1, rfl⟩
        have HX1 := Lib.hid hx1
        have HIN1 := Lib.hid (HIN.out.ext hx1)
        have HOW1 := Lib.hid (row_kp HOW.out (Kp.of_ext (L := []) hx1) (by simp))
        clear hx1
        go_wp2_with (first
          | (at_builtin
             have HXB := Lib.hid (Ext.alloc w1 (.cells #[.slice none 0 0, .int .i64 c] 61))
             have HOB := Lib.hid (row_kp HOW1.out (Kp.of_ext (L := []) HXB.out) (by simp))
             refine wpList_append_rd (P := Try.prog) _ rfl (.tmp 21) (.tmp 24) 29 rfl w.heap.size 61 i1 (.agg #[.slice none 0 0, .int .i64 0]) 2 32 Try.underlying29 hi1 hz3 hz4 hz5 rfl (by decide) (.slice Au xs.length cu) xs.length (xs.flatMap cmdC) rfl (by exact HOB.out) (some ⟨w1.heap.size, 0, none⟩) 1 1 (cmdC ⟨.slice none 0 0, c⟩) rfl rfl (by exact Rd.new w1 #[_, _] 61) (by intro u hu; simp [cmdC] at hu; rcases hu with rfl | rfl <;> rfl) (by simp only [maxLen]; omega) (by omega) (by have := HX.out.size; have := HX1.out.size; have := HXB.out.size; omega) ?_
             intro v8 w8 happ
             obtain ⟨A8, c8, rfl⟩ := own_len happ.own
             have HPUT := Lib.hid (rcmds_put (HIN1.out.ext HXB.out) (Own.nil _ _) rfl HOB.out happ : RCmdsAt w w8 _ (cs ++ [⟨[], c⟩]) ∧ _)
             clear happ))
        go_ret3
        exact ⟨_, rfl, HPUT.out.1, HPUT.out.2.to_ext ((HX.out.trans HX1.out).trans HXB.out) (fun k hk => row_new HOW.out k (by simpa using hk))⟩
    | ok ws l2 =>
      have hrd := rdAll_ok hc
      have hln := cmd_len hc
      obtain ⟨hgw, hfr⟩ := cmd_inv hc
      have hd2 := suf_drop hfr
      rw [size_list] at hln
      rw [hc] at HRC
      obtain ⟨m, hm⟩ : ∃ m, m = st.toList.length - l2.length := ⟨_, rfl⟩
      unfold RCmdOut at HRC
      dsimp only at HRC
      rw [← hm] at HRC hd2
      rw [size_list] at hm
      have hms : m ≤ st.size ∧ 0 < m := by omega
      have hsl : (0 : Int) ≤ (m : Int) ∧ (m : Int) ≤ (st.size : Int) := by omega
      have hex : (st.extract m st.size).toList = l2 := by rw [ext_drop, hd2]
      have hexz : (st.extract m st.size).size = st.size - m := by rw [← size_list, ext_drop, List.length_drop, size_list]
      have HEX := Lib.hid (And.intro hex hexz)
      clear hc hfr hd2 hm hln hex hexz
      go_wp2_with fail
      refine HRC.out.mono ?_
      rintro e w1 ⟨hx1, v, rfl, ho⟩
      have HX1 := Lib.hid hx1
      have HO1 := Lib.hid (own_from ho HX.out.size : Own w w1 v ws)
      have HIN1 := Lib.hid (HIN.out.ext hx1)
      have HOW1 := Lib.hid (row_kp HOW.out (Kp.of_ext (L := []) hx1) (by simp))
      obtain ⟨Av, cv, rfl⟩ := own_len HO1.out
      clear hx1 ho HRC
      by_cases hw0 : ws.length = 0
      · rw [if_pos hw0] at hrd
        have HRD := Lib.hid hrd
        have hwB : decide ((0 : Int) < (ws.length : Int)) = false := decide_eq_false (by omega)
        have hwC : decide (0 < ws.length) = false := decide_eq_false (by omega)
        clear hrd hw0
        go_wp2_with fail
        go_roundg ((st.extract m st.size).size + 1)
        case measure => rw [hgk, HEX.out.2]; omega
        case rel => exact ⟨st.extract m st.size, cs, rfl, rfl, by rw [HEX.out.2]; omega, ⟨xs, HOW1.out, HIN1.out⟩, HX.out.trans HX1.out, by rw [HEX.out.1, ← HT1.out, HRD.out], by rw [HEX.out.1, ← HT2.out, HRD.out]⟩
      · rw [if_neg hw0] at hrd
        have HRD := Lib.hid hrd
        have hwB : decide ((0 : Int) < (ws.length : Int)) = true := decide_eq_true (by omega)
        have hwC : decide (0 < ws.length) = true := decide_eq_true (by omega)
        clear hrd hw0
        go_wp2_with (first
          | (at_builtin
             have HXB := Lib.hid (Ext.alloc w1 (.cells #[.slice Av ws.length cv, .int .i64 0] 61))
             have HOB := Lib.hid (row_kp HOW1.out (Kp.of_ext (L := []) HXB.out) (by simp))
             refine wpList_append_rd (P := Try.prog) _ rfl (.tmp 29) (.tmp 32) 29 rfl w.heap.size 61 i1 (.agg #[.slice none 0 0, .int .i64 0]) 2 32 Try.underlying29 hi1 hz3 hz4 hz5 rfl (by decide) (.slice Au xs.length cu) xs.length (xs.flatMap cmdC) rfl (by exact HOB.out) (some ⟨w1.heap.size, 0, none⟩) 1 1 (cmdC ⟨.slice Av ws.length cv, 0⟩) rfl rfl (by exact Rd.new w1 #[_, _] 61) (by intro u hu; simp [cmdC] at hu; rcases hu with rfl | rfl <;> rfl) (by simp only [maxLen]; omega) (by omega) (by have := HX.out.size; have := HX1.out.size; have := HXB.out.size; omega) ?_
             intro v8 w8 happ
             obtain ⟨A8, c8, rfl⟩ := own_len happ.own
             have HPUT := Lib.hid (rcmds_put (HIN1.out.ext HXB.out) (HO1.out.ext HXB.out) rfl HOB.out happ : RCmdsAt w w8 _ (cs ++ [⟨ws, 0⟩]) ∧ _)
             clear happ))
        go_roundg ((st.extract m st.size).size + 1)
        case measure => rw [hgk, HEX.out.2]; omega
        case rel => exact ⟨st.extract m st.size, cs ++ [⟨ws, 0⟩], rfl, rfl, by rw [HEX.out.2, List.length_append]; simp; omega, HPUT.out.1, HPUT.out.2.to_ext ((HX.out.trans HX1.out).trans HXB.out) (fun k hk => row_new HOW.out k (by simpa using hk)), by rw [HEX.out.1, ← HT1.out, HRD.out]; simp, by rw [HEX.out.1, ← HT2.out, HRD.out]⟩
end Go.Proofs.Ytdbboooblbdihaa
