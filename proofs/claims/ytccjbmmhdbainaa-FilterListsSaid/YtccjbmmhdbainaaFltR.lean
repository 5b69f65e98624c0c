/- Texts cut: package filter, and the document. -/
import Derived.Test.YtccjbmmhdbainaaFltD
namespace Go.Proofs.Ytccjbmmhdbainaa
open Go.RowKit Sets
set_option linter.unusedVariables false
set_option linter.unusedSectionVars false
set_option linter.unusedSimpArgs false
set_option maxRecDepth 100000

/-- What a cut tells. -/
def CutR (c : UInt8) (s a b : ByteArray) (f : Bool) : Prop := (f = false ∧ a = s ∧ cutL c s.toList = none) ∨ (f = true ∧ cutL c s.toList = some (a.toList, b.toList))
def CutE (c : UInt8) (s : ByteArray) (e : Ending) : Prop := ∃ a b f, e = .returned (.tuple #[.string a, .string b, .bool f]) ∧ CutR c s a b f
theorem none_take {α : Type} {p : α → Prop} {l : List α} {k : Nat} {x : α} (h : ∀ a ∈ l.take k, p a) (hx : l[k]? = some x) (hp : p x) : ∀ a ∈ l.take (k + 1), p a := by
  intro a ha
  rw [take_snoc hx] at ha
  rcases List.mem_append.1 ha with ha | ha
  · exact h a ha
  · simp at ha
    subst ha
    exact hp
theorem byte_ne_int {b c : UInt8} (h : b ≠ c) : ((b.toNat : Int) == (c.toNat : Int)) = false := by
  rw [beq_eq_false_iff_ne]
  intro e
  exact h (UInt8.toNat_inj.1 (by omega))
theorem ext_head (s : ByteArray) (k : Nat) : (s.extract 0 k).toList = s.toList.take k := by
  rw [ext_list, List.drop_zero]
  rfl
theorem ext_tail (s : ByteArray) (k : Nat) : (s.extract k s.size).toList = s.toList.drop k := by
  rw [ext_list, List.take_of_length_le]
  rw [List.length_drop, size_list]
  exact Nat.le_refl _
set_option maxHeartbeats 2000000 in
theorem cut_any (s : ByteArray) (c : UInt8) (w : World) (hs : s.size ≤ 4611686018427387904) :
    Calls Try.prog 38 #[.string s, .int .u8 (c.toNat : Int)] w fun e w' => CutE c s e ∧ Ext w w' := by
  go_enter Try.func38, Try.ntmps38
  go_wp2_with fail
  go_loop [10] (fun i => ∃ k : Nat, k ≤ s.size ∧ i = .int .i64 (k : Int) ∧ Hid (∀ a ∈ s.toList.take k, a ≠ c)) (fun i => s.size - (intOf i).toNat)
  case atStart => exact ⟨0, by omega, rfl, Lib.hid (by simp)⟩
  case round =>
    obtain ⟨k, hk, rfl, HA⟩ := hrel
    by_cases hkn : k < s.size
    · have hkI : (k : Int) < (s.size : Int) := by omega
      have hkJ : (0 : Int) ≤ (k : Int) := by omega
      have hb := get_list s k hkn
      generalize hsk : s[k] = b at hb
      by_cases hbc : b = c
      · subst hbc
        have HC := Lib.hid (cutL_at HA.out hb)
        have hk1 : (k : Int) + 1 ≤ (s.size : Int) := by omega
        have hk2 : (k : Int) ≤ (s.size : Int) := by omega
        have hk3 : IntKind.i64.wrap ((k : Int) + 1) = (k : Int) + 1 := by simp only [IntKind.wrap, IntKind.bits, IntKind.signed]; simp; omega
        clear hb
        go_wp2_with fail
        go_quiet (fail)
        go_wp2_with fail
        exact bodyPost_ret (v := .tuple #[.string (s.extract 0 k), .string (s.extract (k + 1) s.size), .bool true]) (by simp [results, Try.results38, go_sem]) rfl ⟨⟨_, _, _, rfl, .inr ⟨rfl, by rw [HC.out, ext_head, ext_tail]⟩⟩, Ext.drewN _ _⟩
      · have HA2 := Lib.hid (none_take HA.out hb hbc)
        have e1 := byte_ne_int hbc
        clear hb hbc
        go_wp2_with fail
        go_round
        case rel => exact ⟨k + 1, by omega, by go_num, HA2⟩
        case measure => simp [intOf]; omega
    · obtain rfl : k = s.size := by omega
      have HC := Lib.hid (cutL_no (c := c) (l := s.toList) (by have := HA.out; rwa [List.take_of_length_le (by rw [size_list]; exact Nat.le_refl _)] at this))
      go_wp2_with fail
      exact bodyPost_ret (v := .tuple #[.string s, .string ⟨#[]⟩, .bool false]) (by simp [results, Try.results38, go_sem]) rfl ⟨⟨_, _, _, rfl, .inl ⟨rfl, rfl, HC.out⟩⟩, Ext.refl _⟩
theorem paren_at {s : ByteArray} (hs : 1 < s.size) : parenL s.toList = (decide (s.toList[0]? = some 40) && decide (s.toList[s.size - 1]? = some 41)) := by
  unfold parenL
  rw [size_list, decide_eq_true (p := s.size ≠ 1) (by omega), Bool.and_true]
theorem inner_open {s : ByteArray} (h : parenL s.toList = true) : innerL s.toList = splL ((s.extract 1 (s.size - 1)).toList) := by
  have hz : ¬ s.toList.length = 0 := by
    intro h0
    have : s.toList = [] := List.eq_nil_of_length_eq_zero h0
    rw [this] at h
    simp [parenL] at h
  unfold innerL
  rw [if_neg hz, if_pos h, ext_list, size_list]
  congr 2
theorem inner_one {s : ByteArray} (h : parenL s.toList = false) (hz : s.size ≠ 0) : innerL s.toList = [s.toList] := by
  unfold innerL
  rw [if_neg (by rw [size_list]; exact hz), if_neg (by rw [h]; simp)]
theorem backs_one (s : ByteArray) : backs [s.toList] = [s] := by
  show [(⟨s.toList.toArray⟩ : ByteArray)] = _
  rw [bytes_mk]
theorem backs_app (a b : List (List UInt8)) : backs (a ++ b) = backs a ++ backs b := List.map_append
/-- A slice that lies in a block from B on. -/
def Far (B : Nat) (v : Value) : Prop := ∀ A n c, v = .slice A n c → ∀ ad, A = some ad → B ≤ ad.block
theorem far_none (B : Nat) (n c : Nat) : Far B (.slice none n c) := by
  intro A n' c' h ad e
  injection h with h _ _
  rw [← h] at e
  cases e
theorem far_new {B k : Nat} (h : B ≤ k) (n c : Nat) : Far B (.slice (some ⟨k, 0, none⟩) n c) := by
  intro A n' c' h2 ad e
  injection h2 with h2 _ _
  rw [← h2] at e
  injection e with e
  rw [← e]
  exact h
theorem far_own {w w' : World} {v : Value} {xs : List ByteArray} (h : Own w w' v xs) : Far w.heap.size v := by
  intro A n c e ad e2
  subst e e2
  rcases h.2 with ⟨h, _⟩ | ⟨g, cap, cur, h, hg, _⟩
  · simp at h
  · simp at h
    obtain ⟨rfl, _⟩ := h
    exact hg
/-- A slice whose block holds elements of a type. -/
def Typ (w : World) (t : TypeId) (v : Value) : Prop := ∀ A n c, v = .slice A n c → ∀ ad, A = some ad → ∃ cs f, w.heap[ad.block]? = some (.cells cs t f)
theorem typ_none (w : World) (t : TypeId) (n c : Nat) : Typ w t (.slice none n c) := by
  intro A n' c' h ad e
  injection h with h _ _
  rw [← h] at e
  cases e
theorem Typ.ext {w w' : World} {t : TypeId} {v : Value} (h : Typ w t v) (hx : Ext w w') : Typ w' t v := fun A n c e ad e2 => by
  obtain ⟨cs, f, hb⟩ := h A n c e ad e2
  exact ⟨cs, f, (Kp.of_ext (L := []) hx).heap hb (by simp)⟩
/-- Texts in a row of texts. -/
structure Vls (w : World) (v : Value) (xs : List ByteArray) : Prop where
  txt : Txt w v xs
  typ : Typ w 9 v
theorem Vls.ext {w w' : World} {v : Value} {xs : List ByteArray} (h : Vls w v xs) (hx : Ext w w') : Vls w' v xs := ⟨h.txt.ext hx, h.typ.ext hx⟩
theorem vls_nil (w : World) : Vls w (.slice none 0 0) [] := ⟨txt_nil w, typ_none _ _ _ _⟩
theorem vls_one (w : World) (s : ByteArray) : Vls (w.alloc (.cells #[.string s] 9)) (.slice (some ⟨w.heap.size, 0, none⟩) 1 1) [s] :=
  ⟨txt_one w s 9, fun A n c h ad e => by
    injection h with h _ _
    rw [← h] at e
    injection e with e
    rw [← e]
    exact ⟨_, _, heap_alloc_new w _⟩⟩
theorem vls_own {w w' : World} {v : Value} {xs : List ByteArray} (h : Own w w' v xs) : Vls w' v xs := ⟨txt_own h, by
  intro A n c e ad e2
  subst e e2
  rcases h.2 with ⟨h, _⟩ | ⟨g, cap, cur, h, hg, hh, _⟩
  · simp at h
  · simp at h
    obtain ⟨rfl, _⟩ := h
    exact ⟨_, _, hh⟩⟩
/-- An append of other things leaves them as they are. -/
theorem Vls.chg {w w' : World} {B : Nat} {S : List TypeId} {v : Value} {xs : List ByteArray} (h : Vls w v xs) (hc : Chg B S w w') (hs : 9 ∉ S) : Vls w' v xs := by
  obtain ⟨⟨A, n, c, rfl, h2, h3, h4, h5⟩, ht⟩ := h
  have hbl : ∀ ad, A = some ad → w'.heap[ad.block]? = w.heap[ad.block]? := fun ad e => by
    obtain ⟨cs, f, hb⟩ := ht A n c rfl ad e
    rw [hb]
    exact hc.heap_type hb hs
  refine ⟨⟨A, n, c, rfl, h2, h3, h4, fun hne => ?_⟩, fun A' n' c' e ad e2 => ?_⟩
  · obtain ⟨ad, e, hcell⟩ := h5 hne
    refine ⟨ad, e, fun j u hu => ?_⟩
    rw [World.cell?_of_block (w := w) (w' := w') (a := ad.add j) (by rw [add_block]; exact hbl ad e)]
    exact hcell j u hu
  · injection e with e _ _
    rw [← e] at e2
    obtain ⟨cs, f, hb⟩ := ht A n c rfl ad e2
    exact ⟨cs, f, (hbl ad e2).trans hb⟩
def strSz : Value → Nat
  | .string x => x.size
  | _ => 0
set_option maxHeartbeats 4000000 in
theorem inner_any (s : ByteArray) (w : World) (hs : s.size ≤ 100000) :
    Calls Try.prog 39 #[.string s] w fun e w' => ∃ v, e = .returned v ∧ Vls w' v (backs (innerL s.toList)) ∧ Far w.heap.size v ∧ Ext w w' := by
  by_cases hz : s.size = 0
  · obtain rfl : s = ⟨#[]⟩ := bytes_ext (by rw [size_zero hz]; exact empty_list.symm)
    go_enter Try.func39, Try.ntmps39
    go_wp2_with fail
    go_ret
    exact ⟨_, rfl, by
      have : (⟨#[]⟩ : ByteArray).toList = [] := empty_list
      rw [this]
      exact vls_nil _, far_none _ _ _, Ext.refl _⟩
  · have hne : (s.toList == []) = false := by
      rw [beq_eq_false_iff_ne]
      intro e
      have := size_list s
      rw [e] at this
      simp at this
      omega
    have h0I : (0 : Int) < (s.size : Int) := by omega
    have h1I : (0 : Int) ≤ (s.size : Int) - 1 := by omega
    have h2I : (s.size : Int) - 1 < (s.size : Int) := by omega
    have hb0 := get_list s 0 (by omega)
    have hbl := get_list s (s.size - 1) (by omega)
    generalize hs0 : s[0] = b0 at hb0
    generalize hsl : s[s.size - 1] = bl at hbl
    have HB0 := Lib.hid hb0
    have HBL := Lib.hid hbl
    clear hb0 hbl
    by_cases h40 : b0 = 40
    · by_cases h41 : bl = 41
      · have hz1 : s.size ≠ 1 := by
          intro h1
          have := HBL.out
          rw [h1] at this
          rw [show (1 : Nat) - 1 = 0 from rfl, HB0.out, h40, h41] at this
          cases this
        have HP : Hid (parenL s.toList = true) := Lib.hid (by rw [paren_at (by omega), HB0.out, HBL.out, h40, h41]; rfl)
        have HI := Lib.hid (inner_open HP.out)
        have hz1I : ((s.size : Int) == 1) = false := by rw [beq_eq_false_iff_ne]; omega
        have hz2I : (1 : Int) ≤ (s.size : Int) - 1 := by omega
        have hz3I : (s.size : Int) - 1 ≤ (s.size : Int) := by omega
        have hz4I : (1 : Int) ≤ (s.size : Int) := by omega
        subst h40 h41
        clear hz1
        go_enter Try.func39, Try.ntmps39
        go_wp2_with fail
        clear hs0 hsl
        obtain ⟨S, hS⟩ : ∃ S, s.extract 1 (s.size - 1) = S := ⟨_, rfl⟩
        rw [hS]
        rw [hS] at HI
        have hSz : S.size ≤ s.size := by rw [← hS, ByteArray.size_extract]; omega
        clear hS
        go_loopw [0, 3] (fun a o wr => ∃ (x : ByteArray) (outs : List (List UInt8)), a = .string x ∧ Own w wr o (backs outs) ∧ Hid (outs ++ splL x.toList = splL S.toList) ∧ outs.length + x.size ≤ s.size ∧ Ext w wr) (fun a _ _ => strSz a)
        case atStart => exact ⟨S, [], rfl, World.ownsRow_nil _ _ _ _, Lib.hid rfl, by simpa using hSz, Ext.refl _⟩
        case round =>
          obtain ⟨x, outs, rfl, hown, HSP, hle, hx⟩ := hrel
          have HO := Lib.hid hown
          have HX := Lib.hid hx
          have HBLN : Hid ((backs outs).length = outs.length) := Lib.hid (List.length_map _)
          clear hown hx
          go_wp2_with fail
          refine (cut_any x 44 _ (by omega)).mono ?_
          rintro e v2 ⟨⟨a, b, f, rfl, hcr⟩, hx⟩
          have HX2 := Lib.hid (HX.out.trans hx)
          have HO2 := Lib.hid (own_later HO.out hx)
          have hx6 : Ext v2 (v2.alloc (.cells #[.string a] 9)) := Ext.alloc _ _
          clear hx
          rcases hcr with ⟨rfl, rfl, hc⟩ | ⟨rfl, hc⟩
          · have HF : Hid (outs ++ [a.toList] = splL S.toList) := Lib.hid (by rw [← HSP.out, splL_last hc])
            clear hc
            go_wp2_with (first
              | (at_builtin
                 refine app_strs _ rfl (.tmp 38) (.tmp 40) rfl w _ (backs outs) rfl (by exact own_later HO2.out hx6) (some ⟨v2.heap.size, 0, none⟩) 1 1 [a] rfl rfl (Rd.new v2 #[.string a] 9) (by rw [HBLN.out]; simp; omega) (by exact HX2.out.trans hx6) ?_
                 intro v7 w7 hown7 hext7))
            go_ret
            exact ⟨_, rfl, by have := vls_own hown7; rw [HI.out, ← HF.out, backs_app, backs_one]; exact this, far_own hown7, hext7⟩
          · have HF : Hid ((outs ++ [a.toList]) ++ splL b.toList = splL S.toList) := Lib.hid (by rw [← HSP.out, splL_cut hc, List.append_assoc]; rfl)
            have hsz : a.size + 1 + b.size = x.size := by
              obtain ⟨h1, _⟩ := cutL_some hc
              have := congrArg List.length h1
              rw [List.length_append, List.length_cons, size_list, size_list, size_list] at this
              omega
            clear hc
            go_wp2_with (first
              | (at_builtin
                 refine app_strs _ rfl (.tmp 38) (.tmp 40) rfl w _ (backs outs) rfl (by exact own_later HO2.out hx6) (some ⟨v2.heap.size, 0, none⟩) 1 1 [a] rfl rfl (Rd.new v2 #[.string a] 9) (by rw [HBLN.out]; simp; omega) (by exact HX2.out.trans hx6) ?_
                 intro v7 w7 hown7 hext7))
            go_roundw
            case rel => exact ⟨b, outs ++ [a.toList], rfl, by rw [backs_app, backs_one]; exact hown7, HF, by rw [List.length_append, List.length_singleton]; omega, hext7⟩
            case measure => simp [strSz]; omega
      · have e1 : ((bl.toNat : Int) == 41) = false := byte_ne_int h41
        have e2 : ((bl.toNat : Int) != 41) = true := by rw [bne, e1]; rfl
        have HP : Hid (parenL s.toList = false) := Lib.hid (by
          by_cases h1 : s.size = 1
          · unfold parenL
            rw [size_list, h1]
            simp
          · rw [paren_at (by omega), HBL.out, decide_eq_false (p := some bl = some 41) (by simpa using h41), Bool.and_false])
        have HI := Lib.hid (inner_one HP.out hz)
        subst h40
        clear h41
        go_enter Try.func39, Try.ntmps39
        go_wp2_with fail
        go_ret
        exact ⟨_, rfl, by rw [HI.out, backs_one]; exact vls_one _ _, far_new (Nat.le_refl _) _ _, Ext.alloc _ _⟩
    · have e1 : ((b0.toNat : Int) == 40) = false := byte_ne_int h40
      have e2 : ((b0.toNat : Int) != 40) = true := by rw [bne, e1]; rfl
      have HP : Hid (parenL s.toList = false) := Lib.hid (by
        unfold parenL
        rw [HB0.out, decide_eq_false (p := some b0 = some 40) (by simpa using h40)]
        rfl)
      have HI := Lib.hid (inner_one HP.out hz)
      clear h40
      go_enter Try.func39, Try.ntmps39
      go_wp2_with fail
      go_ret
      exact ⟨_, rfl, by rw [HI.out, backs_one]; exact vls_one _ _, far_new (Nat.le_refl _) _ _, Ext.alloc _ _⟩
end Go.Proofs.Ytccjbmmhdbainaa

/- Texts cut at commas: the document. A text's term: package filter. -/
namespace Go.Proofs.Ytccjbmmhdbainaa
open Go.RowKit Sets
set_option linter.unusedVariables false
set_option linter.unusedSectionVars false
set_option linter.unusedSimpArgs false
set_option maxRecDepth 100000

theorem spl_step {l : List UInt8} {f i : Nat} (hf : f ≤ i) (hi : l[i]? = some 44) (hn : ∀ a ∈ (l.drop f).take (i - f), a ≠ 44) : splL (l.drop f) = (l.drop f).take (i - f) :: splL (l.drop (i + 1)) := by
  have h1 : (l.drop f)[i - f]? = some 44 := by rw [List.getElem?_drop, show f + (i - f) = i by omega]; exact hi
  have h2 := cutL_at hn h1
  rw [splL_cut h2, List.drop_drop]
  congr 3
  omega
set_option maxHeartbeats 4000000 in
theorem rcut_any (s : ByteArray) (w : World) (hs : s.size ≤ 100000) :
    Calls Try.prog 40 #[.string s] w fun e w' => ∃ v, e = .returned v ∧ Vls w' v (backs (splL s.toList)) ∧ Far w.heap.size v ∧ Ext w w' := by
  go_enter Try.func40, Try.ntmps40
  go_wp2_with fail
  go_loopw [3, 4, 5] (fun o fv iv wr => ∃ (f i : Nat) (outs : List (List UInt8)), f ≤ i ∧ i ≤ s.size ∧ fv = .int .i64 (f : Int) ∧ iv = .int .i64 (i : Int) ∧ Own w wr o (backs outs) ∧ Hid (outs ++ splL (s.toList.drop f) = splL s.toList) ∧ Hid (∀ a ∈ (s.toList.drop f).take (i - f), a ≠ 44) ∧ outs.length ≤ i ∧ Ext w wr) (fun _ _ iv _ => s.size - (intOf iv).toNat)
  case atStart => exact ⟨0, 0, [], by omega, by omega, rfl, rfl, World.ownsRow_nil _ _ _ _, Lib.hid rfl, Lib.hid (by simp), by simp, Ext.refl _⟩
  case round =>
    obtain ⟨f, i, outs, hf, hi, rfl, rfl, hown, HSP, HNC, hol, hx⟩ := hrel
    have HO := Lib.hid hown
    have HX := Lib.hid hx
    have HBLN : Hid ((backs outs).length = outs.length) := Lib.hid (List.length_map _)
    clear hown hx
    have hfJ : (0 : Int) ≤ (f : Int) := by omega
    have hfI : (f : Int) ≤ (i : Int) := by omega
    have hfK : (f : Int) ≤ (s.size : Int) := by omega
    by_cases hin : i < s.size
    · have hiI : (i : Int) < (s.size : Int) := by omega
      have hiJ : (0 : Int) ≤ (i : Int) := by omega
      have hiK : (i : Int) ≤ (s.size : Int) := by omega
      have hb := get_list s i hin
      generalize hsk : s[i] = b at hb
      by_cases hbc : b = 44
      · subst hbc
        have HF : Hid ((outs ++ [(s.extract f i).toList]) ++ splL (s.toList.drop (i + 1)) = splL s.toList) := Lib.hid (by
          rw [← HSP.out, spl_step hf hb HNC.out, List.append_assoc, ext_list]
          rfl)
        have hx6 : Ext wr (wr.alloc (.cells #[.string (s.extract f i)] 9)) := Ext.alloc _ _
        clear hb
        go_wp2_with (first
          | (at_builtin
             refine app_strs _ rfl (.tmp 16) (.tmp 21) rfl w _ (backs outs) rfl (by exact own_later HO.out hx6) (some ⟨wr.heap.size, 0, none⟩) 1 1 [s.extract f i] rfl rfl (Rd.new wr #[.string (s.extract f i)] 9) (by rw [HBLN.out]; simp; omega) (by exact HX.out.trans hx6) ?_
             intro v7 w7 hown7 hext7))
        go_roundw
        case rel => exact ⟨i + 1, i + 1, outs ++ [(s.extract f i).toList], by omega, by omega, by go_num, by go_num, by rw [backs_app, backs_one]; exact hown7, HF, Lib.hid (by rw [Nat.sub_self]; simp), by rw [List.length_append, List.length_singleton]; omega, hext7⟩
        case measure => simp [intOf]; omega
      · have e1 := byte_ne_int hbc
        have HN2 : Hid (∀ a ∈ (s.toList.drop f).take (i + 1 - f), a ≠ 44) := Lib.hid (by
          rw [show i + 1 - f = (i - f) + 1 by omega]
          exact none_take HNC.out (by rw [List.getElem?_drop, show f + (i - f) = i by omega]; exact hb) hbc)
        have e2 : ((b.toNat : Int) == 44) = false := e1
        clear hb hbc
        go_wp2_with fail
        go_roundw
        case rel => exact ⟨f, i + 1, outs, by omega, by omega, rfl, by go_num, HO.out, HSP, HN2, by omega, HX.out⟩
        case measure => simp [intOf]; omega
    · obtain rfl : i = s.size := by omega
      have HF : Hid (outs ++ [(s.extract f s.size).toList] = splL s.toList) := Lib.hid (by
        have h := HNC.out
        rw [List.take_of_length_le (by rw [List.length_drop, size_list]; exact Nat.le_refl _)] at h
        rw [← HSP.out, splL_none _ h, ext_tail])
      have hx6 : Ext wr (wr.alloc (.cells #[.string (s.extract f s.size)] 9)) := Ext.alloc _ _
      go_wp2_with (first
        | (at_builtin
           refine app_strs _ rfl (.tmp 25) (.tmp 29) rfl w _ (backs outs) rfl (by exact own_later HO.out hx6) (some ⟨wr.heap.size, 0, none⟩) 1 1 [s.extract f s.size] rfl rfl (Rd.new wr #[.string (s.extract f s.size)] 9) (by rw [HBLN.out]; simp; omega) (by exact HX.out.trans hx6) ?_
           intro v7 w7 hown7 hext7))
      go_ret
      exact ⟨_, rfl, by have := vls_own hown7; rw [← HF.out, backs_app, backs_one]; exact this, far_own hown7, hext7⟩
/-- What a text's term is told as. -/
def ParE (s : ByteArray) (e : Ending) (w : World) : Prop :=
  (parseB s = none ∧ e = .returned (.tuple #[.agg #[.string ⟨#[]⟩, .bool false, .slice none 0 0], .int .i64 4])) ∨
  ∃ t u, parseB s = some t ∧ e = .returned (.tuple #[tmV t u, .int .i64 0]) ∧ Vls w u t.vals
theorem set3 {v : World} {r : Nat} {a b c a' b' c' : Value} {t : TypeId} (h : v.heap[r]? = some (.cells #[a, b, c] t (0, 0))) :
    (((v.setCell ⟨r, 0, none⟩ a').setCell ⟨r, 1, none⟩ b').setCell ⟨r, 2, none⟩ c').heap[r]? = some (.cells #[a', b', c'] t (0, 0)) := by
  have h1 := heap_setCell_same v r 0 _ _ a' h
  have h2 := heap_setCell_same _ r 1 _ _ b' h1
  have h3 := heap_setCell_same _ r 2 _ _ c' h2
  exact h3
theorem kp3 {v : World} {r : Nat} {a' b' c' : Value} : Kp [r] v (((v.setCell ⟨r, 0, none⟩ a').setCell ⟨r, 1, none⟩ b').setCell ⟨r, 2, none⟩ c') :=
  ((Kp.store r 0 _ (by simp)).and (Kp.store r 1 _ (by simp))).and (Kp.store r 2 _ (by simp))
theorem splL_le : ∀ l : List UInt8, ∀ v ∈ splL l, v.length ≤ l.length
  | [], v, h => by
    rw [show splL [] = [[]] from rfl] at h
    simp at h
    subst h
    exact Nat.le_refl _
  | a :: t, v, h => by
    have ih := splL_le t
    by_cases e : a = 44
    · subst e
      rw [splL_comma] at h
      rcases List.mem_cons.1 h with rfl | h
      · simp
      · have := ih v h
        rw [List.length_cons]
        omega
    · cases hs : splL t with
      | nil => exact absurd hs (splL_ne t)
      | cons x r =>
        rw [splL_cons e hs] at h
        rw [hs] at ih
        rcases List.mem_cons.1 h with rfl | h
        · have := ih x List.mem_cons_self
          rw [List.length_cons, List.length_cons]
          omega
        · have := ih v (List.mem_cons_of_mem _ h)
          rw [List.length_cons]
          omega
theorem inner_le (l : List UInt8) : ∀ v ∈ innerL l, v.length ≤ l.length := by
  intro v h
  unfold innerL at h
  split at h
  · simp at h
  · split at h
    · have := splL_le _ v h
      rw [List.length_take, List.length_drop] at this
      omega
    · simp at h
      subst h
      exact Nat.le_refl _
theorem inner_ok (b : ByteArray) (hb : b.size ≤ 100000) : ∀ v ∈ backs (innerL b.toList), okS v := by
  intro v h
  obtain ⟨l, hl, rfl⟩ := List.mem_map.1 h
  have := inner_le _ l hl
  rw [size_list] at this
  unfold okS
  rw [← size_list, toList_mk]
  omega
theorem par_txt {w w' : World} {r B n c : Nat} {A : Option Addr} {xs : List ByteArray} (hk : Kp [r] w w') (h : Vls w (.slice A n c) xs) (hf : Far B (.slice A n c)) (hr : r < B) : Vls w' (.slice A n c) xs := by
  obtain ⟨⟨A', n', c', h1, h2, h3, h4, h5⟩, ht⟩ := h
  injection h1 with e1 e2 e3
  subst e1 e2 e3
  have hne : ∀ ad, A = some ad → ad.block ∉ [r] := fun ad e => by
    have := hf _ _ _ rfl ad e
    simp only [List.mem_singleton]
    omega
  refine ⟨⟨_, _, _, rfl, h2, h3, h4, hk.rd h5 hne⟩, fun A' n' c' e ad e2 => ?_⟩
  injection e with e _ _
  rw [← e] at e2
  obtain ⟨cs, f, hb⟩ := ht _ _ _ rfl ad e2
  exact ⟨cs, f, hk.heap hb (hne ad e2)⟩

set_option maxHeartbeats 4000000 in
theorem parse_any (s : ByteArray) (w : World) (hs : s.size ≤ 100000) :
    Calls Try.prog 22 #[.string s] w fun e w' => ParE s e w' ∧ Ext w w' := by
  go_enter Try.func22, Try.ntmps22
  go_wp2_with fail
  have hbr := heap_alloc_new w (.cells #[.string ⟨#[]⟩, .bool false, .slice none 0 0] 24 (0, 0))
  have hx1 := Ext.alloc w (.cells #[.string ⟨#[]⟩, .bool false, .slice none 0 0] 24)
  generalize w.alloc (.cells #[.string ⟨#[]⟩, .bool false, .slice none 0 0] 24) = w1 at hbr hx1 ⊢
  obtain ⟨r, hr⟩ : ∃ r, r = w.heap.size := ⟨_, rfl⟩
  rw [← hr] at hbr
  rw [← hr]
  have HRW := Lib.hid (Nat.le_of_eq hr.symm)
  clear hr
  refine (cut_any s 61 w1 (by omega)).mono ?_
  rintro e v1 ⟨⟨a, b, f, rfl, hcr⟩, hx⟩
  have HX1 := Lib.hid (hx1.trans hx)
  have HR1 := Lib.hid ((Cm.of_ext hx).cells _ _ _ _ hbr)
  clear hbr hx hx1
  rcases hcr with ⟨rfl, rfl, hc⟩ | ⟨rfl, hc⟩
  · have HP : Hid (parseB a = none) := Lib.hid (by unfold parseB parseL; rw [hc])
    have d0 := heap_cell HR1.out 0
    have d1 := heap_cell HR1.out 1
    have d2 := heap_cell HR1.out 2
    have f0 := heap_frozen HR1.out 0
    have f1 := heap_frozen HR1.out 1
    have f2 := heap_frozen HR1.out 2
    clear hc
    go_wp2_with fail
    have hres := set3 (a' := .string ⟨#[]⟩) (b' := .bool false) (c' := .slice none 0 0) HR1.out
    have e0 := heap_cell hres 0
    have e1 := heap_cell hres 1
    have e2 := heap_cell hres 2
    refine bodyPost_ret (v := .tuple #[.agg #[.string ⟨#[]⟩, .bool false, .slice none 0 0], .int .i64 4]) ?_ rfl ⟨.inl ⟨HP.out, rfl⟩, kp3.to_ext HX1.out (by simpa using HRW.out)⟩
    simp [results, Try.results22, go_sem, e0, e1, e2]
  · have HC := Lib.hid hc
    have hab : a.size + 1 + b.size = s.size := by
      obtain ⟨h1, _⟩ := cutL_some hc
      have := congrArg List.length h1
      rw [List.length_append, List.length_cons, size_list, size_list, size_list] at this
      omega
    have HPN : Hid (rightT (termL a.toList b.toList) = false → parseB s = none) := Lib.hid (fun h => by unfold parseB parseL; rw [hc]; dsimp only; rw [h]; rfl)
    have HPY : Hid (rightT (termL a.toList b.toList) = true → parseB s = some (termL a.toList b.toList)) := Lib.hid (fun h => by unfold parseB parseL; rw [hc]; dsimp only; rw [h]; rfl)
    clear hc
    go_wp2_with fail
    refine (inner_any b v1 (by omega)).mono ?_
    rintro e v2 ⟨u, rfl, hu, hfu, hx⟩
    have HRV : Hid (r < v1.heap.size) := Lib.hid (Array.getElem?_eq_some_iff.1 HR1.out).1
    have hbq := heap_alloc_new v2 (.cells #[.string a, .bool false, u] 24 (0, 0))
    have hx3 := hx.trans (Ext.alloc v2 (.cells #[.string a, .bool false, u] 24))
    have HU3 := Lib.hid (hu.ext (Ext.alloc v2 (.cells #[.string a, .bool false, u] 24)))
    have hrl : r < v2.heap.size := Nat.lt_of_lt_of_le (Array.getElem?_eq_some_iff.1 HR1.out).1 hx.size
    have HU2 := Lib.hid hu
    have HX24 := Lib.hid (Ext.alloc v2 (.cells #[.string a, .bool false, u] 24))
    obtain ⟨A3, n3, c3, rfl, _⟩ := hu.txt
    have HFU := Lib.hid hfu
    clear hfu
    go_upto_region 5 with fail
    generalize v2.alloc (.cells #[.string a, .bool false, .slice A3 n3 c3] 24) = v4 at hbq hx3 HU3 HX24 ⊢
    obtain ⟨q, hq⟩ : ∃ q, q = v2.heap.size := ⟨_, rfl⟩
    rw [← hq] at hbq
    rw [← hq]
    rw [← hq] at hrl
    have HQ2 : Hid (v2.heap.size ≤ q) := Lib.hid (by omega)
    have HQ4 := Lib.hid hbq
    have HX4 := Lib.hid (HX1.out.trans hx3)
    have HR4 := Lib.hid ((Cm.of_ext hx3).cells _ _ _ _ HR1.out)
    have HQW : Hid (w.heap.size ≤ q) := Lib.hid (by have := HX1.out.size; have := hx.size; omega)
    have hqr : q ≠ r := by omega
    clear hbq hx hx3 hq hrl HX1 HR1
    have hvo : ∀ v ∈ backs (innerL b.toList), okS v := inner_ok b (by omega)
    have HVO := Lib.hid hvo
    clear hvo
    obtain ⟨q0, q1, q2⟩ := tm_cells HQ4.out (Ext.refl _)
    by_cases ha0 : a.size = 0
    · have HT : Hid (termL a.toList b.toList = ⟨a, false, backs (innerL b.toList)⟩) := Lib.hid (by
        unfold termL
        rw [if_neg (by unfold endsN; rw [size_zero ha0]; simp), bytes_mk])
      have ha0I : decide ((0 : Int) < (a.size : Int)) = false := decide_eq_false (by omega)
      have ha0J : decide (0 < a.size) = false := decide_eq_false (by omega)
      have hoa : okS a := by unfold okS; omega
      clear ha0
      go_wp2_with fail
      refine (right_term ⟨a, false, (backs (innerL b.toList))⟩ (.slice A3 n3 c3) v4 HU3.out.txt ⟨by assumption, HVO.out⟩).mono ?_
      rintro e v5 ⟨rfl, hx⟩
      have HX5 := Lib.hid (HX4.out.trans hx)
      have HR5 := Lib.hid ((Cm.of_ext hx).cells _ _ _ _ HR4.out)
      have HU5 := Lib.hid (HU3.out.ext hx)
      clear q0 q1 q2
      obtain ⟨q0, q1, q2⟩ := tm_cells HQ4.out hx
      have f0 := heap_frozen HR5.out 0
      have f1 := heap_frozen HR5.out 1
      have f2 := heap_frozen HR5.out 2
      have d0 := heap_cell HR5.out 0
      have d1 := heap_cell HR5.out 1
      have d2 := heap_cell HR5.out 2
      clear hx
      cases hrt : rightT ⟨a, false, (backs (innerL b.toList))⟩ with
      | false =>
        have HP : Hid (parseB s = none) := Lib.hid (HPN.out (by rw [HT.out]; exact hrt))
        clear hrt
        go_wp2_with fail
        have hres := set3 (a' := .string ⟨#[]⟩) (b' := .bool false) (c' := .slice none 0 0) HR5.out
        have e0 := heap_cell hres 0
        have e1 := heap_cell hres 1
        have e2 := heap_cell hres 2
        refine bodyPost_ret (v := .tuple #[.agg #[.string ⟨#[]⟩, .bool false, .slice none 0 0], .int .i64 4]) ?_ rfl ⟨.inl ⟨HP.out, rfl⟩, kp3.to_ext HX5.out (by simpa using HRW.out)⟩
        simp [results, Try.results22, go_sem, e0, e1, e2]
      | true =>
        have HP : Hid (parseB s = some ⟨a, false, (backs (innerL b.toList))⟩) := Lib.hid (by rw [← HT.out]; exact HPY.out (by rw [HT.out]; exact hrt))
        clear hrt
        go_wp2_with fail
        have hres := set3 (a' := .string a) (b' := .bool false) (c' := .slice A3 n3 c3) HR5.out
        have e0 := heap_cell hres 0
        have e1 := heap_cell hres 1
        have e2 := heap_cell hres 2
        refine bodyPost_ret (v := .tuple #[.agg #[.string a, .bool false, .slice A3 n3 c3], .int .i64 0]) ?_ rfl ⟨.inr ⟨_, _, HP.out, rfl, ?_⟩, kp3.to_ext HX5.out (by simpa using HRW.out)⟩
        · simp [results, Try.results22, go_sem, e0, e1, e2]
        · exact par_txt kp3 HU5.out HFU.out HRV.out
    · have ha0I : (0 : Int) < (a.size : Int) := by omega
      have ha1I : (0 : Int) ≤ (a.size : Int) - 1 := by omega
      have ha2I : (a.size : Int) - 1 < (a.size : Int) := by omega
      have hbl := get_list a (a.size - 1) (by omega)
      generalize hsl : a[a.size - 1] = bl at hbl
      have hoa : okS a := by unfold okS; omega
      by_cases h33 : bl = 33
      · have HT : Hid (termL a.toList b.toList = ⟨a.extract 0 (a.size - 1), true, backs (innerL b.toList)⟩) := Lib.hid (by
          unfold termL
          rw [if_pos (by unfold endsN; rw [size_list, hbl, h33]; rfl)]
          congr 1
          refine bytes_ext ?_
          rw [toList_mk, ext_head, size_list])
        subst h33
        clear hbl
        have f0 := heap_frozen HQ4.out 0
        have f1 := heap_frozen HQ4.out 1
        have ha3I : (a.size : Int) - 1 ≤ (a.size : Int) := by omega
        go_upto_region 8 with fail
        have g1 := heap_setCell_same v4 q 0 _ _ (.string (a.extract 0 (a.size - 1))) HQ4.out
        have g2 := heap_setCell_same _ q 1 _ _ (.bool true) g1
        have gk : Kp [q] v4 ((v4.setCell ⟨q, 0, none⟩ (.string (a.extract 0 (a.size - 1)))).setCell ⟨q, 1, none⟩ (.bool true)) := (Kp.store q 0 _ (by simp)).and (Kp.store q 1 _ (by simp))
        generalize ((v4.setCell ⟨q, 0, none⟩ (.string (a.extract 0 (a.size - 1)))).setCell ⟨q, 1, none⟩ (.bool true)) = v6 at g2 gk ⊢
        have HQ6 : Hid (v6.heap[q]? = some (.cells #[.string (a.extract 0 (a.size - 1)), .bool true, .slice A3 n3 c3] 24 (0, 0))) := Lib.hid g2
        have HX6 := Lib.hid (gk.to_ext HX4.out (by simpa using HQW.out))
        have HR6 := Lib.hid (gk.heap HR4.out (by simpa using fun e => hqr e.symm))
        have HU6 := Lib.hid (HU2.out.ext (gk.to_ext HX24.out (by simpa using HQ2.out)))
        clear g1 g2 gk q0 q1 q2 f0 f1
        obtain ⟨q0, q1, q2⟩ := tm_cells HQ6.out (Ext.refl _)
        have hox : okS (a.extract 0 (a.size - 1)) := by unfold okS; rw [ByteArray.size_extract]; omega
        go_wp2_with fail
        refine (right_term ⟨(a.extract 0 (a.size - 1)), true, (backs (innerL b.toList))⟩ (.slice A3 n3 c3) v6 HU6.out.txt ⟨by assumption, HVO.out⟩).mono ?_
        rintro e v5 ⟨rfl, hx⟩
        have HX5 := Lib.hid (HX6.out.trans hx)
        have HR5 := Lib.hid ((Cm.of_ext hx).cells _ _ _ _ HR6.out)
        have HU5 := Lib.hid (HU6.out.ext hx)
        clear q0 q1 q2
        obtain ⟨q0, q1, q2⟩ := tm_cells HQ6.out hx
        have f0 := heap_frozen HR5.out 0
        have f1 := heap_frozen HR5.out 1
        have f2 := heap_frozen HR5.out 2
        have d0 := heap_cell HR5.out 0
        have d1 := heap_cell HR5.out 1
        have d2 := heap_cell HR5.out 2
        clear hx
        cases hrt : rightT ⟨(a.extract 0 (a.size - 1)), true, (backs (innerL b.toList))⟩ with
        | false =>
          have HP : Hid (parseB s = none) := Lib.hid (HPN.out (by rw [HT.out]; exact hrt))
          clear hrt
          go_wp2_with fail
          have hres := set3 (a' := .string ⟨#[]⟩) (b' := .bool false) (c' := .slice none 0 0) HR5.out
          have e0 := heap_cell hres 0
          have e1 := heap_cell hres 1
          have e2 := heap_cell hres 2
          refine bodyPost_ret (v := .tuple #[.agg #[.string ⟨#[]⟩, .bool false, .slice none 0 0], .int .i64 4]) ?_ rfl ⟨.inl ⟨HP.out, rfl⟩, kp3.to_ext HX5.out (by simpa using HRW.out)⟩
          simp [results, Try.results22, go_sem, e0, e1, e2]
        | true =>
          have HP : Hid (parseB s = some ⟨(a.extract 0 (a.size - 1)), true, (backs (innerL b.toList))⟩) := Lib.hid (by rw [← HT.out]; exact HPY.out (by rw [HT.out]; exact hrt))
          clear hrt
          go_wp2_with fail
          have hres := set3 (a' := .string (a.extract 0 (a.size - 1))) (b' := .bool true) (c' := .slice A3 n3 c3) HR5.out
          have e0 := heap_cell hres 0
          have e1 := heap_cell hres 1
          have e2 := heap_cell hres 2
          refine bodyPost_ret (v := .tuple #[.agg #[.string (a.extract 0 (a.size - 1)), .bool true, .slice A3 n3 c3], .int .i64 0]) ?_ rfl ⟨.inr ⟨_, _, HP.out, rfl, ?_⟩, kp3.to_ext HX5.out (by simpa using HRW.out)⟩
          · simp [results, Try.results22, go_sem, e0, e1, e2]
          · exact par_txt kp3 HU5.out HFU.out HRV.out
      · have HT : Hid (termL a.toList b.toList = ⟨a, false, backs (innerL b.toList)⟩) := Lib.hid (by
          unfold termL
          rw [if_neg (by unfold endsN; rw [size_list, hbl]; simpa using h33), bytes_mk])
        have e1 : ((bl.toNat : Int) == 33) = false := byte_ne_int h33
        clear hbl h33
        go_wp2_with fail
        refine (right_term ⟨a, false, (backs (innerL b.toList))⟩ (.slice A3 n3 c3) v4 HU3.out.txt ⟨by assumption, HVO.out⟩).mono ?_
        rintro e v5 ⟨rfl, hx⟩
        have HX5 := Lib.hid (HX4.out.trans hx)
        have HR5 := Lib.hid ((Cm.of_ext hx).cells _ _ _ _ HR4.out)
        have HU5 := Lib.hid (HU3.out.ext hx)
        clear q0 q1 q2
        obtain ⟨q0, q1, q2⟩ := tm_cells HQ4.out hx
        have f0 := heap_frozen HR5.out 0
        have f1 := heap_frozen HR5.out 1
        have f2 := heap_frozen HR5.out 2
        have d0 := heap_cell HR5.out 0
        have d1 := heap_cell HR5.out 1
        have d2 := heap_cell HR5.out 2
        clear hx
        cases hrt : rightT ⟨a, false, (backs (innerL b.toList))⟩ with
        | false =>
          have HP : Hid (parseB s = none) := Lib.hid (HPN.out (by rw [HT.out]; exact hrt))
          clear hrt
          go_wp2_with fail
          have hres := set3 (a' := .string ⟨#[]⟩) (b' := .bool false) (c' := .slice none 0 0) HR5.out
          have e0 := heap_cell hres 0
          have e1 := heap_cell hres 1
          have e2 := heap_cell hres 2
          refine bodyPost_ret (v := .tuple #[.agg #[.string ⟨#[]⟩, .bool false, .slice none 0 0], .int .i64 4]) ?_ rfl ⟨.inl ⟨HP.out, rfl⟩, kp3.to_ext HX5.out (by simpa using HRW.out)⟩
          simp [results, Try.results22, go_sem, e0, e1, e2]
        | true =>
          have HP : Hid (parseB s = some ⟨a, false, (backs (innerL b.toList))⟩) := Lib.hid (by rw [← HT.out]; exact HPY.out (by rw [HT.out]; exact hrt))
          clear hrt
          go_wp2_with fail
          have hres := set3 (a' := .string a) (b' := .bool false) (c' := .slice A3 n3 c3) HR5.out
          have e0 := heap_cell hres 0
          have e1 := heap_cell hres 1
          have e2 := heap_cell hres 2
          refine bodyPost_ret (v := .tuple #[.agg #[.string a, .bool false, .slice A3 n3 c3], .int .i64 0]) ?_ rfl ⟨.inr ⟨_, _, HP.out, rfl, ?_⟩, kp3.to_ext HX5.out (by simpa using HRW.out)⟩
          · simp [results, Try.results22, go_sem, e0, e1, e2]
          · exact par_txt kp3 HU5.out HFU.out HRV.out
end Go.Proofs.Ytccjbmmhdbainaa
