/- Replies: a line's text, a sign, a whole number, an item read. -/
import Derived.Test.YtdbboooblbdihaaRspI
namespace Go.Proofs.Ytdbboooblbdihaa
open Go.RowKit
set_option linter.unusedVariables false
set_option linter.unusedSectionVars false
set_option linter.unusedSimpArgs false
set_option maxRecDepth 100000


/-- One reading behind another, in a walk. -/
theorem rd_bind {α β : Type} {P : Program} {f : FuncId} {args : Array Value} {g : α → Value} {r : Nat} {s : ByteArray} {w : World} {x : Pr α} {f2 : α → List UInt8 → Pr β} {F : Pr β} (h : Calls P f args w (RdOut g r s w x)) (hF : x.bind f2 = F) :
    Calls P f args w fun e w' => Kp [r] w w' ∧ ((∃ c, F = .er c ∧ e = .panicked [flt c] ∧ ∃ p, RdrAt w' r s p) ∨ (∃ a l, e = .returned (g a) ∧ Rdr w' r s l ∧ x = .ok a l ∧ f2 a l = F)) := by
  refine h.mono fun e w' hh => ⟨hh.1, ?_⟩
  cases x with
  | ok a l => exact .inr ⟨a, l, hh.2.1, hh.2.2, rfl, hF⟩
  | er c => exact .inl ⟨c, hF.symm, hh.2.1, hh.2.2⟩
def boolV (b : Bool) : Value := .bool b
/-- A line's text, behind what was read of it. -/
def textG : List UInt8 → List UInt8 → Pr ByteArray
  | _, [] => .er 3
  | out, c :: t => if plainB c then (if out.length < 128 then textG (out ++ [c]) t else .er 4) else (endP (c :: t)).bind fun _ l => .ok (bsv out) l
theorem textG_cons (out : List UInt8) (c : UInt8) (t : List UInt8) : textG out (c :: t) = if plainB c then (if out.length < 128 then textG (out ++ [c]) t else .er 4) else (endP (c :: t)).bind fun _ l => .ok (bsv out) l := rfl
set_option maxHeartbeats 1000000 in
theorem text_any (r : Nat) (s : ByteArray) (l : List UInt8) (w : World) (h : Rdr w r s l) (hz : s.size ≤ 1000000000) :
    Calls Try.prog 55 #[.pointer (some ⟨r, 0, none⟩)] w (RdOut strV r s w (textG [] l)) := by
  obtain ⟨p0, hr, hp0, hd⟩ := h
  obtain ⟨F, hF⟩ : ∃ F, textG [] l = F := ⟨_, rfl⟩
  rw [hF]
  obtain ⟨c0, c1⟩ := hr.cells
  have HH := Lib.hid hr
  have HD := Lib.hid hd
  have HF := Lib.hid hF
  clear hd hr hF
  go_enter Try.func55, Try.ntmps55
  go_wp2_with fail
  go_loopg [] (l.length + 1) (fun gk wr => ∃ (out t : List UInt8) (p : Nat), gk = t.length + 1 ∧ p = p0 + out.length ∧ RdrAt wr r s p ∧ p ≤ s.size ∧ s.toList.drop p = t ∧ out = (s.toList.drop p0).take out.length ∧ textG out t = F ∧ Kp [r] w wr)
  case atStart => exact ⟨[], l, p0, rfl, rfl, HH.out, hp0, HD.out, by simp, HF.out, Kp.refl _ _⟩
  case round =>
    clear HH HD HF c0 c1
    obtain ⟨out, t, p, hgk, hpp, hr, hps0, hd, hout, hF, hkp⟩ := hrel
    obtain ⟨c0, c1⟩ := hr.cells
    have f1 := heap_frozen hr 1
    have HH := Lib.hid hr
    have HD0 := Lib.hid hd
    have HPP := Lib.hid hpp
    have HO := Lib.hid hout
    have HK := Lib.hid hkp
    cases t with
    | nil =>
      have hl := congrArg List.length hd
      rw [List.length_drop, size_list, List.length_nil] at hl
      have hF' : F = .er 3 := by rw [← hF]; rfl
      subst hF'
      have HP := Lib.hid (peek_end r s p wr hr (by omega) (by omega))
      clear hl hd hr hF hout hkp hpp
      go_wp2_with fail
      refine HP.out.mono ?_
      rintro e w1 ⟨rfl, hx⟩
      exact ⟨rfl, HK.out.then hx, rfl, p, HH.out.ext hx⟩
    | cons c t2 =>
      obtain ⟨hps, hsk⟩ := byte_of hd
      have hpk := peek_at r s p wr hr hps hz
      rw [hsk] at hpk
      have HP := Lib.hid hpk
      have HD1 := Lib.hid (drop_next hd)
      rw [textG_cons] at hF
      clear hpk hd hr hout hkp hpp hsk
      go_wp2_with fail
      refine HP.out.mono ?_
      rintro e w1 ⟨rfl, hx⟩
      have HX := Lib.hid hx
      go_wp2_with fail
      refine (plain_any c w1).mono ?_
      rintro e _ ⟨rfl, rfl⟩
      have hr1 := HH.out.ext hx
      have HH1 := Lib.hid hr1
      replace HK := Lib.hid (HK.out.then hx)
      clear c0 c1 f1 hx HP HX
      obtain ⟨c0, c1⟩ := hr1.cells
      have f1 := heap_frozen hr1 1
      clear hr1
      by_cases hpl : plainB c
      · rw [decide_eq_true hpl]
        rw [if_pos hpl] at hF
        by_cases h128 : out.length < 128
        · rw [if_pos h128] at hF
          have hm0 : (p : Int) - (p0 : Int) < 128 := by have := HPP.out; omega
          have HFN := Lib.hid hF
          clear hF hpl
          go_wp2_with fail
          refine (must_yes 4 w1).mono ?_
          rintro e _ ⟨rfl, rfl⟩
          go_wp2_with fail
          have hs : RdrAt (w1.setCell ⟨r, 1, none⟩ (.int .i64 ((p : Int) + 1))) r s (p + 1) := HH1.out.set (p + 1)
          have hks : Kp [r] w (w1.setCell ⟨r, 1, none⟩ (.int .i64 ((p : Int) + 1))) := HK.out.and (Kp.store r 1 _ (by simp))
          go_roundg (t2.length + 1)
          case measure => rw [hgk]; simp
          case rel => exact ⟨out ++ [c], t2, p + 1, rfl, by have := HPP.out; rw [List.length_append]; simp; omega, hs, by omega, HD1.out, by
            have h1 := HO.out
            have h2 := HD0.out
            have h3 := HPP.out
            rw [List.length_append, List.length_singleton, List.take_add_one, ← h1, List.getElem?_drop, ← h3]
            congr 1
            have h4 : s.toList[p]? = some c := by
              have := congrArg (fun l => l[0]?) h2
              simpa using this
            rw [h4]
            rfl, HFN.out, hks⟩
        · rw [if_neg h128] at hF
          have hm0 : decide ((p : Int) - (p0 : Int) < 128) = false := decide_eq_false (by have := HPP.out; omega)
          have hm1 : ¬ (p : Int) - (p0 : Int) < 128 := by have := HPP.out; omega
          subst hF
          clear hpl
          go_wp2_with fail
          refine (must_no 4 w1).mono ?_
          rintro e _ ⟨rfl, rfl⟩
          exact ⟨rfl, HK.out, rfl, p, HH1.out⟩
      · rw [decide_eq_false hpl]
        rw [if_neg hpl] at hF
        have HFN := Lib.hid hF
        have hsl : (0 : Int) ≤ (p0 : Int) ∧ (p0 : Int) ≤ (p : Int) ∧ (p : Int) ≤ (s.size : Int) := by have := HPP.out; omega
        have hsl2 : p0 ≤ p ∧ p ≤ s.size := by omega
        clear hF hpl
        go_wp2_with fail
        go_quiet (fail)
        go_wp2_with fail
        have hex : Hid (s.extract p0 p = bsv out) := Lib.hid (by
          apply bytes_ext
          unfold bsv
          have h1 := HO.out
          have h3 := HPP.out
          rw [toList_mk, h1, Lib.toList_data, Lib.toList_data]
          simp
          congr 1
          omega)
        have hxq := Ext.drewN nq w1
        replace HK := Lib.hid (HK.out.then hxq)
        have hrd : Rdr (w1.drewN nq) r s (c :: t2) := ⟨p, HH1.out.ext hxq, hps0, HD0.out⟩
        have HRD := Lib.hid hrd
        have HF := Lib.hid HFN.out
        clear hxq hrd HFN HH HH1 c0 c1 f1
        generalize w1.drewN nq = w2 at HK HRD ⊢
        refine (rd_bind (end_any r s _ w2 HRD.out hz) HF.out).mono ?_
        rintro e w3 ⟨hk, ⟨c, rfl, rfl, q, hq⟩ | ⟨a, l1, rfl, hr1, hx1, hF1⟩⟩
        · exact ⟨rfl, HK.out.and hk, rfl, q, hq⟩
        replace HK := Lib.hid (HK.out.and hk)
        have HR1 := Lib.hid hr1
        subst hF1
        clear hk hr1
        go_wp2_with fail
        go_ret
        rw [hex.out]
        exact ⟨HK.out, rfl, HR1.out⟩
/-- A sign, if there is one. -/
def minusP : List UInt8 → Pr Bool
  | [] => .er 3
  | c :: t => if c = 45 then .ok true t else .ok false (c :: t)
theorem minusP_cons (c : UInt8) (t : List UInt8) : minusP (c :: t) = if c = 45 then .ok true t else .ok false (c :: t) := rfl
theorem minus_any (r : Nat) (s : ByteArray) (l : List UInt8) (w : World) (h : Rdr w r s l) (hz : s.size ≤ 1000000000) :
    Calls Try.prog 57 #[.pointer (some ⟨r, 0, none⟩)] w (RdOut boolV r s w (minusP l)) := by
  obtain ⟨p, hr, hp, hd⟩ := h
  cases l with
  | nil =>
    have hl := congrArg List.length hd
    rw [List.length_drop, size_list, List.length_nil] at hl
    have HP := Lib.hid (peek_end r s p w hr (by omega) (by omega))
    have HH := Lib.hid hr
    clear hl hd hr
    go_enter Try.func57, Try.ntmps57
    go_wp2_with fail
    refine HP.out.mono ?_
    rintro e w1 ⟨rfl, hx⟩
    exact ⟨rfl, Kp.of_ext hx, rfl, p, HH.out.ext hx⟩
  | cons c t =>
    obtain ⟨hps, hsk⟩ := byte_of hd
    have hpk := peek_at r s p w hr hps hz
    rw [hsk] at hpk
    have HP := Lib.hid hpk
    have HH := Lib.hid hr
    have HD0 := Lib.hid hd
    have HD := Lib.hid (drop_next hd)
    clear hpk hsk hd hr
    by_cases hcx : c = 45
    · subst hcx
      have hR : minusP (45 :: t) = .ok true t := by rw [minusP_cons, if_pos rfl]
      rw [hR]
      clear hR
      go_enter Try.func57, Try.ntmps57
      go_wp2_with fail
      refine HP.out.mono ?_
      rintro e w1 ⟨rfl, hx⟩
      have HX := Lib.hid hx
      have HH1 := Lib.hid (HH.out.ext hx)
      clear hx
      obtain ⟨c0, c1⟩ := HH1.out.cells
      have f1 := heap_frozen HH1.out 1
      have e45 : ((UInt8.toNat 45 : Nat) : Int) = 45 := rfl
      go_wp2_with fail
      go_ret
      have hs := HH1.out.set (p + 1)
      exact ⟨(Kp.of_ext HX.out).and (Kp.store r 1 _ (by simp)), rfl, p + 1, hs, by omega, HD.out⟩
    · have hR : minusP (c :: t) = .ok false (c :: t) := if_neg hcx
      rw [hR]
      have hcB := byte_ne hcx
      have hcC : ((c.toNat : Int) != 45) = true := by simpa [bne] using hcB
      clear hR
      go_enter Try.func57, Try.ntmps57
      go_wp2_with fail
      refine HP.out.mono ?_
      rintro e w1 ⟨rfl, hx⟩
      have HX := Lib.hid hx
      clear hx
      go_wp2_with fail
      go_ret
      exact ⟨Kp.of_ext HX.out, rfl, p, HH.out.ext HX.out, hp, HD0.out⟩
/-- A number of many digits, and the end of its line. -/
def wholeP (l : List UInt8) : Pr Int :=
  (minusP l).bind fun m l => (numG 19 m 0 false 0 l).bind fun n l => if m = true ∧ 0 ≤ n then .er 4 else (endP l).bind fun _ l => .ok n l
set_option maxHeartbeats 1000000 in
theorem whole_any (r : Nat) (s : ByteArray) (l : List UInt8) (w : World) (h : Rdr w r s l) (hz : s.size ≤ 1000000000) :
    Calls Try.prog 56 #[.pointer (some ⟨r, 0, none⟩)] w (RdOut intV r s w (wholeP l)) := by
  obtain ⟨F, hF⟩ : ∃ F, wholeP l = F := ⟨_, rfl⟩
  rw [hF]
  have HF : Hid (wholeP l = F) := Lib.hid hF
  unfold wholeP at HF
  have HR := Lib.hid h
  have HK := Lib.hid (Kp.refl [r] w)
  clear h hF
  go_enter Try.func56, Try.ntmps56
  go_wp2_with fail
  refine (rd_bind (minus_any r s l w HR.out hz) HF.out).mono ?_
  rintro e w2 ⟨hk, ⟨c, rfl, rfl, q, hq⟩ | ⟨m, l2, rfl, hr1, hx1, hF1⟩⟩
  · exact ⟨rfl, HK.out.and hk, rfl, q, hq⟩
  replace HK := Lib.hid (HK.out.and hk)
  replace HR := Lib.hid hr1
  replace HF := Lib.hid hF1
  clear hk hr1 hF1
  try simp only [intV, unitV, boolV, strV]
  clear hx1
  go_wp2_with fail
  refine (rd_bind (number_any r s l2 19 m w2 HR.out hz (by omega)) HF.out).mono ?_
  rintro e w3 ⟨hk, ⟨c, rfl, rfl, q, hq⟩ | ⟨n, l3, rfl, hr1, hx1, hF1⟩⟩
  · exact ⟨rfl, HK.out.and hk, rfl, q, hq⟩
  replace HK := Lib.hid (HK.out.and hk)
  replace HR := Lib.hid hr1
  replace HF := Lib.hid hF1
  clear hk hr1 hF1
  try simp only [intV, unitV, boolV, strV]
  clear hx1
  cases m with
  | false =>
    have hF2 := HF.out
    rw [if_neg (by simp)] at hF2
    replace HF := Lib.hid hF2
    clear hF2
    go_wp2_with fail
    refine (must_yes 4 _).mono ?_
    rintro e _ ⟨rfl, rfl⟩
    go_wp2_with fail
    refine (rd_bind (end_any r s l3 w3 HR.out hz) HF.out).mono ?_
    rintro e w4 ⟨hk, ⟨c, rfl, rfl, q, hq⟩ | ⟨a, l4, rfl, hr1, hx1, hF1⟩⟩
    · exact ⟨rfl, HK.out.and hk, rfl, q, hq⟩
    replace HK := Lib.hid (HK.out.and hk)
    replace HR := Lib.hid hr1
    replace HF := Lib.hid hF1
    clear hk hr1 hF1
    try simp only [intV, unitV, boolV, strV]
    go_wp2_with fail
    go_ret
    rw [← HF.out]
    exact ⟨HK.out, rfl, HR.out⟩
  | true =>
    by_cases hn : n < 0
    · have hF2 := HF.out
      rw [if_neg (by rintro ⟨_, h⟩; omega)] at hF2
      replace HF := Lib.hid hF2
      clear hF2
      go_wp2_with fail
      refine (must_yes 4 _).mono ?_
      rintro e _ ⟨rfl, rfl⟩
      go_wp2_with fail
      refine (rd_bind (end_any r s l3 w3 HR.out hz) HF.out).mono ?_
      rintro e w4 ⟨hk, ⟨c, rfl, rfl, q, hq⟩ | ⟨a, l4, rfl, hr1, hx1, hF1⟩⟩
      · exact ⟨rfl, HK.out.and hk, rfl, q, hq⟩
      replace HK := Lib.hid (HK.out.and hk)
      replace HR := Lib.hid hr1
      replace HF := Lib.hid hF1
      clear hk hr1 hF1
      try simp only [intV, unitV, boolV, strV]
      go_wp2_with fail
      go_ret
      rw [← HF.out]
      exact ⟨HK.out, rfl, HR.out⟩
    · have hF2 := HF.out
      rw [if_pos ⟨rfl, by omega⟩] at hF2
      subst hF2
      clear HF
      have hnB : decide (n < 0) = false := decide_eq_false hn
      go_wp2_with fail
      refine (must_no 4 _).mono ?_
      rintro e _ ⟨rfl, rfl⟩
      obtain ⟨q, hq, _⟩ := HR.out
      exact ⟨rfl, HK.out, rfl, q, hq⟩
def bulkP (l : List UInt8) : Pr Itm :=
  (numG 9 false 0 false 0 l).bind fun n l => if n ≤ 512 then (endP l).bind fun _ l => (bytesP n.toNat l).bind fun s l => .ok ⟨4, 0, s⟩ l else .er 4
def itemK (c : UInt8) (l : List UInt8) : Pr Itm :=
  if c = 43 then (textG [] l).bind fun s l => .ok ⟨1, 0, s⟩ l
  else if c = 45 then (textG [] l).bind fun s l => .ok ⟨2, 0, s⟩ l
  else if c = 58 then (wholeP l).bind fun n l => .ok ⟨3, n, ⟨#[]⟩⟩ l
  else if c = 42 then (numG 9 false 0 false 0 l).bind fun n l => if n ≤ 100000 then (endP l).bind fun _ l => .ok ⟨6, n, ⟨#[]⟩⟩ l else .er 4
  else if c = 36 then (minusP l).bind fun m l => if m = true then (expP 49 l).bind fun _ l => (endP l).bind fun _ l => .ok ⟨5, 0, ⟨#[]⟩⟩ l else bulkP l
  else .er 4
/-- An item read. -/
def itemP : List UInt8 → Pr Itm
  | [] => .er 3
  | c :: l => itemK c l
theorem byte_eq {c x : UInt8} (h : c = x) : ((c.toNat : Int) == (x.toNat : Int)) = true := by subst h; simp
theorem set3 {w : World} {b : Nat} {t : TypeId} {u0 u1 u2 : Value} (v0 v1 v2 : Value) (h : w.heap[b]? = some (.cells #[u0, u1, u2] t (0, 0))) : (((w.setCell ⟨b, 0, none⟩ v0).setCell ⟨b, 1, none⟩ v1).setCell ⟨b, 2, none⟩ v2).heap[b]? = some (.cells #[v0, v1, v2] t (0, 0)) := by
  have h1 := heap_setCell_same w b 0 _ t v0 h
  have h2 := heap_setCell_same _ b 1 _ t v1 h1
  exact heap_setCell_same _ b 2 _ t v2 h2
set_option maxHeartbeats 4000000 in
theorem item_any (r : Nat) (s : ByteArray) (l : List UInt8) (w : World) (h : Rdr w r s l) (hz : s.size ≤ 1000000000) :
    Calls Try.prog 43 #[.pointer (some ⟨r, 0, none⟩)] w (RdOut itV r s w (itemP l)) := by
  obtain ⟨p, hr, hp, hd⟩ := h
  obtain ⟨F, hF⟩ : ∃ F, itemP l = F := ⟨_, rfl⟩
  rw [hF]
  have hx0 := Ext.alloc w (.cells #[.int .i64 0, .int .i64 0, .string ⟨#[]⟩] 47)
  have hb0 := heap_alloc_new w (.cells #[.int .i64 0, .int .i64 0, .string ⟨#[]⟩] 47 (0, 0))
  have HR0 := Lib.hid (hr.ext hx0)
  have hrl := (Array.getElem?_eq_some_iff.1 hr).1
  have HNE : Hid (w.heap.size ∉ [r]) := Lib.hid (by simp; omega)
  have HX0 := Lib.hid hx0
  have HB0 := Lib.hid hb0
  clear hr hrl hx0 hb0
  go_enter Try.func43, Try.ntmps43
  go_wp2_with fail
  obtain ⟨b, hb⟩ : ∃ b, b = w.heap.size := ⟨_, rfl⟩
  rw [← hb] at HB0 HNE ⊢
  have HBE := Lib.hid hb
  clear hb
  generalize w.alloc (.cells #[.int .i64 0, .int .i64 0, .string ⟨#[]⟩] 47) = w0 at HR0 HX0 HB0 ⊢
  cases l with
  | nil =>
    have hl := congrArg List.length hd
    rw [List.length_drop, size_list, List.length_nil] at hl
    have HP := Lib.hid (peek_end r s p w0 HR0.out (by omega) (by omega))
    have hf : F = .er 3 := by rw [← hF]; rfl
    subst hf
    refine HP.out.mono ?_
    rintro e w1 ⟨rfl, hx⟩
    exact ⟨rfl, Kp.of_ext (HX0.out.trans hx), rfl, p, HR0.out.ext hx⟩
  | cons c t =>
    obtain ⟨hps, hsk⟩ := byte_of hd
    have hpk := peek_at r s p w0 HR0.out hps hz
    rw [hsk] at hpk
    have HP := Lib.hid hpk
    have HD := Lib.hid (drop_next hd)
    have HF : Hid (itemK c t = F) := Lib.hid hF
    clear hpk hsk hd hF
    refine HP.out.mono ?_
    rintro e w1 ⟨rfl, hx⟩
    have HX := Lib.hid (HX0.out.trans hx)
    have HB1 := Lib.hid ((Kp.of_ext (L := []) hx).heap HB0.out (by simp))
    have HH1 := Lib.hid (HR0.out.ext hx)
    clear hx HP
    obtain ⟨c0, c1⟩ := HH1.out.cells
    have f1 := heap_frozen HH1.out 1
    go_upto_region 3 with fail
    have hs : RdrAt (w1.setCell ⟨r, 1, none⟩ (.int .i64 ((p : Int) + 1))) r s (p + 1) := HH1.out.set (p + 1)
    have hks : Kp [r] w1 (w1.setCell ⟨r, 1, none⟩ (.int .i64 ((p : Int) + 1))) := Kp.store r 1 _ (by simp)
    have HK := Lib.hid ((Kp.of_ext HX.out).and hks)
    have HB := Lib.hid (hks.heap HB1.out HNE.out)
    have HR : Hid (Rdr (w1.setCell ⟨r, 1, none⟩ (.int .i64 ((p : Int) + 1))) r s t) := Lib.hid ⟨p + 1, hs, by omega, HD.out⟩
    clear c0 c1 f1 hs hks HB1 HB0 HH1 HR0 HX HX0
    generalize w1.setCell ⟨r, 1, none⟩ (.int .i64 ((p : Int) + 1)) = w2 at HK HB HR ⊢
    have HF1 := HF.out
    unfold itemK at HF1
    by_cases kk : c = 43
    · have HF2 : (textG [] t).bind (fun s l => Pr.ok (⟨1, 0, s⟩ : Itm) l) = F := by rw [if_pos kk] at HF1; exact HF1
      clear HF1
      have kBB : ((c.toNat : Int) == 43) = true := byte_eq kk
      replace HF := Lib.hid HF2
      clear HF2 kk
      go_wp2_with fail
      clear kBB
      refine (rd_bind (text_any r s t w2 HR.out hz) HF.out).mono ?_
      rintro e w3 ⟨hk, ⟨c, rfl, rfl, q, hq⟩ | ⟨x, l2, rfl, hr1, hx1, hF1⟩⟩
      · exact ⟨rfl, HK.out.and hk, rfl, q, hq⟩
      replace HK := Lib.hid (HK.out.and hk)
      replace HB := Lib.hid (hk.heap HB.out HNE.out)
      replace HR := Lib.hid hr1
      replace HF := Lib.hid hF1
      clear hk hr1 hF1 hx1
      try simp only [intV, unitV, boolV, strV]
      have b0 := heap_cell HB.out 0
      have b1 := heap_cell HB.out 1
      have b2 := heap_cell HB.out 2
      have g0 := heap_frozen HB.out 0
      have g1 := heap_frozen HB.out 1
      have g2 := heap_frozen HB.out 2
      go_wp2_with fail
      clear b0 b1 b2 g0 g1 g2
      have hbn := set3 (.int .i64 (1)) (.int .i64 (0)) (.string (x)) HB.out
      have hkn : Kp [b] w3 (((w3.setCell ⟨b, 0, none⟩ (.int .i64 (1))).setCell ⟨b, 1, none⟩ (.int .i64 (0))).setCell ⟨b, 2, none⟩ (.string (x))) := ((Kp.store b 0 _ (by simp)).and (Kp.store b 1 _ (by simp))).and (Kp.store b 2 _ (by simp))
      generalize ((w3.setCell ⟨b, 0, none⟩ (.int .i64 (1))).setCell ⟨b, 1, none⟩ (.int .i64 (0))).setCell ⟨b, 2, none⟩ (.string (x)) = w9 at hbn hkn ⊢
      have q0 := heap_cell hbn 0
      have q1 := heap_cell hbn 1
      have q2 := heap_cell hbn 2
      have hkk : Kp [r] w w9 := HK.out.trans hkn (fun k hk => .inr (by simp at hk; rw [hk, HBE.out]; exact Nat.le_refl _))
      have hrr := HR.out.kp hkn (by have := HNE.out; simp at this ⊢; exact fun h => this h.symm)
      have hff : F = .ok ⟨1, 0, x⟩ _ := HF.out.symm
      refine bodyPost_ret (v := .agg #[.int .i64 (1), .int .i64 (0), .string (x)]) (by simp [results, Try.results43, go_sem, q0, q1, q2]) rfl ?_
      rw [hff]
      exact ⟨hkk, rfl, hrr⟩
    rw [if_neg kk] at HF1
    have kB43 : ((c.toNat : Int) == 43) = false := byte_ne kk
    clear kk
    by_cases kk : c = 45
    · have HF2 : (textG [] t).bind (fun s l => Pr.ok (⟨2, 0, s⟩ : Itm) l) = F := by rw [if_pos kk] at HF1; exact HF1
      clear HF1
      have kBB : ((c.toNat : Int) == 45) = true := byte_eq kk
      replace HF := Lib.hid HF2
      clear HF2 kk
      go_wp2_with fail
      clear kBB
      refine (rd_bind (text_any r s t w2 HR.out hz) HF.out).mono ?_
      rintro e w3 ⟨hk, ⟨c, rfl, rfl, q, hq⟩ | ⟨x, l2, rfl, hr1, hx1, hF1⟩⟩
      · exact ⟨rfl, HK.out.and hk, rfl, q, hq⟩
      replace HK := Lib.hid (HK.out.and hk)
      replace HB := Lib.hid (hk.heap HB.out HNE.out)
      replace HR := Lib.hid hr1
      replace HF := Lib.hid hF1
      clear hk hr1 hF1 hx1
      try simp only [intV, unitV, boolV, strV]
      have b0 := heap_cell HB.out 0
      have b1 := heap_cell HB.out 1
      have b2 := heap_cell HB.out 2
      have g0 := heap_frozen HB.out 0
      have g1 := heap_frozen HB.out 1
      have g2 := heap_frozen HB.out 2
      go_wp2_with fail
      clear b0 b1 b2 g0 g1 g2
      have hbn := set3 (.int .i64 (2)) (.int .i64 (0)) (.string (x)) HB.out
      have hkn : Kp [b] w3 (((w3.setCell ⟨b, 0, none⟩ (.int .i64 (2))).setCell ⟨b, 1, none⟩ (.int .i64 (0))).setCell ⟨b, 2, none⟩ (.string (x))) := ((Kp.store b 0 _ (by simp)).and (Kp.store b 1 _ (by simp))).and (Kp.store b 2 _ (by simp))
      generalize ((w3.setCell ⟨b, 0, none⟩ (.int .i64 (2))).setCell ⟨b, 1, none⟩ (.int .i64 (0))).setCell ⟨b, 2, none⟩ (.string (x)) = w9 at hbn hkn ⊢
      have q0 := heap_cell hbn 0
      have q1 := heap_cell hbn 1
      have q2 := heap_cell hbn 2
      have hkk : Kp [r] w w9 := HK.out.trans hkn (fun k hk => .inr (by simp at hk; rw [hk, HBE.out]; exact Nat.le_refl _))
      have hrr := HR.out.kp hkn (by have := HNE.out; simp at this ⊢; exact fun h => this h.symm)
      have hff : F = .ok ⟨2, 0, x⟩ _ := HF.out.symm
      refine bodyPost_ret (v := .agg #[.int .i64 (2), .int .i64 (0), .string (x)]) (by simp [results, Try.results43, go_sem, q0, q1, q2]) rfl ?_
      rw [hff]
      exact ⟨hkk, rfl, hrr⟩
    rw [if_neg kk] at HF1
    have kB45 : ((c.toNat : Int) == 45) = false := byte_ne kk
    clear kk
    by_cases kk : c = 58
    · have HF2 : (wholeP t).bind (fun n l => Pr.ok (⟨3, n, ⟨#[]⟩⟩ : Itm) l) = F := by rw [if_pos kk] at HF1; exact HF1
      clear HF1
      have kBB : ((c.toNat : Int) == 58) = true := byte_eq kk
      replace HF := Lib.hid HF2
      clear HF2 kk
      go_wp2_with fail
      clear kBB
      refine (rd_bind (whole_any r s t w2 HR.out hz) HF.out).mono ?_
      rintro e w3 ⟨hk, ⟨c, rfl, rfl, q, hq⟩ | ⟨n, l2, rfl, hr1, hx1, hF1⟩⟩
      · exact ⟨rfl, HK.out.and hk, rfl, q, hq⟩
      replace HK := Lib.hid (HK.out.and hk)
      replace HB := Lib.hid (hk.heap HB.out HNE.out)
      replace HR := Lib.hid hr1
      replace HF := Lib.hid hF1
      clear hk hr1 hF1 hx1
      try simp only [intV, unitV, boolV, strV]
      have b0 := heap_cell HB.out 0
      have b1 := heap_cell HB.out 1
      have b2 := heap_cell HB.out 2
      have g0 := heap_frozen HB.out 0
      have g1 := heap_frozen HB.out 1
      have g2 := heap_frozen HB.out 2
      go_wp2_with fail
      clear b0 b1 b2 g0 g1 g2
      have hbn := set3 (.int .i64 (3)) (.int .i64 (n)) (.string (⟨#[]⟩)) HB.out
      have hkn : Kp [b] w3 (((w3.setCell ⟨b, 0, none⟩ (.int .i64 (3))).setCell ⟨b, 1, none⟩ (.int .i64 (n))).setCell ⟨b, 2, none⟩ (.string (⟨#[]⟩))) := ((Kp.store b 0 _ (by simp)).and (Kp.store b 1 _ (by simp))).and (Kp.store b 2 _ (by simp))
      generalize ((w3.setCell ⟨b, 0, none⟩ (.int .i64 (3))).setCell ⟨b, 1, none⟩ (.int .i64 (n))).setCell ⟨b, 2, none⟩ (.string (⟨#[]⟩)) = w9 at hbn hkn ⊢
      have q0 := heap_cell hbn 0
      have q1 := heap_cell hbn 1
      have q2 := heap_cell hbn 2
      have hkk : Kp [r] w w9 := HK.out.trans hkn (fun k hk => .inr (by simp at hk; rw [hk, HBE.out]; exact Nat.le_refl _))
      have hrr := HR.out.kp hkn (by have := HNE.out; simp at this ⊢; exact fun h => this h.symm)
      have hff : F = .ok ⟨3, n, ⟨#[]⟩⟩ _ := HF.out.symm
      refine bodyPost_ret (v := .agg #[.int .i64 (3), .int .i64 (n), .string (⟨#[]⟩)]) (by simp [results, Try.results43, go_sem, q0, q1, q2]) rfl ?_
      rw [hff]
      exact ⟨hkk, rfl, hrr⟩
    rw [if_neg kk] at HF1
    have kB58 : ((c.toNat : Int) == 58) = false := byte_ne kk
    clear kk
    by_cases kk : c = 42
    · have HF2 : (numG 9 false 0 false 0 t).bind (fun n l => if n ≤ 100000 then (endP l).bind fun _ l => Pr.ok (⟨6, n, ⟨#[]⟩⟩ : Itm) l else .er 4) = F := by rw [if_pos kk] at HF1; exact HF1
      clear HF1
      have kBB : ((c.toNat : Int) == 42) = true := byte_eq kk
      replace HF := Lib.hid HF2
      clear HF2 kk
      go_wp2_with fail
      clear kBB
      refine (rd_bind (number_any r s t 9 false w2 HR.out hz (by omega)) HF.out).mono ?_
      rintro e w3 ⟨hk, ⟨c, rfl, rfl, q, hq⟩ | ⟨n, l2, rfl, hr1, hx1, hF1⟩⟩
      · exact ⟨rfl, HK.out.and hk, rfl, q, hq⟩
      replace HK := Lib.hid (HK.out.and hk)
      replace HB := Lib.hid (hk.heap HB.out HNE.out)
      replace HR := Lib.hid hr1
      replace HF := Lib.hid hF1
      clear hk hr1 hF1 hx1
      try simp only [intV, unitV, boolV, strV]
      have hF2 := HF.out
      by_cases hn : n ≤ 100000
      · rw [if_pos hn] at hF2
        replace HF := Lib.hid hF2
        clear hF2
        go_wp2_with fail
        refine (must_yes 4 _).mono ?_
        rintro e _ ⟨rfl, rfl⟩
        go_wp2_with fail
        refine (rd_bind (end_any r s l2 w3 HR.out hz) HF.out).mono ?_
        rintro e w4 ⟨hk, ⟨c, rfl, rfl, q, hq⟩ | ⟨a, l3, rfl, hr1, hx1, hF1⟩⟩
        · exact ⟨rfl, HK.out.and hk, rfl, q, hq⟩
        replace HK := Lib.hid (HK.out.and hk)
        replace HB := Lib.hid (hk.heap HB.out HNE.out)
        replace HR := Lib.hid hr1
        replace HF := Lib.hid hF1
        clear hk hr1 hF1 hx1
        try simp only [intV, unitV, boolV, strV]
        have b0 := heap_cell HB.out 0
        have b1 := heap_cell HB.out 1
        have b2 := heap_cell HB.out 2
        have g0 := heap_frozen HB.out 0
        have g1 := heap_frozen HB.out 1
        have g2 := heap_frozen HB.out 2
        go_wp2_with fail
        clear b0 b1 b2 g0 g1 g2
        have hbn := set3 (.int .i64 (6)) (.int .i64 (n)) (.string (⟨#[]⟩)) HB.out
        have hkn : Kp [b] w4 (((w4.setCell ⟨b, 0, none⟩ (.int .i64 (6))).setCell ⟨b, 1, none⟩ (.int .i64 (n))).setCell ⟨b, 2, none⟩ (.string (⟨#[]⟩))) := ((Kp.store b 0 _ (by simp)).and (Kp.store b 1 _ (by simp))).and (Kp.store b 2 _ (by simp))
        generalize ((w4.setCell ⟨b, 0, none⟩ (.int .i64 (6))).setCell ⟨b, 1, none⟩ (.int .i64 (n))).setCell ⟨b, 2, none⟩ (.string (⟨#[]⟩)) = w9 at hbn hkn ⊢
        have q0 := heap_cell hbn 0
        have q1 := heap_cell hbn 1
        have q2 := heap_cell hbn 2
        have hkk : Kp [r] w w9 := HK.out.trans hkn (fun k hk => .inr (by simp at hk; rw [hk, HBE.out]; exact Nat.le_refl _))
        have hrr := HR.out.kp hkn (by have := HNE.out; simp at this ⊢; exact fun h => this h.symm)
        have hff : F = .ok ⟨6, n, ⟨#[]⟩⟩ _ := HF.out.symm
        refine bodyPost_ret (v := .agg #[.int .i64 (6), .int .i64 (n), .string (⟨#[]⟩)]) (by simp [results, Try.results43, go_sem, q0, q1, q2]) rfl ?_
        rw [hff]
        exact ⟨hkk, rfl, hrr⟩
      · rw [if_neg hn] at hF2
        have hnB : decide (n ≤ 100000) = false := decide_eq_false hn
        subst hF2
        clear HF
        go_wp2_with fail
        refine (must_no 4 _).mono ?_
        rintro e _ ⟨rfl, rfl⟩
        obtain ⟨q, hq, _⟩ := HR.out
        exact ⟨rfl, HK.out, rfl, q, hq⟩
    rw [if_neg kk] at HF1
    have kB42 : ((c.toNat : Int) == 42) = false := byte_ne kk
    clear kk
    by_cases kk : c = 36
    · have HF2 : (minusP t).bind (fun m l => if m = true then (expP 49 l).bind fun _ l => (endP l).bind fun _ l => Pr.ok (⟨5, 0, ⟨#[]⟩⟩ : Itm) l else bulkP l) = F := by rw [if_pos kk] at HF1; exact HF1
      clear HF1
      have kBB : ((c.toNat : Int) == 36) = true := byte_eq kk
      replace HF := Lib.hid HF2
      clear HF2 kk
      go_wp2_with fail
      clear kBB
      refine (rd_bind (minus_any r s t w2 HR.out hz) HF.out).mono ?_
      rintro e w3 ⟨hk, ⟨c, rfl, rfl, q, hq⟩ | ⟨m, l2, rfl, hr1, hx1, hF1⟩⟩
      · exact ⟨rfl, HK.out.and hk, rfl, q, hq⟩
      replace HK := Lib.hid (HK.out.and hk)
      replace HB := Lib.hid (hk.heap HB.out HNE.out)
      replace HR := Lib.hid hr1
      replace HF := Lib.hid hF1
      clear hk hr1 hF1 hx1
      try simp only [intV, unitV, boolV, strV]
      have hF2 := HF.out
      cases m with
      | true =>
        rw [if_pos rfl] at hF2
        replace HF := Lib.hid hF2
        clear hF2
        go_wp2_with fail
        refine (rd_bind (expect_any r s l2 49 w3 HR.out hz) HF.out).mono ?_
        rintro e w4 ⟨hk, ⟨c, rfl, rfl, q, hq⟩ | ⟨a, l3, rfl, hr1, hx1, hF1⟩⟩
        · exact ⟨rfl, HK.out.and hk, rfl, q, hq⟩
        replace HK := Lib.hid (HK.out.and hk)
        replace HB := Lib.hid (hk.heap HB.out HNE.out)
        replace HR := Lib.hid hr1
        replace HF := Lib.hid hF1
        clear hk hr1 hF1 hx1
        try simp only [intV, unitV, boolV, strV]
        go_wp2_with fail
        refine (rd_bind (end_any r s l3 w4 HR.out hz) HF.out).mono ?_
        rintro e w5 ⟨hk, ⟨c, rfl, rfl, q, hq⟩ | ⟨a2, l4, rfl, hr1, hx1, hF1⟩⟩
        · exact ⟨rfl, HK.out.and hk, rfl, q, hq⟩
        replace HK := Lib.hid (HK.out.and hk)
        replace HB := Lib.hid (hk.heap HB.out HNE.out)
        replace HR := Lib.hid hr1
        replace HF := Lib.hid hF1
        clear hk hr1 hF1 hx1
        try simp only [intV, unitV, boolV, strV]
        have b0 := heap_cell HB.out 0
        have b1 := heap_cell HB.out 1
        have b2 := heap_cell HB.out 2
        have g0 := heap_frozen HB.out 0
        have g1 := heap_frozen HB.out 1
        have g2 := heap_frozen HB.out 2
        go_wp2_with fail
        clear b0 b1 b2 g0 g1 g2
        have hbn := set3 (.int .i64 (5)) (.int .i64 (0)) (.string (⟨#[]⟩)) HB.out
        have hkn : Kp [b] w5 (((w5.setCell ⟨b, 0, none⟩ (.int .i64 (5))).setCell ⟨b, 1, none⟩ (.int .i64 (0))).setCell ⟨b, 2, none⟩ (.string (⟨#[]⟩))) := ((Kp.store b 0 _ (by simp)).and (Kp.store b 1 _ (by simp))).and (Kp.store b 2 _ (by simp))
        generalize ((w5.setCell ⟨b, 0, none⟩ (.int .i64 (5))).setCell ⟨b, 1, none⟩ (.int .i64 (0))).setCell ⟨b, 2, none⟩ (.string (⟨#[]⟩)) = w9 at hbn hkn ⊢
        have q0 := heap_cell hbn 0
        have q1 := heap_cell hbn 1
        have q2 := heap_cell hbn 2
        have hkk : Kp [r] w w9 := HK.out.trans hkn (fun k hk => .inr (by simp at hk; rw [hk, HBE.out]; exact Nat.le_refl _))
        have hrr := HR.out.kp hkn (by have := HNE.out; simp at this ⊢; exact fun h => this h.symm)
        have hff : F = .ok ⟨5, 0, ⟨#[]⟩⟩ _ := HF.out.symm
        refine bodyPost_ret (v := .agg #[.int .i64 (5), .int .i64 (0), .string (⟨#[]⟩)]) (by simp [results, Try.results43, go_sem, q0, q1, q2]) rfl ?_
        rw [hff]
        exact ⟨hkk, rfl, hrr⟩
      | false =>
        rw [if_neg (by simp)] at hF2
        unfold bulkP at hF2
        replace HF := Lib.hid hF2
        clear hF2
        go_wp2_with fail
        refine (rd_bind (number_any r s l2 9 false w3 HR.out hz (by omega)) HF.out).mono ?_
        rintro e w4 ⟨hk, ⟨c, rfl, rfl, q, hq⟩ | ⟨n, l3, rfl, hr1, hx1, hF1⟩⟩
        · exact ⟨rfl, HK.out.and hk, rfl, q, hq⟩
        replace HK := Lib.hid (HK.out.and hk)
        replace HB := Lib.hid (hk.heap HB.out HNE.out)
        replace HR := Lib.hid hr1
        have hn0 : 0 ≤ n := (num_range 9 (by decide) l2 0 false 0 (by decide) (by decide) (by decide) n l3 hx1).1
        obtain ⟨N, rfl⟩ : ∃ N : Nat, n = (N : Int) := ⟨n.toNat, by omega⟩
        have hF2 := hF1
        clear hk hr1 hF1 hx1 hn0
        simp only [intV]
        by_cases hn : (N : Int) ≤ 512
        · rw [if_pos hn] at hF2
          replace HF := Lib.hid hF2
          clear hF2
          go_wp2_with fail
          refine (must_yes 4 _).mono ?_
          rintro e _ ⟨rfl, rfl⟩
          go_wp2_with fail
          refine (rd_bind (end_any r s l3 w4 HR.out hz) HF.out).mono ?_
          rintro e w5 ⟨hk, ⟨c, rfl, rfl, q, hq⟩ | ⟨a, l4, rfl, hr1, hx1, hF1⟩⟩
          · exact ⟨rfl, HK.out.and hk, rfl, q, hq⟩
          replace HK := Lib.hid (HK.out.and hk)
          replace HB := Lib.hid (hk.heap HB.out HNE.out)
          replace HR := Lib.hid hr1
          replace HF := Lib.hid hF1
          clear hk hr1 hF1 hx1
          try simp only [intV, unitV, boolV, strV]
          go_wp2_with fail
          refine (rd_bind (bytes_any r s l4 N w5 HR.out hz (by omega)) HF.out).mono ?_
          rintro e w6 ⟨hk, ⟨c, rfl, rfl, q, hq⟩ | ⟨x, l5, rfl, hr1, hx1, hF1⟩⟩
          · exact ⟨rfl, HK.out.and hk, rfl, q, hq⟩
          replace HK := Lib.hid (HK.out.and hk)
          replace HB := Lib.hid (hk.heap HB.out HNE.out)
          replace HR := Lib.hid hr1
          replace HF := Lib.hid hF1
          clear hk hr1 hF1 hx1
          try simp only [intV, unitV, boolV, strV]
          have b0 := heap_cell HB.out 0
          have b1 := heap_cell HB.out 1
          have b2 := heap_cell HB.out 2
          have g0 := heap_frozen HB.out 0
          have g1 := heap_frozen HB.out 1
          have g2 := heap_frozen HB.out 2
          go_wp2_with fail
          clear b0 b1 b2 g0 g1 g2
          have hbn := set3 (.int .i64 (4)) (.int .i64 (0)) (.string (x)) HB.out
          have hkn : Kp [b] w6 (((w6.setCell ⟨b, 0, none⟩ (.int .i64 (4))).setCell ⟨b, 1, none⟩ (.int .i64 (0))).setCell ⟨b, 2, none⟩ (.string (x))) := ((Kp.store b 0 _ (by simp)).and (Kp.store b 1 _ (by simp))).and (Kp.store b 2 _ (by simp))
          generalize ((w6.setCell ⟨b, 0, none⟩ (.int .i64 (4))).setCell ⟨b, 1, none⟩ (.int .i64 (0))).setCell ⟨b, 2, none⟩ (.string (x)) = w9 at hbn hkn ⊢
          have q0 := heap_cell hbn 0
          have q1 := heap_cell hbn 1
          have q2 := heap_cell hbn 2
          have hkk : Kp [r] w w9 := HK.out.trans hkn (fun k hk => .inr (by simp at hk; rw [hk, HBE.out]; exact Nat.le_refl _))
          have hrr := HR.out.kp hkn (by have := HNE.out; simp at this ⊢; exact fun h => this h.symm)
          have hff : F = .ok ⟨4, 0, x⟩ _ := HF.out.symm
          refine bodyPost_ret (v := .agg #[.int .i64 (4), .int .i64 (0), .string (x)]) (by simp [results, Try.results43, go_sem, q0, q1, q2]) rfl ?_
          rw [hff]
          exact ⟨hkk, rfl, hrr⟩
        · rw [if_neg hn] at hF2
          have hnB : decide ((N : Int) ≤ 512) = false := decide_eq_false hn
          have hnC : decide (N ≤ 512) = false := decide_eq_false (by omega)
          subst hF2
          clear HF
          go_wp2_with fail
          refine (must_no 4 _).mono ?_
          rintro e _ ⟨rfl, rfl⟩
          obtain ⟨q, hq, _⟩ := HR.out
          exact ⟨rfl, HK.out, rfl, q, hq⟩
    rw [if_neg kk] at HF1
    have kB36 : ((c.toNat : Int) == 36) = false := byte_ne kk
    clear kk
    subst HF1
    clear HF
    go_wp2_with fail
    obtain ⟨q, hq, _⟩ := HR.out
    exact ⟨rfl, HK.out, rfl, q, hq⟩
end Go.Proofs.Ytdbboooblbdihaa
