/- Texts' terms: package filter, and the document. -/
import Derived.Test.YtccjbmmhdbainaaFltQ
namespace Go.Proofs.Ytccjbmmhdbainaa
open Go.RowKit Sets
set_option linter.unusedVariables false
set_option linter.unusedSectionVars false
set_option linter.unusedSimpArgs false
set_option maxRecDepth 100000

/-- A term in memory. -/
structure TmE where
  name : ByteArray
  not : Bool
  a : Option Addr
  n : Nat
  c : Nat
def tmC (e : TmE) : List Value := [.string e.name, .bool e.not, .slice e.a e.n e.c]
theorem tmC_len (e : TmE) : (tmC e).length = 3 := rfl
theorem tmC_one (e : TmE) : ∀ u ∈ tmC e, u.oneCell' = true := by
  intro u hu
  simp only [tmC, List.mem_cons, List.not_mem_nil, or_false] at hu
  rcases hu with rfl | rfl | rfl <;> rfl
theorem Try.tfInfo : (Try.prog.info? 24).map (fun i => (i.zero, i.size, i.bytes)) = some (some (.agg #[.string ByteArray.empty, .bool false, .slice none 0 0]), 3, 48) := by kernel_rfl
theorem Try.trInfo : (Try.prog.info? 30).map (fun i => (i.zero, i.size, i.bytes)) = some (some (.agg #[.string ByteArray.empty, .bool false, .slice none 0 0]), 3, 48) := by kernel_rfl
theorem Vls.cm {w w' : World} {v : Value} {xs : List ByteArray} (h : Vls w v xs) (hx : Cm w w') : Vls w' v xs := ⟨hx.txt h.txt, fun A n c e ad e2 => by
  obtain ⟨cs, f, hb⟩ := h.typ A n c e ad e2
  exact ⟨cs, f, hx.cells _ _ _ _ hb⟩⟩
structure TmAt (w : World) (e : TmE) (t : Tm) : Prop where
  name : e.name = t.name
  not : e.not = t.not
  vals : Vls w (.slice e.a e.n e.c) t.vals
theorem TmAt.ext {w w' : World} {e : TmE} {t : Tm} (h : TmAt w e t) (hx : Ext w w') : TmAt w' e t := ⟨h.name, h.not, h.vals.ext hx⟩
theorem TmAt.cm {w w' : World} {e : TmE} {t : Tm} (h : TmAt w e t) (hx : Cm w w') : TmAt w' e t := ⟨h.name, h.not, h.vals.cm hx⟩
theorem TmAt.chg {w w' : World} {B : Nat} {S : List TypeId} {e : TmE} {t : Tm} (h : TmAt w e t) (hc : Chg B S w w') (hs : 9 ∉ S) : TmAt w' e t := ⟨h.name, h.not, h.vals.chg hc hs⟩
/-- Rows of terms, one for one. -/
def TmsE (w : World) (es : List TmE) (ts : List Tm) : Prop := es.length = ts.length ∧ ∀ (i : Nat) (e : TmE) (t : Tm), es[i]? = some e → ts[i]? = some t → TmAt w e t
section
variable {w w' : World} {es fs : List TmE} {ts us : List Tm}
theorem TmsE.nil (w : World) : TmsE w [] [] := ⟨rfl, by simp⟩
theorem TmsE.ext (h : TmsE w es ts) (hx : Ext w w') : TmsE w' es ts := ⟨h.1, fun i e m h1 h2 => (h.2 i e m h1 h2).ext hx⟩
theorem TmsE.cm (h : TmsE w es ts) (hx : Cm w w') : TmsE w' es ts := ⟨h.1, fun i e m h1 h2 => (h.2 i e m h1 h2).cm hx⟩
theorem TmsE.chg {B : Nat} {S : List TypeId} (h : TmsE w es ts) (hc : Chg B S w w') (hs : 9 ∉ S) : TmsE w' es ts := ⟨h.1, fun i e m h1 h2 => (h.2 i e m h1 h2).chg hc hs⟩
theorem TmsE.snoc {e : TmE} {t : Tm} (h : TmsE w es ts) (k : TmAt w e t) : TmsE w (es ++ [e]) (ts ++ [t]) := by
  refine ⟨by rw [List.length_append, List.length_append, h.1]; rfl, fun i e' t' h1 h2 => ?_⟩
  by_cases hi : i < es.length
  · rw [List.getElem?_append_left hi] at h1
    rw [List.getElem?_append_left (by rw [← h.1]; exact hi)] at h2
    exact h.2 i e' t' h1 h2
  · rw [List.getElem?_append_right (by omega)] at h1
    rw [List.getElem?_append_right (by rw [← h.1]; omega), ← h.1] at h2
    cases hd : i - es.length with
    | zero =>
      rw [hd] at h1 h2
      simp at h1 h2
      subst h1 h2
      exact k
    | succ j => rw [hd] at h1; simp at h1
theorem TmsE.at_ (h : TmsE w es ts) {i : Nat} {t : Tm} (hm : ts[i]? = some t) : ∃ e, es[i]? = some e ∧ TmAt w e t := by
  have hi := (List.getElem?_eq_some_iff.1 hm).1
  obtain ⟨e, he⟩ : ∃ e, es[i]? = some e := ⟨_, List.getElem?_eq_getElem (by rw [h.1]; exact hi)⟩
  exact ⟨e, he, h.2 i e t he hm⟩
end
/-- .. whose values may lie anywhere. -/
structure TmTx (w : World) (e : TmE) (t : Tm) : Prop where
  name : e.name = t.name
  not : e.not = t.not
  vals : Txt w (.slice e.a e.n e.c) t.vals
theorem TmTx.ext {w w' : World} {e : TmE} {t : Tm} (h : TmTx w e t) (hx : Ext w w') : TmTx w' e t := ⟨h.name, h.not, h.vals.ext hx⟩
theorem TmTx.cm {w w' : World} {e : TmE} {t : Tm} (h : TmTx w e t) (hx : Cm w w') : TmTx w' e t := ⟨h.name, h.not, hx.txt h.vals⟩
def TmsT (w : World) (es : List TmE) (ts : List Tm) : Prop := es.length = ts.length ∧ ∀ (i : Nat) (e : TmE) (t : Tm), es[i]? = some e → ts[i]? = some t → TmTx w e t
section
variable {w w' : World} {es fs : List TmE} {ts us : List Tm}
theorem TmsE.txt (h : TmsE w es ts) : TmsT w es ts := ⟨h.1, fun i e m h1 h2 => ⟨(h.2 i e m h1 h2).name, (h.2 i e m h1 h2).not, (h.2 i e m h1 h2).vals.txt⟩⟩
theorem TmsT.nil (w : World) : TmsT w [] [] := ⟨rfl, by simp⟩
theorem TmsT.ext (h : TmsT w es ts) (hx : Ext w w') : TmsT w' es ts := ⟨h.1, fun i e m h1 h2 => (h.2 i e m h1 h2).ext hx⟩
theorem TmsT.cm (h : TmsT w es ts) (hx : Cm w w') : TmsT w' es ts := ⟨h.1, fun i e m h1 h2 => (h.2 i e m h1 h2).cm hx⟩
theorem TmsT.one {e : TmE} {t : Tm} (k : TmTx w e t) : TmsT w [e] [t] := by
  refine ⟨rfl, fun i e' t' h1 h2 => ?_⟩
  cases i with
  | zero =>
    simp at h1 h2
    subst h1 h2
    exact k
  | succ i => simp at h1
theorem TmsT.app (h : TmsT w es ts) (k : TmsT w fs us) : TmsT w (es ++ fs) (ts ++ us) := by
  refine ⟨by rw [List.length_append, List.length_append, h.1, k.1], fun i e m h1 h2 => ?_⟩
  by_cases hi : i < es.length
  · rw [List.getElem?_append_left hi] at h1
    rw [List.getElem?_append_left (by rw [← h.1]; exact hi)] at h2
    exact h.2 i e m h1 h2
  · rw [List.getElem?_append_right (by omega)] at h1
    rw [List.getElem?_append_right (by rw [← h.1]; omega), ← h.1] at h2
    exact k.2 _ e m h1 h2
theorem TmsT.at_ (h : TmsT w es ts) {i : Nat} {t : Tm} (hm : ts[i]? = some t) : ∃ e, es[i]? = some e ∧ TmTx w e t := by
  have hi := (List.getElem?_eq_some_iff.1 hm).1
  obtain ⟨e, he⟩ : ∃ e, es[i]? = some e := ⟨_, List.getElem?_eq_getElem (by rw [h.1]; exact hi)⟩
  exact ⟨e, he, h.2 i e t he hm⟩
end
/-- A slice of terms. -/
def Tms (w : World) (v : Value) (ts : List Tm) : Prop := ∃ es, Row tmC w v es ∧ TmsT w es ts
theorem Tms.ext {w w' : World} {v : Value} {ts : List Tm} (h : Tms w v ts) (hx : Ext w w') : Tms w' v ts := by
  obtain ⟨es, h1, h2⟩ := h
  exact ⟨es, h1.ext hx, h2.ext hx⟩
theorem Tms.cm {w w' : World} {v : Value} {ts : List Tm} (h : Tms w v ts) (hx : Cm w w') : Tms w' v ts := by
  obtain ⟨es, h1, h2⟩ := h
  exact ⟨es, hx.row h1, h2.cm hx⟩
theorem tme_cells {w : World} {ad : Addr} {es : List TmE} {k : Nat} {e : TmE} (h : Rd w (some ad) (es.flatMap tmC)) (hx : es[k]? = some e) :
    w.cell? (ad.add (k * 3)) = some (.string e.name) ∧ w.cell? ⟨(ad.add (k * 3)).block, (ad.add (k * 3)).off + 1, none⟩ = some (.bool e.not) ∧ w.cell? ⟨(ad.add (k * 3)).block, (ad.add (k * 3)).off + 2, none⟩ = some (.slice e.a e.n e.c) :=
  ⟨row_cell tmC_len h k 0 hx rfl, row_field tmC_len h k 1 (by decide) hx rfl, row_field tmC_len h k 2 (by decide) hx rfl⟩
/-- Texts' terms, if all are some. -/
def prsL : List ByteArray → Option (List Tm)
  | [] => some []
  | s :: l => match parseB s, prsL l with
    | some t, some ts => some (t :: ts)
    | _, _ => none
theorem prsL_snoc : ∀ (l : List ByteArray) (s : ByteArray), prsL (l ++ [s]) = match prsL l, parseB s with
    | some ts, some t => some (ts ++ [t])
    | _, _ => none
  | [], s => by
    show (match parseB s, prsL [] with | some t, some ts => some (t :: ts) | _, _ => none) = _
    rw [show prsL [] = some [] from rfl]
    cases parseB s <;> rfl
  | a :: l, s => by
    show (match parseB a, prsL (l ++ [s]) with | some t, some ts => some (t :: ts) | _, _ => none) = _
    rw [prsL_snoc l s, prsL]
    cases parseB a <;> cases prsL l <;> cases parseB s <;> rfl
theorem prsL_none : ∀ (l : List ByteArray) (s : ByteArray), s ∈ l → parseB s = none → prsL l = none
  | a :: l, s, hm, h => by
    rw [prsL]
    rcases List.mem_cons.1 hm with rfl | hm
    · rw [h]
    · rw [prsL_none l s hm h]
      cases parseB a <;> rfl
def someT (ts : List Tm) : Bool := ts.any fun t => !t.not && decide (0 < t.vals.length)
theorem someT_snoc (ts : List Tm) (t : Tm) : someT (ts ++ [t]) = (someT ts || (!t.not && decide (0 < t.vals.length))) := by
  unfold someT
  rw [List.any_append]
  simp
def allB (l : List ByteArray) : Option (List Tm) := match prsL l with
  | none => none
  | some ts => if someT ts && decide (l.length ≤ 16) then some ts else none
theorem allB_no {l : List ByteArray} {s : ByteArray} (hm : s ∈ l) (h : parseB s = none) : allB l = none := by
  unfold allB
  rw [prsL_none l s hm h]
theorem allB_at {l : List ByteArray} {ts : List Tm} (h : prsL l = some ts) : allB l = if someT ts && decide (l.length ≤ 16) then some ts else none := by
  unfold allB
  rw [h]
/-- What texts' terms are told as. -/
def AllE (l : List ByteArray) (e : Ending) (w : World) : Prop :=
  (allB l = none ∧ e = .returned (.tuple #[.slice none 0 0, .int .i64 4])) ∨
  ∃ ts u, allB l = some ts ∧ e = .returned (.tuple #[u, .int .i64 0]) ∧ Tms w u ts
theorem prsL_len : ∀ (a : List ByteArray) (b : List Tm), prsL a = some b → b.length = a.length
  | [], b, h => by
    rw [prsL] at h
    injection h with h
    rw [← h]
    rfl
  | s :: l, b, h => by
    rw [prsL] at h
    cases hp : parseB s with
    | none => rw [hp] at h; cases h
    | some t =>
      cases hq : prsL l with
      | none => rw [hp, hq] at h; cases h
      | some ts =>
        rw [hp, hq] at h
        injection h with h
        rw [← h, List.length_cons, List.length_cons, prsL_len l ts hq]
set_option maxHeartbeats 8000000 in
theorem all_any (v : Value) (l : List ByteArray) (w : World) (h : Txt w v l) (hlen : l.length ≤ 1000) (hsz : ∀ s ∈ l, s.size ≤ 100000) :
    Calls Try.prog 24 #[v] w fun e w' => AllE l e w' ∧ Ext w w' := by
  obtain ⟨i1, hi1, hz3, hz4, hz5⟩ := info_parts Try.tfInfo
  obtain ⟨A, n, c, rfl, hn, hnc, hc, hr⟩ := h
  have HR := Lib.hid hr
  have HN := Lib.hid hn
  have HS := Lib.hid hsz
  have hn1 : n ≤ 1000 := by rw [← hn]; exact hlen
  clear hr hn hsz
  go_enter Try.func24, Try.ntmps24
  go_wp2_with fail
  go_loopw [4, 5, 12] (fun o sv iv wr => ∃ (k : Nat) (ts : List Tm) (es : List TmE), k ≤ n ∧ iv = .int .i64 (k : Int) ∧ prsL (l.take k) = some ts ∧ sv = .bool (someT ts) ∧ wr.ownsRow w.heap.size 24 3 o es.length (es.flatMap tmC) ∧ TmsE wr es ts ∧ Ext w wr) (fun _ _ iv _ => n - (intOf iv).toNat)
  case atStart => exact ⟨0, [], [], by omega, rfl, rfl, rfl, World.ownsRow_nil _ _ _ _, TmsE.nil _, Ext.refl _⟩
  case round =>
    obtain ⟨k, ts, es, hk, rfl, hpr, rfl, hown, hes, hx⟩ := hrel
    have HP := Lib.hid hpr
    have HO := Lib.hid hown
    have HE := Lib.hid hes
    have HX := Lib.hid hx
    clear hpr hown hx
    by_cases hkn : k < n
    · have hkI : (k : Int) < (n : Int) := by omega
      have hkJ : (0 : Int) ≤ (k : Int) := by omega
      obtain ⟨x, hx⟩ : ∃ x, l[k]? = some x := ⟨_, List.getElem?_eq_getElem (by have := HN.out; omega)⟩
      obtain ⟨ad, rfl, c0⟩ := txt_cell (HR.out.ext HX.out) hx
      have HXM := Lib.hid (List.mem_of_getElem? hx)
      have HTK := Lib.hid (take_snoc hx)
      have HEL : Hid (es.length ≤ 1000) := Lib.hid (by
        have h1 := hes.1
        have h2 : ∀ (a : List ByteArray) (b : List Tm), prsL a = some b → b.length = a.length := prsL_len
        have h3 := h2 _ _ HP.out
        rw [List.length_take] at h3
        omega)
      clear hx hes
      go_wp2_with fail
      refine (parse_any x wr (HS.out x HXM.out)).mono ?_
      rintro e v5 ⟨hpe, hx⟩
      have HX5 := Lib.hid (HX.out.trans hx)
      have HO5 := Lib.hid (own_later HO.out hx)
      have HE5 := Lib.hid (HE.out.ext hx)
      clear hx c0
      rcases hpe with ⟨hpb, rfl⟩ | ⟨⟨tn, tt, tv⟩, u, hpb, rfl, hu⟩
      · have HF := Lib.hid (allB_no HXM.out hpb)
        clear hpb
        go_wp2_with fail
        exact bodyPost_ret (v := .tuple #[.slice none 0 0, .int .i64 4]) (by simp [results, Try.results24, go_sem]) rfl ⟨.inl ⟨HF.out, rfl⟩, HX5.out.trans (Ext.alloc _ _)⟩
      · have HPB := Lib.hid hpb
        obtain ⟨A5, n5, c5, rfl, hn5, _⟩ := hu.txt
        dsimp only at hn5
        have ha6 := Ext.alloc v5 (.cells #[.string tn, .bool tt, .slice A5 n5 c5] 24)
        have hb6 := heap_alloc_new v5 (.cells #[.string tn, .bool tt, .slice A5 n5 c5] 24 (0, 0))
        have HU6 := Lib.hid (hu.ext ha6)
        have HX6 := Lib.hid (HX5.out.trans ha6)
        have HO6 := Lib.hid (own_later HO5.out ha6)
        have HE6 := Lib.hid (HE5.out.ext ha6)
        have HN5 := Lib.hid hn5
        clear hpb hu hn5 HX5 HO5 HE5 HX HO HE
        simp only [tmV]
        go_upto_region 7 with fail
        generalize v5.alloc (.cells #[.string tn, .bool tt, .slice A5 n5 c5] 24) = v6 at ha6 hb6 HU6 HX6 HO6 HE6 ⊢
        generalize v5.heap.size = p at hb6 ⊢
        have d0 := heap_cell hb6 0
        have d1 := heap_cell hb6 1
        have d2 := heap_cell hb6 2
        clear ha6 hb6
        have HSN := Lib.hid (someT_snoc ts ⟨tn, tt, tv⟩)
        generalize hso : someT ts = so at HSN
        cases so with
        | true =>
          have HSO : Hid (someT (ts ++ [⟨tn, tt, tv⟩]) = true) := Lib.hid (by rw [HSN.out]; rfl)
          clear HSN hso
          have HST : Hid (prsL (l.take (k + 1)) = some (ts ++ [⟨tn, tt, tv⟩])) := Lib.hid (by rw [HTK.out, prsL_snoc, HP.out, HPB.out])
          clear HTK
          have hx6 : Ext v6 (v6.alloc (.cells #[.string tn, .bool tt, .slice A5 n5 c5] 24)) := Ext.alloc v6 _
          go_wp2_with (first
            | (at_builtin
               refine app_row tmC_len tmC_one _ rfl (.tmp 36) (.tmp 38) 44 24 rfl i1 (.agg #[.string ByteArray.empty, .bool false, .slice none 0 0]) 48 Try.underlying44 hi1 hz3 hz4 hz5 rfl (by decide) (by decide) w.heap.size _ es rfl (by exact own_later HO6.out hx6) (Nat.le_trans HX6.out.size hx6.size) (some ⟨v6.heap.size, 0, none⟩) 1 1 [⟨tn, tt, A5, n5, c5⟩] rfl rfl (by exact Rd.new v6 #[_, _, _] 24) (by have := HEL.out; simp only [List.length_singleton]; omega) ?_
               intro v7 w7 hown7 hchg7
               have HO7 := Lib.hid hown7
               have HX7 := Lib.hid (((Chg.of_ext (HX6.out.trans hx6)).trans hchg7).to_ext (Nat.le_refl _))
               have HE7 := Lib.hid (((HE6.out.snoc (⟨rfl, rfl, HU6.out⟩ : TmAt v6 ⟨tn, tt, A5, n5, c5⟩ ⟨tn, tt, tv⟩)).ext hx6).chg hchg7 (by decide))
               clear hchg7 hown7))
          go_roundw
          case rel => exact ⟨k + 1, ts ++ [⟨tn, tt, tv⟩], es ++ [⟨tn, tt, A5, n5, c5⟩], by omega, by go_num, HST.out, by rw [HSO.out], HO7.out, HE7.out, HX7.out⟩
          case measure => simp [intOf]; omega
        | false =>
          cases tt with
          | true =>
            have HSO : Hid (someT (ts ++ [⟨tn, true, tv⟩]) = false) := Lib.hid (by rw [HSN.out]; rfl)
            clear HSN hso
            have HST : Hid (prsL (l.take (k + 1)) = some (ts ++ [⟨tn, true, tv⟩])) := Lib.hid (by rw [HTK.out, prsL_snoc, HP.out, HPB.out])
            clear HTK
            have hx6 : Ext v6 (v6.alloc (.cells #[.string tn, .bool true, .slice A5 n5 c5] 24)) := Ext.alloc v6 _
            go_wp2_with (first
              | (at_builtin
                 refine app_row tmC_len tmC_one _ rfl (.tmp 36) (.tmp 38) 44 24 rfl i1 (.agg #[.string ByteArray.empty, .bool false, .slice none 0 0]) 48 Try.underlying44 hi1 hz3 hz4 hz5 rfl (by decide) (by decide) w.heap.size _ es rfl (by exact own_later HO6.out hx6) (Nat.le_trans HX6.out.size hx6.size) (some ⟨v6.heap.size, 0, none⟩) 1 1 [⟨tn, true, A5, n5, c5⟩] rfl rfl (by exact Rd.new v6 #[_, _, _] 24) (by have := HEL.out; simp only [List.length_singleton]; omega) ?_
                 intro v7 w7 hown7 hchg7
                 have HO7 := Lib.hid hown7
                 have HX7 := Lib.hid (((Chg.of_ext (HX6.out.trans hx6)).trans hchg7).to_ext (Nat.le_refl _))
                 have HE7 := Lib.hid (((HE6.out.snoc (⟨rfl, rfl, HU6.out⟩ : TmAt v6 ⟨tn, true, A5, n5, c5⟩ ⟨tn, true, tv⟩)).ext hx6).chg hchg7 (by decide))
                 clear hchg7 hown7))
            go_roundw
            case rel => exact ⟨k + 1, ts ++ [⟨tn, true, tv⟩], es ++ [⟨tn, true, A5, n5, c5⟩], by omega, by go_num, HST.out, by rw [HSO.out], HO7.out, HE7.out, HX7.out⟩
            case measure => simp [intOf]; omega
          | false =>
            by_cases h5 : 0 < n5
            · have h5I : (0 : Int) < (n5 : Int) := by omega
              have HSO : Hid (someT (ts ++ [⟨tn, false, tv⟩]) = true) := Lib.hid (by rw [HSN.out, HN5.out, decide_eq_true h5]; rfl)
              clear HSN hso
              have HST : Hid (prsL (l.take (k + 1)) = some (ts ++ [⟨tn, false, tv⟩])) := Lib.hid (by rw [HTK.out, prsL_snoc, HP.out, HPB.out])
              clear HTK
              have hx6 : Ext v6 (v6.alloc (.cells #[.string tn, .bool false, .slice A5 n5 c5] 24)) := Ext.alloc v6 _
              go_wp2_with (first
                | (at_builtin
                   refine app_row tmC_len tmC_one _ rfl (.tmp 36) (.tmp 38) 44 24 rfl i1 (.agg #[.string ByteArray.empty, .bool false, .slice none 0 0]) 48 Try.underlying44 hi1 hz3 hz4 hz5 rfl (by decide) (by decide) w.heap.size _ es rfl (by exact own_later HO6.out hx6) (Nat.le_trans HX6.out.size hx6.size) (some ⟨v6.heap.size, 0, none⟩) 1 1 [⟨tn, false, A5, n5, c5⟩] rfl rfl (by exact Rd.new v6 #[_, _, _] 24) (by have := HEL.out; simp only [List.length_singleton]; omega) ?_
                   intro v7 w7 hown7 hchg7
                   have HO7 := Lib.hid hown7
                   have HX7 := Lib.hid (((Chg.of_ext (HX6.out.trans hx6)).trans hchg7).to_ext (Nat.le_refl _))
                   have HE7 := Lib.hid (((HE6.out.snoc (⟨rfl, rfl, HU6.out⟩ : TmAt v6 ⟨tn, false, A5, n5, c5⟩ ⟨tn, false, tv⟩)).ext hx6).chg hchg7 (by decide))
                   clear hchg7 hown7))
              go_roundw
              case rel => exact ⟨k + 1, ts ++ [⟨tn, false, tv⟩], es ++ [⟨tn, false, A5, n5, c5⟩], by omega, by go_num, HST.out, by rw [HSO.out], HO7.out, HE7.out, HX7.out⟩
              case measure => simp [intOf]; omega
            · have h5I : decide ((0 : Int) < (n5 : Int)) = false := decide_eq_false (by omega)
              have h5J : decide (0 < n5) = false := decide_eq_false h5
              have HSO : Hid (someT (ts ++ [⟨tn, false, tv⟩]) = false) := Lib.hid (by rw [HSN.out, HN5.out, h5J]; rfl)
              clear HSN hso
              have HST : Hid (prsL (l.take (k + 1)) = some (ts ++ [⟨tn, false, tv⟩])) := Lib.hid (by rw [HTK.out, prsL_snoc, HP.out, HPB.out])
              clear HTK
              have hx6 : Ext v6 (v6.alloc (.cells #[.string tn, .bool false, .slice A5 n5 c5] 24)) := Ext.alloc v6 _
              go_wp2_with (first
                | (at_builtin
                   refine app_row tmC_len tmC_one _ rfl (.tmp 36) (.tmp 38) 44 24 rfl i1 (.agg #[.string ByteArray.empty, .bool false, .slice none 0 0]) 48 Try.underlying44 hi1 hz3 hz4 hz5 rfl (by decide) (by decide) w.heap.size _ es rfl (by exact own_later HO6.out hx6) (Nat.le_trans HX6.out.size hx6.size) (some ⟨v6.heap.size, 0, none⟩) 1 1 [⟨tn, false, A5, n5, c5⟩] rfl rfl (by exact Rd.new v6 #[_, _, _] 24) (by have := HEL.out; simp only [List.length_singleton]; omega) ?_
                   intro v7 w7 hown7 hchg7
                   have HO7 := Lib.hid hown7
                   have HX7 := Lib.hid (((Chg.of_ext (HX6.out.trans hx6)).trans hchg7).to_ext (Nat.le_refl _))
                   have HE7 := Lib.hid (((HE6.out.snoc (⟨rfl, rfl, HU6.out⟩ : TmAt v6 ⟨tn, false, A5, n5, c5⟩ ⟨tn, false, tv⟩)).ext hx6).chg hchg7 (by decide))
                   clear hchg7 hown7))
              go_roundw
              case rel => exact ⟨k + 1, ts ++ [⟨tn, false, tv⟩], es ++ [⟨tn, false, A5, n5, c5⟩], by omega, by go_num, HST.out, by rw [HSO.out], HO7.out, HE7.out, HX7.out⟩
              case measure => simp [intOf]; omega
    · obtain rfl : k = n := by omega
      have HPL : Hid (prsL l = some ts) := Lib.hid (by have := HP.out; rwa [List.take_of_length_le (by rw [HN.out]; exact Nat.le_refl _)] at this)
      have HAT := Lib.hid (allB_at HPL.out)
      generalize hso : someT ts = so at HAT
      cases so with
      | false =>
        have HF : Hid (allB l = none) := Lib.hid (by rw [HAT.out]; rfl)
        clear HAT hso
        go_wp2_with fail
        exact bodyPost_ret (v := .tuple #[.slice none 0 0, .int .i64 4]) (by simp [results, Try.results24, go_sem]) rfl ⟨.inl ⟨HF.out, rfl⟩, HX.out⟩
      | true =>
        by_cases h16 : k ≤ 16
        · have h16I : decide ((16 : Int) < (k : Int)) = false := decide_eq_false (by omega)
          have h16J : decide (16 < k) = false := decide_eq_false (by omega)
          have HF : Hid (allB l = some ts) := Lib.hid (by rw [HAT.out, HN.out, decide_eq_true h16]; rfl)
          have hown := own_row HO.out
          obtain ⟨A9, c9, hv9, _, _, _⟩ := own_slice HO.out
          subst hv9
          clear HAT hso h16
          go_wp2_with fail
          exact bodyPost_ret (v := .tuple #[.slice A9 es.length c9, .int .i64 0]) (by simp [results, Try.results24, go_sem]) rfl ⟨.inr ⟨ts, _, HF.out, rfl, es, hown, HE.out.txt⟩, HX.out⟩
        · have h16I : (16 : Int) < (k : Int) := by omega
          have HF : Hid (allB l = none) := Lib.hid (by rw [HAT.out, HN.out, decide_eq_false h16]; rfl)
          clear HAT hso h16
          go_wp2_with fail
          exact bodyPost_ret (v := .tuple #[.slice none 0 0, .int .i64 4]) (by simp [results, Try.results24, go_sem]) rfl ⟨.inl ⟨HF.out, rfl⟩, HX.out⟩
set_option maxHeartbeats 8000000 in
theorem rall_any (v : Value) (l : List ByteArray) (w : World) (h : Txt w v l) (hlen : l.length ≤ 1000) (hsz : ∀ s ∈ l, s.size ≤ 100000) :
    Calls Try.prog 25 #[v] w fun e w' => AllE l e w' ∧ Ext w w' := by
  obtain ⟨i1, hi1, hz3, hz4, hz5⟩ := info_parts Try.trInfo
  obtain ⟨A, n, c, rfl, hn, hnc, hc, hr⟩ := h
  have HR := Lib.hid hr
  have HN := Lib.hid hn
  have HS := Lib.hid hsz
  have hn1 : n ≤ 1000 := by rw [← hn]; exact hlen
  clear hr hn hsz
  go_enter Try.func25, Try.ntmps25
  go_wp2_with fail
  go_loopw [4, 5, 6] (fun o sv iv wr => ∃ (k : Nat) (ts : List Tm) (es : List TmE), k ≤ n ∧ iv = .int .i64 (k : Int) ∧ prsL (l.take k) = some ts ∧ sv = .bool (someT ts) ∧ wr.ownsRow w.heap.size 30 3 o es.length (es.flatMap tmC) ∧ TmsE wr es ts ∧ Ext w wr) (fun _ _ iv _ => n - (intOf iv).toNat)
  case atStart => exact ⟨0, [], [], by omega, rfl, rfl, rfl, World.ownsRow_nil _ _ _ _, TmsE.nil _, Ext.refl _⟩
  case round =>
    obtain ⟨k, ts, es, hk, rfl, hpr, rfl, hown, hes, hx⟩ := hrel
    have HP := Lib.hid hpr
    have HO := Lib.hid hown
    have HE := Lib.hid hes
    have HX := Lib.hid hx
    clear hpr hown hx
    by_cases hkn : k < n
    · have hkI : (k : Int) < (n : Int) := by omega
      have hkJ : (0 : Int) ≤ (k : Int) := by omega
      obtain ⟨x, hx⟩ : ∃ x, l[k]? = some x := ⟨_, List.getElem?_eq_getElem (by have := HN.out; omega)⟩
      obtain ⟨ad, rfl, c0⟩ := txt_cell (HR.out.ext HX.out) hx
      have HXM := Lib.hid (List.mem_of_getElem? hx)
      have HTK := Lib.hid (take_snoc hx)
      have HEL : Hid (es.length ≤ 1000) := Lib.hid (by
        have h1 := hes.1
        have h2 : ∀ (a : List ByteArray) (b : List Tm), prsL a = some b → b.length = a.length := prsL_len
        have h3 := h2 _ _ HP.out
        rw [List.length_take] at h3
        omega)
      clear hx hes
      go_wp2_with fail
      refine (rparse_any x wr (HS.out x HXM.out)).mono ?_
      rintro e v5 ⟨hpe, hx⟩
      have HX5 := Lib.hid (HX.out.trans hx)
      have HO5 := Lib.hid (own_later HO.out hx)
      have HE5 := Lib.hid (HE.out.ext hx)
      clear hx c0
      rcases hpe with ⟨hpb, rfl⟩ | ⟨⟨tn, tt, tv⟩, u, hpb, rfl, hu⟩
      · have HF := Lib.hid (allB_no HXM.out hpb)
        clear hpb
        go_wp2_with fail
        exact bodyPost_ret (v := .tuple #[.slice none 0 0, .int .i64 4]) (by simp [results, Try.results25, go_sem]) rfl ⟨.inl ⟨HF.out, rfl⟩, HX5.out.trans (Ext.alloc _ _)⟩
      · have HPB := Lib.hid hpb
        obtain ⟨A5, n5, c5, rfl, hn5, _⟩ := hu.txt
        dsimp only at hn5
        have ha6 := Ext.alloc v5 (.cells #[.string tn, .bool tt, .slice A5 n5 c5] 30)
        have hb6 := heap_alloc_new v5 (.cells #[.string tn, .bool tt, .slice A5 n5 c5] 30 (0, 0))
        have HU6 := Lib.hid (hu.ext ha6)
        have HX6 := Lib.hid (HX5.out.trans ha6)
        have HO6 := Lib.hid (own_later HO5.out ha6)
        have HE6 := Lib.hid (HE5.out.ext ha6)
        have HN5 := Lib.hid hn5
        clear hpb hu hn5 HX5 HO5 HE5 HX HO HE
        simp only [tmV]
        go_upto_region 7 with fail
        generalize v5.alloc (.cells #[.string tn, .bool tt, .slice A5 n5 c5] 30) = v6 at ha6 hb6 HU6 HX6 HO6 HE6 ⊢
        generalize v5.heap.size = p at hb6 ⊢
        have d0 := heap_cell hb6 0
        have d1 := heap_cell hb6 1
        have d2 := heap_cell hb6 2
        clear ha6 hb6
        have HSN := Lib.hid (someT_snoc ts ⟨tn, tt, tv⟩)
        generalize hso : someT ts = so at HSN
        cases so with
        | true =>
          have HSO : Hid (someT (ts ++ [⟨tn, tt, tv⟩]) = true) := Lib.hid (by rw [HSN.out]; rfl)
          clear HSN hso
          have HST : Hid (prsL (l.take (k + 1)) = some (ts ++ [⟨tn, tt, tv⟩])) := Lib.hid (by rw [HTK.out, prsL_snoc, HP.out, HPB.out])
          clear HTK
          have hx6 : Ext v6 (v6.alloc (.cells #[.string tn, .bool tt, .slice A5 n5 c5] 30)) := Ext.alloc v6 _
          go_wp2_with (first
            | (at_builtin
               refine app_row tmC_len tmC_one _ rfl (.tmp 38) (.tmp 40) 47 30 rfl i1 (.agg #[.string ByteArray.empty, .bool false, .slice none 0 0]) 48 Try.underlying47 hi1 hz3 hz4 hz5 rfl (by decide) (by decide) w.heap.size _ es rfl (by exact own_later HO6.out hx6) (Nat.le_trans HX6.out.size hx6.size) (some ⟨v6.heap.size, 0, none⟩) 1 1 [⟨tn, tt, A5, n5, c5⟩] rfl rfl (by exact Rd.new v6 #[_, _, _] 30) (by have := HEL.out; simp only [List.length_singleton]; omega) ?_
               intro v7 w7 hown7 hchg7
               have HO7 := Lib.hid hown7
               have HX7 := Lib.hid (((Chg.of_ext (HX6.out.trans hx6)).trans hchg7).to_ext (Nat.le_refl _))
               have HE7 := Lib.hid (((HE6.out.snoc (⟨rfl, rfl, HU6.out⟩ : TmAt v6 ⟨tn, tt, A5, n5, c5⟩ ⟨tn, tt, tv⟩)).ext hx6).chg hchg7 (by decide))
               clear hchg7 hown7))
          go_roundw
          case rel => exact ⟨k + 1, ts ++ [⟨tn, tt, tv⟩], es ++ [⟨tn, tt, A5, n5, c5⟩], by omega, by go_num, HST.out, by rw [HSO.out], HO7.out, HE7.out, HX7.out⟩
          case measure => simp [intOf]; omega
        | false =>
          cases tt with
          | true =>
            have HSO : Hid (someT (ts ++ [⟨tn, true, tv⟩]) = false) := Lib.hid (by rw [HSN.out]; rfl)
            clear HSN hso
            have HST : Hid (prsL (l.take (k + 1)) = some (ts ++ [⟨tn, true, tv⟩])) := Lib.hid (by rw [HTK.out, prsL_snoc, HP.out, HPB.out])
            clear HTK
            have hx6 : Ext v6 (v6.alloc (.cells #[.string tn, .bool true, .slice A5 n5 c5] 30)) := Ext.alloc v6 _
            go_wp2_with (first
              | (at_builtin
                 refine app_row tmC_len tmC_one _ rfl (.tmp 38) (.tmp 40) 47 30 rfl i1 (.agg #[.string ByteArray.empty, .bool false, .slice none 0 0]) 48 Try.underlying47 hi1 hz3 hz4 hz5 rfl (by decide) (by decide) w.heap.size _ es rfl (by exact own_later HO6.out hx6) (Nat.le_trans HX6.out.size hx6.size) (some ⟨v6.heap.size, 0, none⟩) 1 1 [⟨tn, true, A5, n5, c5⟩] rfl rfl (by exact Rd.new v6 #[_, _, _] 30) (by have := HEL.out; simp only [List.length_singleton]; omega) ?_
                 intro v7 w7 hown7 hchg7
                 have HO7 := Lib.hid hown7
                 have HX7 := Lib.hid (((Chg.of_ext (HX6.out.trans hx6)).trans hchg7).to_ext (Nat.le_refl _))
                 have HE7 := Lib.hid (((HE6.out.snoc (⟨rfl, rfl, HU6.out⟩ : TmAt v6 ⟨tn, true, A5, n5, c5⟩ ⟨tn, true, tv⟩)).ext hx6).chg hchg7 (by decide))
                 clear hchg7 hown7))
            go_roundw
            case rel => exact ⟨k + 1, ts ++ [⟨tn, true, tv⟩], es ++ [⟨tn, true, A5, n5, c5⟩], by omega, by go_num, HST.out, by rw [HSO.out], HO7.out, HE7.out, HX7.out⟩
            case measure => simp [intOf]; omega
          | false =>
            by_cases h5 : 0 < n5
            · have h5I : (0 : Int) < (n5 : Int) := by omega
              have HSO : Hid (someT (ts ++ [⟨tn, false, tv⟩]) = true) := Lib.hid (by rw [HSN.out, HN5.out, decide_eq_true h5]; rfl)
              clear HSN hso
              have HST : Hid (prsL (l.take (k + 1)) = some (ts ++ [⟨tn, false, tv⟩])) := Lib.hid (by rw [HTK.out, prsL_snoc, HP.out, HPB.out])
              clear HTK
              have hx6 : Ext v6 (v6.alloc (.cells #[.string tn, .bool false, .slice A5 n5 c5] 30)) := Ext.alloc v6 _
              go_wp2_with (first
                | (at_builtin
                   refine app_row tmC_len tmC_one _ rfl (.tmp 38) (.tmp 40) 47 30 rfl i1 (.agg #[.string ByteArray.empty, .bool false, .slice none 0 0]) 48 Try.underlying47 hi1 hz3 hz4 hz5 rfl (by decide) (by decide) w.heap.size _ es rfl (by exact own_later HO6.out hx6) (Nat.le_trans HX6.out.size hx6.size) (some ⟨v6.heap.size, 0, none⟩) 1 1 [⟨tn, false, A5, n5, c5⟩] rfl rfl (by exact Rd.new v6 #[_, _, _] 30) (by have := HEL.out; simp only [List.length_singleton]; omega) ?_
                   intro v7 w7 hown7 hchg7
                   have HO7 := Lib.hid hown7
                   have HX7 := Lib.hid (((Chg.of_ext (HX6.out.trans hx6)).trans hchg7).to_ext (Nat.le_refl _))
                   have HE7 := Lib.hid (((HE6.out.snoc (⟨rfl, rfl, HU6.out⟩ : TmAt v6 ⟨tn, false, A5, n5, c5⟩ ⟨tn, false, tv⟩)).ext hx6).chg hchg7 (by decide))
                   clear hchg7 hown7))
              go_roundw
              case rel => exact ⟨k + 1, ts ++ [⟨tn, false, tv⟩], es ++ [⟨tn, false, A5, n5, c5⟩], by omega, by go_num, HST.out, by rw [HSO.out], HO7.out, HE7.out, HX7.out⟩
              case measure => simp [intOf]; omega
            · have h5I : decide ((0 : Int) < (n5 : Int)) = false := decide_eq_false (by omega)
              have h5J : decide (0 < n5) = false := decide_eq_false h5
              have HSO : Hid (someT (ts ++ [⟨tn, false, tv⟩]) = false) := Lib.hid (by rw [HSN.out, HN5.out, h5J]; rfl)
              clear HSN hso
              have HST : Hid (prsL (l.take (k + 1)) = some (ts ++ [⟨tn, false, tv⟩])) := Lib.hid (by rw [HTK.out, prsL_snoc, HP.out, HPB.out])
              clear HTK
              have hx6 : Ext v6 (v6.alloc (.cells #[.string tn, .bool false, .slice A5 n5 c5] 30)) := Ext.alloc v6 _
              go_wp2_with (first
                | (at_builtin
                   refine app_row tmC_len tmC_one _ rfl (.tmp 38) (.tmp 40) 47 30 rfl i1 (.agg #[.string ByteArray.empty, .bool false, .slice none 0 0]) 48 Try.underlying47 hi1 hz3 hz4 hz5 rfl (by decide) (by decide) w.heap.size _ es rfl (by exact own_later HO6.out hx6) (Nat.le_trans HX6.out.size hx6.size) (some ⟨v6.heap.size, 0, none⟩) 1 1 [⟨tn, false, A5, n5, c5⟩] rfl rfl (by exact Rd.new v6 #[_, _, _] 30) (by have := HEL.out; simp only [List.length_singleton]; omega) ?_
                   intro v7 w7 hown7 hchg7
                   have HO7 := Lib.hid hown7
                   have HX7 := Lib.hid (((Chg.of_ext (HX6.out.trans hx6)).trans hchg7).to_ext (Nat.le_refl _))
                   have HE7 := Lib.hid (((HE6.out.snoc (⟨rfl, rfl, HU6.out⟩ : TmAt v6 ⟨tn, false, A5, n5, c5⟩ ⟨tn, false, tv⟩)).ext hx6).chg hchg7 (by decide))
                   clear hchg7 hown7))
              go_roundw
              case rel => exact ⟨k + 1, ts ++ [⟨tn, false, tv⟩], es ++ [⟨tn, false, A5, n5, c5⟩], by omega, by go_num, HST.out, by rw [HSO.out], HO7.out, HE7.out, HX7.out⟩
              case measure => simp [intOf]; omega
    · obtain rfl : k = n := by omega
      have HPL : Hid (prsL l = some ts) := Lib.hid (by have := HP.out; rwa [List.take_of_length_le (by rw [HN.out]; exact Nat.le_refl _)] at this)
      have HAT := Lib.hid (allB_at HPL.out)
      generalize hso : someT ts = so at HAT
      cases so with
      | false =>
        have HF : Hid (allB l = none) := Lib.hid (by rw [HAT.out]; rfl)
        clear HAT hso
        go_wp2_with fail
        exact bodyPost_ret (v := .tuple #[.slice none 0 0, .int .i64 4]) (by simp [results, Try.results25, go_sem]) rfl ⟨.inl ⟨HF.out, rfl⟩, HX.out⟩
      | true =>
        by_cases h16 : k ≤ 16
        · have h16I : decide ((16 : Int) < (k : Int)) = false := decide_eq_false (by omega)
          have h16J : decide (16 < k) = false := decide_eq_false (by omega)
          have HF : Hid (allB l = some ts) := Lib.hid (by rw [HAT.out, HN.out, decide_eq_true h16]; rfl)
          have hown := own_row HO.out
          obtain ⟨A9, c9, hv9, _, _, _⟩ := own_slice HO.out
          subst hv9
          clear HAT hso h16
          go_wp2_with fail
          exact bodyPost_ret (v := .tuple #[.slice A9 es.length c9, .int .i64 0]) (by simp [results, Try.results25, go_sem]) rfl ⟨.inr ⟨ts, _, HF.out, rfl, es, hown, HE.out.txt⟩, HX.out⟩
        · have h16I : (16 : Int) < (k : Int) := by omega
          have HF : Hid (allB l = none) := Lib.hid (by rw [HAT.out, HN.out, decide_eq_false h16]; rfl)
          clear HAT hso h16
          go_wp2_with fail
          exact bodyPost_ret (v := .tuple #[.slice none 0 0, .int .i64 4]) (by simp [results, Try.results25, go_sem]) rfl ⟨.inl ⟨HF.out, rfl⟩, HX.out⟩
end Go.Proofs.Ytccjbmmhdbainaa
