/- The document's lists of texts: Of, Or walked. -/
import Derived.Test.YtccjbmmhdbainaaSetC
import Derived.Test.YtccjbmmhdbainaaFltL
import Derived.Test.YtccjbmmhdbainaaFltF
import Derived.Test.YtccjbmmhdbainaaFltO
import Derived.Test.YtccjbmmhdbainaaIxrG
namespace Go.Proofs.Ytccjbmmhdbainaa
open Go.RowKit Sets
set_option maxRecDepth 100000
set_option linter.unusedVariables false

set_option maxHeartbeats 400000 in
theorem rof_txt (v : Value) (xs : List ByteArray) (w : World) (h : Txt w v xs) (hf : Fit xs) (hlen : xs.length ≤ 4294967296) :
    Calls Try.prog 45 #[v] w fun e w' => ∃ u, e = .returned u ∧ Txt w' u (norm xs) ∧ Ext w w' := by
  obtain ⟨A, n, c, rfl, h1, h2, h3, h4⟩ := h
  have hbn : n ≤ 4294967296 := by omega
  have HN := Lib.hid h1
  have HR := Lib.hid h4
  have HF := Lib.hid hf
  clear h1 h4 hf hlen
  go_enter Try.func45, Try.ntmps45
  go_wp2
  go_loopw [3, 4] (fun o i wr => ∃ (k : Nat), k ≤ n ∧ i = .int .i64 k ∧ Txt wr o (norm (xs.take k)) ∧ Ext w wr) (fun _ i _ => n - (intOf i).toNat)
  case atStart => exact ⟨0, by omega, rfl, (Own.nil w w).txt, Ext.refl _⟩
  case round =>
    obtain ⟨k, hk, rfl, htx, hext⟩ := hrel
    by_cases hlt : k < n
    · obtain ⟨ad, rfl, hc⟩ := (HR.out.ext hext).some_ (by rw [List.length_map, HN.out]; omega)
      have hc1 := hc k _ (txt_get xs k (by rw [HN.out]; exact hlt))
      have hst := norm_step xs k (by rw [HN.out]; exact hlt)
      have hft : Fit (xs.getD k ByteArray.empty :: norm (xs.take k)) := by
        intro y hy
        simp only [List.mem_cons] at hy
        rcases hy with rfl | hy
        · exact HF.out _ (getD_mem xs k (by rw [HN.out]; exact hlt))
        · exact norm_fit (HF.out.take k) y hy
      have hle := length_norm_le (xs.take k)
      rw [List.length_take] at hle
      generalize xs.getD k ByteArray.empty = x at hc1 hst hft
      have HS := Lib.hid hst
      have HFT := Lib.hid hft
      clear hst hft hc
      go_wp2_with (go_at_call 65; refine (radd_txt _ _ x _ htx HFT.out (by omega)).mono ?_; rintro e w1 ⟨u1, rfl, hu1, he1⟩)
      go_roundw
      case rel => exact ⟨k + 1, by omega, by go_num, by rw [HS.out]; exact hu1, hext.trans he1⟩
      case measure => simp [intOf]; omega
    · go_wp2
      go_ret
      refine ⟨_, rfl, ?_, hext⟩
      rw [List.take_of_length_le (by rw [HN.out]; omega)] at htx
      exact htx
set_option maxHeartbeats 400000 in
theorem ror_txt (va vb : Value) (xs ys : List ByteArray) (w : World) (ha : Txt w va xs) (hb : Txt w vb ys) (hf : Fit (xs ++ ys)) (hlen : xs.length + ys.length ≤ 4294967296) :
    Calls Try.prog 32 #[va, vb] w fun e w' => ∃ u, e = .returned u ∧ Txt w' u (norm (xs ++ ys)) ∧ Ext w w' := by
  obtain ⟨A, n, c, rfl, h1, h2, h3, h4⟩ := ha
  obtain ⟨B, m, d, rfl, g1, g2, g3, g4⟩ := hb
  have HN := Lib.hid (And.intro h1 g1)
  have HF := Lib.hid hf
  have HL := Lib.hid hlen
  have HR := Lib.hid (And.intro h4 g4)
  clear h1 g1 h4 g4 hf hlen
  go_enter Try.func32, Try.ntmps32
  go_wp2_with (first
    | (at_builtin
       refine app_strs _ rfl (.tmp 6) (.tmp 7) rfl w _ [] rfl (by exact own_empty w) A n c xs rfl HN.out.1 (by exact HR.out.1.alloc _) (by have := HL.out; simp; omega) (by exact Ext.alloc _ _) ?_
       intro v1 w1 hown1 hext1)
    | (at_builtin
       refine app_strs _ rfl (.tmp 9) (.tmp 10) rfl w _ ([] ++ xs) rfl (by exact hown1) B m d ys rfl HN.out.2 (by exact HR.out.2.ext hext1) (by have := HL.out; simp; omega) (by exact hext1) ?_
       intro v2 w2 hown2 hext2)
    | (go_at_call 45; refine (rof_txt _ (xs ++ ys) _ (by simpa using hown2.txt) HF.out (by have := HL.out; simpa using this)).mono ?_; rintro e w3 ⟨u3, rfl, hu3, he3⟩))
  go_ret
  exact ⟨u3, rfl, hu3, hext2.trans he3⟩

end Go.Proofs.Ytccjbmmhdbainaa

/- The plain law of FilterNots and FilterLists. -/
namespace Go.Proofs.Ytccjbmmhdbainaa
open Go.RowKit Sets
set_option linter.unusedVariables false
set_option linter.unusedSectionVars false
set_option linter.unusedSimpArgs false
set_option maxRecDepth 100000

theorem match_not (t : Tm) (l : List Lab) : matchT ⟨t.name, !t.not, t.vals⟩ l = !matchT t l := by
  unfold matchT
  dsimp only
  cases l.find? (fun y => decide (y.1 = t.name)) with
  | none =>
    dsimp only
    cases decide (t.vals.length = 0) <;> cases t.not <;> rfl
  | some y =>
    dsimp only
    by_cases h : t.vals.length = 0
    · rw [if_pos h, if_pos h]
    · rw [if_neg h, if_neg h]
      cases hasB t.vals y.2 <;> cases t.not <;> rfl
theorem mem_found {M : Mod} {ts : List Tm} {k : ByteArray} : k ∈ foundBy M ts ↔ ∃ p ∈ M, (∀ t ∈ ts, matchT t p.2 = true) ∧ p.1 = k := by
  unfold foundBy
  rw [mem_filt]
  constructor
  · rintro ⟨p, h1, h2, h3⟩
    exact ⟨p, h1, List.all_eq_true.1 h2, h3⟩
  · rintro ⟨p, h1, h2, h3⟩
    exact ⟨p, h1, List.all_eq_true.2 h2, h3⟩
theorem found_sd {M : Mod} (hM : GoodM M) (ts : List Tm) : Sd (foundBy M ts) := sd_filter hM.sd _
theorem filt_two {α : Type} (f g : α → Bool) (h : ∀ x, g x = !f x) : ∀ l : List α, (l.filter f).length + (l.filter g).length = l.length
  | [] => rfl
  | x :: l => by
    have ih := filt_two f g h l
    have hx := h x
    cases hf : f x with
    | true =>
      rw [hf] at hx
      rw [List.filter_cons_of_pos hf, List.filter_cons_of_neg (by rw [hx]; decide), List.length_cons, List.length_cons]
      omega
    | false =>
      rw [hf] at hx
      rw [List.filter_cons_of_neg (by rw [hf]; decide), List.filter_cons_of_pos (by rw [hx]; rfl), List.length_cons, List.length_cons]
      omega
theorem found_both (M : Mod) (t : Tm) : (foundBy M [t]).length + (foundBy M [⟨t.name, !t.not, t.vals⟩]).length = (keysM M).length := by
  unfold foundBy keysM
  rw [List.length_map, List.length_map, List.length_map]
  refine filt_two _ _ (fun x => ?_) M
  rw [List.all_cons, List.all_cons, List.all_nil, Bool.and_true, Bool.and_true, match_not]
theorem found_or {M : Mod} (hM : GoodM M) (t : Tm) : norm (foundBy M [t] ++ foundBy M [⟨t.name, !t.not, t.vals⟩]) = keysM M := by
  refine Sd.ext (sd_norm _) hM.sd fun k => ?_
  rw [mem_norm, List.mem_append, mem_found, mem_found, mem_keysM]
  constructor
  · rintro (⟨p, h1, _, h3⟩ | ⟨p, h1, _, h3⟩) <;> exact ⟨p, h1, h3⟩
  · rintro ⟨p, h1, h3⟩
    cases hm : matchT t p.2 with
    | true => exact .inl ⟨p, h1, by simpa using hm, h3⟩
    | false => exact .inr ⟨p, h1, by
        intro u hu
        obtain rfl := List.mem_singleton.1 hu
        rw [match_not, hm]
        rfl, h3⟩
theorem found_swap (M : Mod) (a b : Tm) : foundBy M [a, b] = foundBy M [b, a] := by
  unfold foundBy
  congr 2
  funext p
  simp only [List.all_cons, List.all_nil, Bool.and_true]
  exact Bool.and_comm _ _
theorem found_more {M : Mod} (hM : GoodM M) (a b : Tm) : norm (foundBy M [a] ++ foundBy M [a, b]) = foundBy M [a] := by
  refine Sd.ext (sd_norm _) (found_sd hM _) fun k => ?_
  rw [mem_norm, List.mem_append, mem_found, mem_found]
  constructor
  · rintro (h | ⟨p, h1, h2, h3⟩)
    · exact h
    · exact ⟨p, h1, fun u hu => h2 u (by simp at hu ⊢; exact .inl hu), h3⟩
  · exact .inl
/-- The keys with some of the values. -/
def anyM (M : Mod) (nm : ByteArray) (vs : List ByteArray) : List ByteArray := keysM (M.filter fun p => vs.any fun v => matchT ⟨nm, false, [v]⟩ p.2)
theorem any_none (M : Mod) (nm : ByteArray) : anyM M nm [] = [] := by
  unfold anyM
  rw [List.filter_eq_nil_iff.2 (by simp)]
  rfl
theorem any_len (M : Mod) (nm : ByteArray) (vs : List ByteArray) : (anyM M nm vs).length ≤ M.length := by
  unfold anyM keysM
  rw [List.length_map]
  exact List.length_filter_le _ _
theorem any_sd {M : Mod} (hM : GoodM M) (nm : ByteArray) (vs : List ByteArray) : Sd (anyM M nm vs) := sd_filter hM.sd _
theorem mem_any {M : Mod} {nm : ByteArray} {vs : List ByteArray} {k : ByteArray} : k ∈ anyM M nm vs ↔ ∃ p ∈ M, (∃ v ∈ vs, matchT ⟨nm, false, [v]⟩ p.2 = true) ∧ p.1 = k := by
  unfold anyM
  rw [mem_filt]
  constructor
  · rintro ⟨p, h1, h2, h3⟩
    exact ⟨p, h1, List.any_eq_true.1 h2, h3⟩
  · rintro ⟨p, h1, h2, h3⟩
    exact ⟨p, h1, List.any_eq_true.2 h2, h3⟩
theorem any_snoc {M : Mod} (hM : GoodM M) (nm : ByteArray) (vs : List ByteArray) (v : ByteArray) : norm (anyM M nm vs ++ foundBy M [⟨nm, false, [v]⟩]) = anyM M nm (vs ++ [v]) := by
  refine Sd.ext (sd_norm _) (any_sd hM _ _) fun k => ?_
  rw [mem_norm, List.mem_append, mem_found, mem_any, mem_any]
  constructor
  · rintro (⟨p, h1, ⟨x, hx, h2⟩, h3⟩ | ⟨p, h1, h2, h3⟩)
    · exact ⟨p, h1, ⟨x, by simp [hx], h2⟩, h3⟩
    · exact ⟨p, h1, ⟨v, by simp, h2 _ (by simp)⟩, h3⟩
  · rintro ⟨p, h1, ⟨x, hx, h2⟩, h3⟩
    rcases List.mem_append.1 hx with hx | hx
    · exact .inl ⟨p, h1, ⟨x, hx, h2⟩, h3⟩
    · obtain rfl := List.mem_singleton.1 hx
      exact .inr ⟨p, h1, by
        intro u hu
        obtain rfl := List.mem_singleton.1 hu
        exact h2, h3⟩
theorem match_one {M : Mod} (hM : GoodM M) {p : Ent} (hp : p ∈ M) (nm v : ByteArray) : matchT ⟨nm, false, [v]⟩ p.2 = hasL p.2 (nm, v) := by
  rw [match_vals (by simp) (good_names hM hp)]
  simp
theorem any_all {M : Mod} (hM : GoodM M) (nm : ByteArray) (vs : List ByteArray) (hv : vs.length ≠ 0) : foundBy M [⟨nm, false, vs⟩] = anyM M nm vs := by
  refine Sd.ext (found_sd hM _) (any_sd hM _ _) fun k => ?_
  rw [mem_found, mem_any]
  constructor
  · rintro ⟨p, h1, h2, h3⟩
    have h4 := h2 _ (List.mem_singleton.2 rfl)
    rw [match_vals hv (good_names hM h1)] at h4
    simp only [Bool.bne_false] at h4
    obtain ⟨v, hv1, hv2⟩ := List.any_eq_true.1 h4
    exact ⟨p, h1, ⟨v, hv1, by rw [match_one hM h1]; exact hv2⟩, h3⟩
  · rintro ⟨p, h1, ⟨v, hv1, hv2⟩, h3⟩
    refine ⟨p, h1, ?_, h3⟩
    intro u hu
    obtain rfl := List.mem_singleton.1 hu
    rw [match_vals hv (good_names hM h1)]
    simp only [Bool.bne_false]
    rw [match_one hM h1] at hv2
    exact List.any_eq_true.2 ⟨v, hv1, hv2⟩
theorem any_some {M : Mod} (hM : GoodM M) (nm : ByteArray) (vs : List ByteArray) : norm (foundBy M [⟨nm, true, []⟩] ++ anyM M nm vs) = foundBy M [⟨nm, true, []⟩] := by
  refine Sd.ext (sd_norm _) (found_sd hM _) fun k => ?_
  rw [mem_norm, List.mem_append, mem_found, mem_any]
  constructor
  · rintro (h | ⟨p, h1, ⟨v, hv1, hv2⟩, h3⟩)
    · exact h
    · refine ⟨p, h1, ?_, h3⟩
      intro u hu
      obtain rfl := List.mem_singleton.1 hu
      rw [match_one hM h1, hasL_iff] at hv2
      rw [match_names rfl]
      have : hasB (namesI p.2) nm = true := hasB_of (List.mem_map.2 ⟨(nm, v), hv2, rfl⟩)
      show (hasB (namesI p.2) nm == true) = true
      rw [this]
      rfl
  · exact .inl
theorem keys_fit {M : Mod} (hM : GoodM M) : Fit (keysM M) := fun s hs => by
  obtain ⟨p, hp, rfl⟩ := List.mem_map.1 hs
  exact key_ok (hM.ent p hp).1
theorem found_fit {M : Mod} (hM : GoodM M) (ts : List Tm) : Fit (foundBy M ts) := fun s hs => by
  obtain ⟨p, hp, _, rfl⟩ := mem_found.1 hs
  exact keys_fit hM _ (List.mem_map.2 ⟨p, hp, rfl⟩)
theorem any_fit {M : Mod} (hM : GoodM M) (nm : ByteArray) (vs : List ByteArray) : Fit (anyM M nm vs) := fun s hs => by
  obtain ⟨p, hp, _, rfl⟩ := mem_any.1 hs
  exact keys_fit hM _ (List.mem_map.2 ⟨p, hp, rfl⟩)
theorem Fit.app {xs ys : List ByteArray} (h : Fit xs) (k : Fit ys) : Fit (xs ++ ys) := fun s hs => (List.mem_append.1 hs).elim (h s) (k s)
end Go.Proofs.Ytccjbmmhdbainaa

/- Layer 10's build, walked. -/
namespace Go.Proofs.Ytccjbmmhdbainaa
open Go.RowKit Sets
set_option linter.unusedVariables false
set_option linter.unusedSectionVars false
set_option linter.unusedSimpArgs false
set_option maxRecDepth 100000

theorem iop_cells {w : World} {ad : Addr} {xs : List IOp} {k : Nat} {o : IOp} (h : Rd w (some ad) (xs.flatMap opC)) (hx : xs[k]? = some o) :
    w.cell? (ad.add (k * 3)) = some (.int .i64 o.kind) ∧ w.cell? ⟨(ad.add (k * 3)).block, (ad.add (k * 3)).off + 1, none⟩ = some (.string o.key) ∧ w.cell? ⟨(ad.add (k * 3)).block, (ad.add (k * 3)).off + 2, none⟩ = some o.v :=
  ⟨row_cell opC_len h k 0 hx rfl, row_field opC_len h k 1 (by decide) hx rfl, row_field opC_len h k 2 (by decide) hx rfl⟩
set_option maxHeartbeats 8000000 in
theorem fbuild_any (v : Value) (xs : List IOp) (w : World) (h : Row opC w v xs) (hok : ∀ o ∈ xs, IOpOk w o) :
    Calls Try.prog 26 #[v] w fun e w' => ∃ x L r M, e = .returned (.tuple #[.pointer (some ⟨x, 0, none⟩), .pointer (some ⟨r, 0, none⟩)]) ∧ Px w w' x r L M ∧ M.length ≤ 20 := by
  obtain ⟨A, n, c, rfl, hn, hnc, hc, hr⟩ := h
  have hc' : c ≤ 9223372036854775807 := by simpa [maxLen] using hc
  have HR := Lib.hid hr
  have HN := Lib.hid hn
  have HOK := Lib.hid hok
  clear hr hn hok hc
  go_enter Try.func26, Try.ntmps26
  go_wp2_with fail
  refine (new_list w).mono ?_
  rintro e v0 ⟨x, L, rfl, hi, hx⟩
  have hg1 : Gx w v0 x L [] := ⟨hi, hx⟩
  have HP0 := Lib.hid (⟨hg1.later (Ext.alloc v0 _), RefX.new v0⟩ : Px w (v0.alloc (.cells #[.slice none 0 0] 78)) x v0.heap.size L [])
  have HRB := Lib.hid hg1.ext.size
  clear hi hx hg1
  go_upto_region 3 with fail
  generalize v0.alloc (.cells #[.slice none 0 0] 78) = v1 at HP0 ⊢
  generalize v0.heap.size = r at HP0 HRB ⊢
  go_wp2_with fail
  go_loopw [6] (fun i wr => ∃ (k : Nat) (M : Mod), k ≤ n ∧ k ≤ 20 ∧ i = .int .i64 (k : Int) ∧ Px w wr x r L M ∧ M.length ≤ k) (fun i _ => n - (intOf i).toNat)
  case atStart => exact ⟨0, [], by omega, by omega, rfl, HP0.out, by simp⟩
  case round =>
    obtain ⟨k, M, hk, hk40, rfl, hpx, hml⟩ := hrel
    have HG := Lib.hid hpx
    clear hpx
    by_cases hkn : k < n
    · by_cases hk4 : k < 20
      · obtain ⟨ad, rfl⟩ : ∃ ad, A = some ad := row_some HR.out opC_len (by decide) (by have := HN.out; omega)
        obtain ⟨o, ho⟩ : ∃ o, xs[k]? = some o := ⟨_, List.getElem?_eq_getElem (by have := HN.out; omega)⟩
        obtain ⟨c0, c1, c2⟩ := iop_cells (HR.out.ext HG.out.gx.ext) ho
        have HO := Lib.hid (HOK.out o (List.mem_of_getElem? ho))
        obtain ⟨kd, ky, u, ls⟩ := o
        dsimp only at c0 c1 c2
        clear ho
        obtain ⟨Au, nu, cu, hu, hnu, _⟩ := HO.out.row
        dsimp only at hu hnu
        subst hu
        have HNU := Lib.hid hnu
        clear hnu
        go_upto_region 7 with fail
        clear c0 c1 c2
        have hb := heap_alloc_new wr (.cells #[.int .i64 kd, .string ky, .slice Au nu cu] 80 (0, 0))
        have hxa := Ext.alloc wr (.cells #[.int .i64 kd, .string ky, .slice Au nu cu] 80)
        have HG1 := Lib.hid (HG.out.later hxa)
        have HPR : Hid (r < wr.heap.size) := Lib.hid HG.out.ref.lt
        clear HG hxa
        generalize wr.alloc (.cells #[.int .i64 kd, .string ky, .slice Au nu cu] 80) = v1 at hb HG1 ⊢
        generalize wr.heap.size = p at hb HPR ⊢
        have HB := Lib.hid hb
        clear hb
        have hB1 := heap_cell HB.out 1
        have hB2 := heap_cell HB.out 2
        by_cases hk100 : ky.size ≤ 100
        · have g1 : decide ((100 : Int) < (ky.size : Int)) = false := decide_eq_false (by omega)
          have g1' : decide (100 < ky.size) = false := decide_eq_false (by omega)
          by_cases hl12 : nu ≤ 12
          · have g2 : decide ((12 : Int) < (nu : Int)) = false := decide_eq_false (by omega)
            have g2' : decide (12 < nu) = false := decide_eq_false (by omega)
            go_wp2_with fail
            refine (set_list HG1.out.gx.at_ ky (.slice Au nu cu) ls HO.out.key ((HO.out.ext HG1.out.gx.ext).row) (by have := HNU.out; omega) HO.out.labs (by omega)).mono ?_
            rintro e v3 ⟨rfl, hi, hkp, hcm⟩
            have HGX := Lib.hid (HG1.out.gx.did hi hkp)
            have HRF := Lib.hid (HG1.out.ref.cm hcm)
            have HB3 := Lib.hid (hcm.cells _ _ _ _ HB.out)
            have HMG := Lib.hid HG1.out.gx.at_.good
            clear hB1 hB2 hi hkp hcm HB
            have hB1 := heap_cell HB3.out 1
            have hB2 := heap_cell HB3.out 2
            go_wp2_with fail
            refine (rSet_any r M ky (.slice Au nu cu) ls v3 HRF.out HMG.out (by omega) HO.out.key (fun w' hk => ((HO.out.ext (hk.to_ext HGX.out.ext (by simpa using HRB.out))).row)) HO.out.labs).mono ?_
            rintro e v4 ⟨rfl, hd⟩
            have HP4 := Lib.hid (⟨gx_past HGX.out HRF.out HRB.out hd.kp, hd.at_⟩ : Px w v4 x r L (putM M ky ls))
            have hpl := len_put M ky ls
            clear hd
            go_wp2_with fail
            go_roundw
            case rel => exact ⟨k + 1, putM M ky ls, by omega, by omega, by go_num, HP4.out, by omega⟩
            case measure => simp [intOf]; omega
          · have g2 : (12 : Int) < (nu : Int) := by omega
            clear hl12
            go_wp2_with fail
            go_roundw
            case rel => exact ⟨k + 1, M, by omega, by omega, by go_num, HG1.out, by omega⟩
            case measure => simp [intOf]; omega
        · have g1 : (100 : Int) < (ky.size : Int) := by omega
          clear hk100
          go_wp2_with fail
          go_roundw
          case rel => exact ⟨k + 1, M, by omega, by omega, by go_num, HG1.out, by omega⟩
          case measure => simp [intOf]; omega
      · obtain rfl : k = 20 := by omega
        go_wp2_with fail
        exact bodyPost_ret (v := .tuple #[.pointer (some ⟨x, 0, none⟩), .pointer (some ⟨r, 0, none⟩)]) (by simp [results, Try.results26, go_sem]) rfl ⟨x, L, r, M, rfl, HG.out, by omega⟩
    · obtain rfl : k = n := by omega
      go_wp2_with fail
      exact bodyPost_ret (v := .tuple #[.pointer (some ⟨x, 0, none⟩), .pointer (some ⟨r, 0, none⟩)]) (by simp [results, Try.results26, go_sem]) rfl ⟨x, L, r, M, rfl, HG.out, by omega⟩
end Go.Proofs.Ytccjbmmhdbainaa
