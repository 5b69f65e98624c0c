/- Package resp's Feed: the closure that reads a command. -/
import Derived.Test.YtdbboooblbdihaaRspC
import Derived.Test.YtdbboooblbdihaaTxtS
import Derived.Laws.OwnMore
import Derived.Deep.CutRange
namespace Go.Proofs.Ytdbboooblbdihaa
open Go.RowKit
set_option linter.unusedVariables false
set_option linter.unusedSectionVars false
set_option linter.unusedSimpArgs false
set_option maxRecDepth 100000


theorem ten_le {a b : Nat} (h : a ≤ b) : (10 : Int) ^ a ≤ 10 ^ b := by
  have := Nat.pow_le_pow_right (show 0 < 10 by decide) h
  exact_mod_cast this
theorem num_range (most : Nat) (hm : most ≤ 18) : ∀ (l : List UInt8) (k : Nat) (z : Bool) (n : Int), 0 ≤ n → n < 10 ^ k → k ≤ most → ∀ m l', numG most false k z n l = .ok m l' → 0 ≤ m ∧ m < 10 ^ most := by
  intro l
  induction l with
  | nil => intro k z n _ _ _ m l' h; simp [numG] at h
  | cons c t ih =>
    intro k z n h0 h1 hk m l' h
    unfold numG at h
    by_cases hd : dig c
    · rw [if_pos hd] at h
      by_cases hc : k < most ∧ (k = 0 ∨ z = false)
      · rw [if_pos hc] at h
        have hp : (10 : Int) ^ k ≤ 10 ^ 17 := ten_le (by omega)
        have hp1 : (10 : Int) ^ (k + 1) = 10 ^ k * 10 := Int.pow_succ ..
        have hcn : (48 : Int) ≤ (c.toNat : Int) ∧ (c.toNat : Int) ≤ 57 := by unfold dig at hd; omega
        have h17 : (10 : Int) ^ 17 = 100000000000000000 := by decide
        have hdv : dval false c = (c.toNat : Int) - 48 := rfl
        have hn : nextN false n c = 10 * n + ((c.toNat : Int) - 48) := by
          unfold nextN
          rw [hdv]
          have e1 : wrap64 (10 * n) = 10 * n := by rw [← IntWalk.i64_left, IntWalk.i64_in _ (by omega)]
          rw [e1, ← IntWalk.i64_left, IntWalk.i64_in _ (by omega)]
        by_cases hq : wrap64 ((nextN false n c).tdiv 10) = n
        · rw [if_pos hq] at h
          exact ih (k + 1) _ _ (by rw [hn]; omega) (by rw [hn, hp1]; omega) (by omega) m l' h
        · rw [if_neg hq] at h
          cases h
      · rw [if_neg hc] at h
        cases h
    · rw [if_neg hd] at h
      by_cases hk0 : 0 < k
      · rw [if_pos hk0] at h
        injection h with e1 e2
        subst e1
        have hp : (10 : Int) ^ k ≤ 10 ^ most := ten_le hk
        exact ⟨h0, by omega⟩
      · rw [if_neg hk0] at h
        cases h
theorem bind_ok {α β : Type} {x : Pr α} {f : α → List UInt8 → Pr β} {b : β} {l : List UInt8} (h : x.bind f = .ok b l) : ∃ a l', x = .ok a l' ∧ f a l' = .ok b l := by
  cases x with
  | ok a l' => exact ⟨a, l', rfl, h⟩
  | er c => cases h
theorem line_range {x : UInt8} {most : Int} {l : List UInt8} {n : Int} {l' : List UInt8} (h : lineP x most l = .ok n l') : 0 ≤ n ∧ n ≤ most ∧ n < 1000000000 := by
  unfold lineP at h
  obtain ⟨a, l1, h1, h⟩ := bind_ok h
  obtain ⟨m, l2, h2, h⟩ := bind_ok h
  obtain ⟨b, l3, h3, h⟩ := bind_ok h
  have hr := num_range 9 (by decide) l1 0 false 0 (by decide) (by decide) (by decide) m l2 h2
  by_cases hm : m ≤ most
  · rw [if_pos hm] at h
    injection h with e1 e2
    subst e1
    exact ⟨hr.1, hm, by have := hr.2; have e : (10 : Int) ^ 9 = 1000000000 := by decide
                        omega⟩
  · rw [if_neg hm] at h
    cases h
/-- A word of a command. -/
def wordP (l : List UInt8) : Pr ByteArray := (lineP 36 512 l).bind fun n l => bytesP n.toNat l
/-- As many words, behind those that are there. -/
def wordsA : Nat → List ByteArray → List UInt8 → Pr (List ByteArray)
  | 0, out, l => .ok out l
  | k + 1, out, l => (wordP l).bind fun x l => wordsA k (out ++ [x]) l
def cmdP (l : List UInt8) : Pr (List ByteArray) := (lineP 42 64 l).bind fun n l => wordsA n.toNat [] l
def CmdOut (r vw : Nat) (s : ByteArray) (w : World) (res : Pr (List ByteArray)) (e : Ending) (w' : World) : Prop :=
  Kp [r, vw] w w' ∧ match res with
    | .ok ws l => e = .returned (.tuple #[]) ∧ Rdr w' r s l ∧ ∃ v, w'.heap[vw]? = some (.cells #[v] 36 (0, 0)) ∧ Own w w' v ws
    | .er c => e = .panicked [flt c] ∧ ∃ p, RdrAt w' r s p
theorem ap_kp {w w' : World} {base e size n : Nat} {v v' : Value} {xs : List Value} (h : Appended w w' base e size v v' n xs) : Kp (v.ownBlock.toList) w w' :=
  ⟨h.grown.os, h.grown.tape, h.grown.output, h.grown.size, fun k hk hn => h.grown.block k hk (by simpa [eq_comm] using hn)⟩
theorem own_len {w : World} {base e size n : Nat} {v : Value} {xs : List Value} (h : w.ownsRow base e size v n xs) : ∃ A c, v = .slice A n c := by
  rcases h.2 with ⟨rfl, rfl⟩ | ⟨g, cap, cur, rfl, _⟩ <;> exact ⟨_, _, rfl⟩
theorem own_blk {w0 w : World} {v : Value} {xs : List ByteArray} (h : Own w0 w v xs) : ∀ k, v.ownBlock = some k → w0.heap.size ≤ k := by
  intro k hk
  rcases h.2 with ⟨rfl, _⟩ | ⟨g, cap, cur, rfl, hb, hh, _⟩
  · simp [Value.ownBlock] at hk
  · simp [Value.ownBlock] at hk
    omega
theorem own_kp {w0 w w' : World} {v : Value} {xs : List ByteArray} {K : List Nat} (h : Own w0 w v xs) (hk : Kp K w w') (hn : ∀ k, v.ownBlock = some k → k ∉ K) : Own w0 w' v xs := by
  refine ⟨h.1, ?_⟩
  rcases h.2 with h0 | ⟨g, cap, cur, rfl, hb, hh, r⟩
  · exact .inl h0
  · exact .inr ⟨g, cap, cur, rfl, hb, hk.heap hh (hn g rfl), r⟩
set_option maxHeartbeats 4000000 in
theorem feed1_any (r vr vw : Nat) (s : ByteArray) (l : List UInt8) (w : World) (h : Rdr w r s l) (hz : s.size ≤ 1000000000) (hvr : w.heap[vr]? = some (.cells #[.pointer (some ⟨r, 0, none⟩)] 62 (0, 0))) (hvw : w.heap[vw]? = some (.cells #[.slice none 0 0] 36 (0, 0))) :
    Calls Try.prog 30 #[.pointer (some ⟨vr, 0, none⟩), .pointer (some ⟨vw, 0, none⟩)] w (CmdOut r vw s w (cmdP l)) := by
  obtain ⟨i0, hi0, hz0, hz1, hz2⟩ := info_parts Try.strInfo
  obtain ⟨F, hF⟩ : ∃ F, cmdP l = F := ⟨_, rfl⟩
  rw [hF]
  have HZ := Lib.hid hz
  have hl := line_any r s l 42 64 w h hz
  have hrw : r < w.heap.size := by obtain ⟨p, h1, _⟩ := h; exact (Array.getElem?_eq_some_iff.1 h1).1
  have hvwl := (Array.getElem?_eq_some_iff.1 hvw).1
  have hn1 : vr ≠ r := by obtain ⟨p, h1, _⟩ := h; exact blocks_ne hvr h1 (by decide)
  have hn2 : vr ≠ vw := blocks_ne hvr hvw (by decide)
  have hn3 : r ≠ vw := by obtain ⟨p, h1, _⟩ := h; exact blocks_ne h1 hvw (by decide)
  have HF := Lib.hid hF
  have HVR := Lib.hid hvr
  have HVW := Lib.hid hvw
  have HNE := Lib.hid (And.intro hn1 (And.intro hn2 (And.intro hn3 (And.intro hrw hvwl))))
  have a0 := heap_cell hvr 0
  clear hF hz h hn1 hn2 hn3 hvr hvw hrw hvwl
  cases hc : lineP 42 64 l with
  | er c =>
    have hf : F = .er c := by rw [← HF.out]; simp only [cmdP, hc, Pr.bind]
    subst hf
    have HP := Lib.hid (rd_er hl hc)
    clear hl hc
    go_enter Try.func30, Try.ntmps30
    go_wp2_with fail
    refine HP.out.mono ?_
    rintro e w9 ⟨rfl, hk9, q, hr9⟩
    exact ⟨rfl, hk9.mono (by simp), rfl, q, hr9⟩
  | ok n l1 =>
    have hrg := line_range hc
    obtain ⟨N, rfl⟩ : ∃ N : Nat, n = (N : Int) := ⟨n.toNat, by omega⟩
    have hf : wordsA N [] l1 = F := by rw [← HF.out]; simp only [cmdP, hc, Pr.bind]; rfl
    have HP := Lib.hid (rd_ok hl hc _ rfl)
    have HFF := Lib.hid hf
    have hN64 : N ≤ 64 := by omega
    clear hl hc hf HF hrg
    go_enter Try.func30, Try.ntmps30
    go_wp2_with fail
    refine HP.out.mono ?_
    rintro e w1 ⟨rfl, hk1, hr1⟩
    have HK1 := Lib.hid (hk1.mono (L' := [r, vw]) (by simp))
    have HR1 := Lib.hid hr1
    have HW1 : Hid (w1.heap[vw]? = some (.cells #[.slice none 0 0] 36 (0, 0))) := Lib.hid (hk1.heap HVW.out (by simpa using Ne.symm HNE.out.2.2.1))
    clear hk1 hr1 HP a0
    unfold intV
    go_wp2_with fail
    go_loopw [4] (fun iv wr => ∃ (k : Nat) (out : List ByteArray) (lr : List UInt8) (v : Value), k ≤ N ∧ iv = .int .i64 (k : Int) ∧ Kp [r, vw] w wr ∧ Rdr wr r s lr ∧ wr.heap[vw]? = some (.cells #[v] 36 (0, 0)) ∧ Own w wr v out ∧ out.length ≤ k ∧ wordsA (N - k) out lr = F) (fun iv _ => N - (intOf iv).toNat)
    case atStart => exact ⟨0, [], l1, _, by omega, rfl, HK1.out, HR1.out, HW1.out, Own.nil _ _, by simp, HFF.out⟩
    case round =>
      clear HK1 HR1 HW1 HFF
      obtain ⟨k, out, lr, v, hk, rfl, hkp, hrd, hvw, hown, hol, hws⟩ := hrel
      have HK := Lib.hid hkp
      have HR := Lib.hid hrd
      have HW := Lib.hid hvw
      have HO := Lib.hid hown
      have hvr1 := hkp.heap HVR.out (by simp; exact ⟨HNE.out.1, HNE.out.2.1⟩)
      have HV := Lib.hid hvr1
      have HWS := Lib.hid hws
      clear hkp hrd hvw hown hvr1 hws
      by_cases hkn : k < N
      · have hkI : (k : Int) < (N : Int) := by omega
        obtain ⟨j, hj⟩ : ∃ j, N - k = j + 1 := ⟨N - k - 1, by omega⟩
        have hws := HWS.out
        rw [hj] at hws
        have HLN := Lib.hid (fun wz (hx : Ext wr wz) => line_any r s lr 36 512 wz (HR.out.ext hx) HZ.out)
        have HWS2 := Lib.hid hws
        clear hws HWS
        go_upto_region 2 with fail
        refine wp_region_held_drew (S := fun wz => wz.cell? ⟨vr, 0, none⟩ = some (.pointer (some ⟨r, 0, none⟩))) (by kernel_rfl) (heap_cell HV.out 0) (fun hHeld => ?_)
        have hxt : Ext wr wr.drew := Ext.drew _
        generalize wr.drew = v1 at hxt hHeld ⊢
        have HX1 := Lib.hid hxt
        have HLV := Lib.hid (HLN.out v1 hxt)
        have HW1 := Lib.hid ((Kp.of_ext (L := []) hxt).heap HW.out (by simp))
        have HV1 := Lib.hid ((Kp.of_ext (L := []) hxt).heap HV.out (by simp))
        clear hxt HLN
        refine' wpAnyH_take (i := 1) (oi := _) (v := _) ?hi1 ?hs1 ?hf1 ?hr1 ?hQ1 (Or.inl ⟨?hw1, ?hy1⟩) (by assumption) ?hrest1
        case hi1 => simp only [List.getElem?_toArray]; rfl
        case hs1 => kernel_rfl
        case hf1 => kernel_rfl
        case hr1 => kernel_rfl
        case hQ1 => exact fun _ _ _ h => h
        case hw1 => rfl
        case hy1 => intro w hSw; (try dsimp only at hSw); go_simp; try with_reducible rfl
        try simp only [Act.put, List.setIfInBounds_toArray, List.set_cons_zero, List.set_cons_succ]
        refine' wpAnyH_take (i := 2) (oi := _) (v := _) ?hi2 ?hs2 ?hf2 ?hr2 ?hQ2 (Or.inl ⟨?hw2, ?hy2⟩) (by assumption) ?hrest2
        case hi2 => simp only [List.getElem?_toArray]; rfl
        case hs2 => kernel_rfl
        case hf2 => kernel_rfl
        case hr2 => kernel_rfl
        case hQ2 => exact fun _ _ _ h => h
        case hw2 => rfl
        case hy2 => intro w hSw; (try dsimp only at hSw); go_simp; try with_reducible rfl
        try simp only [Act.put, List.setIfInBounds_toArray, List.set_cons_zero, List.set_cons_succ]
        have a1 := heap_cell HW1.out 0
        cases hc : lineP 36 512 lr with
        | er c =>
          have hf : F = .er c := by rw [← HWS2.out]; simp only [wordsA, wordP, hc, Pr.bind]
          subst hf
          have HC := Lib.hid hc
          clear hc
          refine wpAnyH_ready (rs := [0, 3]) (by kernel_rfl) (by simp) ?_
          refine' AllReadyH.cons (o := _) ?hoA3 (fun K hK => ?hsA3) (AllReadyH.cons (o := _) ?hoB3 (fun K hK => ?hsB3) AllReadyH.nil)
          case hoA3 => simp only [List.getElem?_toArray]; rfl
          case hoB3 => simp only [List.getElem?_toArray]; rfl
          · go_simp
            clear a1
            refine hK.out _ _ ((heap_cell HV1.out 0)) (fun hHeld => ?_)
            clear hK K
            try simp only [Act.put, List.setIfInBounds_toArray, List.set_cons_zero, List.set_cons_succ]
            refine wpAnyH_ready (rs := [3]) (by kernel_rfl) (by simp) ?_
            refine' AllReadyH.cons (o := _) ?ho5 (fun K hK => ?hstep5) AllReadyH.nil
            case ho5 => simp only [List.getElem?_toArray]; rfl
            go_simp
            refine (rd_er HLV.out HC.out).mono ?_
            rintro e w9 ⟨rfl, hk9, q, hr9⟩
            exact ⟨rfl, HK.out.and ((Kp.of_ext HX1.out).and (hk9.mono (by simp))), rfl, q, hr9⟩
          · go_simp
            refine (rd_er HLV.out HC.out).mono ?_
            rintro e w9 ⟨rfl, hk9, q, hr9⟩
            exact ⟨rfl, HK.out.and ((Kp.of_ext HX1.out).and (hk9.mono (by simp))), rfl, q, hr9⟩
        | ok m l2 =>
          have hrg := line_range hc
          obtain ⟨M, rfl⟩ : ∃ M : Nat, m = (M : Int) := ⟨m.toNat, by omega⟩
          have hf : (bytesP M l2).bind (fun x l => wordsA j (out ++ [x]) l) = F := by rw [← HWS2.out]; simp only [wordsA, wordP, hc, Pr.bind]; rfl
          have HF2 := Lib.hid hf
          have HC := Lib.hid hc
          have hM : M ≤ 512 := by omega
          clear hc hf hrg
          cases hc2 : bytesP M l2 with
          | er c =>
            have hf : F = .er c := by rw [← HF2.out]; simp only [hc2, Pr.bind]
            subst hf
            have HC2 := Lib.hid hc2
            clear hc2
            refine wpAnyH_ready (rs := [0, 3]) (by kernel_rfl) (by simp) ?_
            refine' AllReadyH.cons (o := _) ?hoA8 (fun K hK => ?hsA8) (AllReadyH.cons (o := _) ?hoB8 (fun K hK => ?hsB8) AllReadyH.nil)
            case hoA8 => simp only [List.getElem?_toArray]; rfl
            case hoB8 => simp only [List.getElem?_toArray]; rfl
            · go_simp
              clear a1
              refine hK.out _ _ ((heap_cell HV1.out 0)) (fun hHeld => ?_)
              clear hK K
              try simp only [Act.put, List.setIfInBounds_toArray, List.set_cons_zero, List.set_cons_succ]
              refine wpAnyH_ready (rs := [3]) (by kernel_rfl) (by simp) ?_
              refine' AllReadyH.cons (o := _) ?ho10 (fun K hK => ?hstep10) AllReadyH.nil
              case ho10 => simp only [List.getElem?_toArray]; rfl
              go_simp
              refine (rd_ok HLV.out HC.out _ rfl).mono ?_
              rintro e v2 ⟨rfl, hk2, hr2⟩
              unfold intV
              have HK2 := Lib.hid (HK.out.and ((Kp.of_ext HX1.out).and (hk2.mono (L' := [r, vw]) (by simp))))
              have HR2 := Lib.hid hr2
              have HW2 := Lib.hid (hk2.heap HW1.out (by simpa using Ne.symm HNE.out.2.2.1))
              have HV2 := Lib.hid (hk2.heap HV1.out (by simpa using HNE.out.1))
              have HO2 := Lib.hid (own_kp (HO.out.ext HX1.out) hk2 (fun k hk => by have := own_blk HO.out k hk; have := HNE.out.2.2.2.1; simp; omega))
              have HBB := Lib.hid (bytes_any r s l2 M v2 hr2 HZ.out (by omega))
              clear hk2 hr2
              refine hK.out _ _ ((heap_cell HV2.out 0)) (fun hHeld => ?_)
              clear hK K
              try simp only [Act.put, List.setIfInBounds_toArray, List.set_cons_zero, List.set_cons_succ]
              refine wpAnyH_ready (rs := [4]) (by kernel_rfl) (by simp) ?_
              refine' AllReadyH.cons (o := _) ?ho12 (fun K hK => ?hstep12) AllReadyH.nil
              case ho12 => simp only [List.getElem?_toArray]; rfl
              go_simp
              refine (rd_er HBB.out HC2.out).mono ?_
              rintro e w9 ⟨rfl, hk9, q, hr9⟩
              exact ⟨rfl, HK2.out.and (hk9.mono (by simp)), rfl, q, hr9⟩
            · go_simp
              refine (rd_ok HLV.out HC.out _ rfl).mono ?_
              rintro e v2 ⟨rfl, hk2, hr2⟩
              unfold intV
              have HK2 := Lib.hid (HK.out.and ((Kp.of_ext HX1.out).and (hk2.mono (L' := [r, vw]) (by simp))))
              have HR2 := Lib.hid hr2
              have HW2 := Lib.hid (hk2.heap HW1.out (by simpa using Ne.symm HNE.out.2.2.1))
              have HV2 := Lib.hid (hk2.heap HV1.out (by simpa using HNE.out.1))
              have HO2 := Lib.hid (own_kp (HO.out.ext HX1.out) hk2 (fun k hk => by have := own_blk HO.out k hk; have := HNE.out.2.2.2.1; simp; omega))
              have HBB := Lib.hid (bytes_any r s l2 M v2 hr2 HZ.out (by omega))
              clear hk2 hr2
              refine hK.out _ _ ((heap_cell HV2.out 0)) (fun hHeld => ?_)
              clear hK K
              try simp only [Act.put, List.setIfInBounds_toArray, List.set_cons_zero, List.set_cons_succ]
              have a1 := heap_cell HW2.out 0
              refine wpAnyH_ready (rs := [0, 4]) (by kernel_rfl) (by simp) ?_
              refine' AllReadyH.cons (o := _) ?hoA15 (fun K hK => ?hsA15) (AllReadyH.cons (o := _) ?hoB15 (fun K hK => ?hsB15) AllReadyH.nil)
              case hoA15 => simp only [List.getElem?_toArray]; rfl
              case hoB15 => simp only [List.getElem?_toArray]; rfl
              · go_simp
                clear a1
                refine hK.out _ _ ((heap_cell HV2.out 0)) (fun hHeld => ?_)
                clear hK K
                try simp only [Act.put, List.setIfInBounds_toArray, List.set_cons_zero, List.set_cons_succ]
                refine wpAnyH_ready (rs := [4]) (by kernel_rfl) (by simp) ?_
                refine' AllReadyH.cons (o := _) ?ho17 (fun K hK => ?hstep17) AllReadyH.nil
                case ho17 => simp only [List.getElem?_toArray]; rfl
                go_simp
                refine (rd_er HBB.out HC2.out).mono ?_
                rintro e w9 ⟨rfl, hk9, q, hr9⟩
                exact ⟨rfl, HK2.out.and (hk9.mono (by simp)), rfl, q, hr9⟩
              · go_simp
                refine (rd_er HBB.out HC2.out).mono ?_
                rintro e w9 ⟨rfl, hk9, q, hr9⟩
                exact ⟨rfl, HK2.out.and (hk9.mono (by simp)), rfl, q, hr9⟩
          | ok x l3 =>
            have hf : wordsA j (out ++ [x]) l3 = F := by rw [← HF2.out]; simp only [hc2, Pr.bind]
            have HF3 := Lib.hid hf
            have HC2 := Lib.hid hc2
            clear hc2 hf
            refine wpAnyH_ready (rs := [0, 3]) (by kernel_rfl) (by simp) ?_
            refine' AllReadyH.cons (o := _) ?hoA20 (fun K hK => ?hsA20) (AllReadyH.cons (o := _) ?hoB20 (fun K hK => ?hsB20) AllReadyH.nil)
            case hoA20 => simp only [List.getElem?_toArray]; rfl
            case hoB20 => simp only [List.getElem?_toArray]; rfl
            · go_simp
              clear a1
              refine hK.out _ _ ((heap_cell HV1.out 0)) (fun hHeld => ?_)
              clear hK K
              try simp only [Act.put, List.setIfInBounds_toArray, List.set_cons_zero, List.set_cons_succ]
              refine wpAnyH_ready (rs := [3]) (by kernel_rfl) (by simp) ?_
              refine' AllReadyH.cons (o := _) ?ho22 (fun K hK => ?hstep22) AllReadyH.nil
              case ho22 => simp only [List.getElem?_toArray]; rfl
              go_simp
              refine (rd_ok HLV.out HC.out _ rfl).mono ?_
              rintro e v2 ⟨rfl, hk2, hr2⟩
              unfold intV
              have HK2 := Lib.hid (HK.out.and ((Kp.of_ext HX1.out).and (hk2.mono (L' := [r, vw]) (by simp))))
              have HR2 := Lib.hid hr2
              have HW2 := Lib.hid (hk2.heap HW1.out (by simpa using Ne.symm HNE.out.2.2.1))
              have HV2 := Lib.hid (hk2.heap HV1.out (by simpa using HNE.out.1))
              have HO2 := Lib.hid (own_kp (HO.out.ext HX1.out) hk2 (fun k hk => by have := own_blk HO.out k hk; have := HNE.out.2.2.2.1; simp; omega))
              have HBB := Lib.hid (bytes_any r s l2 M v2 hr2 HZ.out (by omega))
              clear hk2 hr2
              refine hK.out _ _ ((heap_cell HV2.out 0)) (fun hHeld => ?_)
              clear hK K
              try simp only [Act.put, List.setIfInBounds_toArray, List.set_cons_zero, List.set_cons_succ]
              refine wpAnyH_ready (rs := [4]) (by kernel_rfl) (by simp) ?_
              refine' AllReadyH.cons (o := _) ?ho24 (fun K hK => ?hstep24) AllReadyH.nil
              case ho24 => simp only [List.getElem?_toArray]; rfl
              go_simp
              refine (rd_ok HBB.out HC2.out _ rfl).mono ?_
              rintro e v3 ⟨rfl, hk3, hr3⟩
              unfold strV
              have HK3 := Lib.hid (HK2.out.and (hk3.mono (L' := [r, vw]) (by simp)))
              have HR3 := Lib.hid hr3
              have HW3 := Lib.hid (hk3.heap HW2.out (by simpa using Ne.symm HNE.out.2.2.1))
              have HV3 := Lib.hid (hk3.heap HV2.out (by simpa using HNE.out.1))
              have HO3 := Lib.hid (own_kp HO2.out hk3 (fun k hk => by have := own_blk HO2.out k hk; have := HNE.out.2.2.2.1; simp; omega))
              clear hk3 hr3
              refine hK.out _ _ ((heap_cell HV3.out 0)) (fun hHeld => ?_)
              clear hK K
              try simp only [Act.put, List.setIfInBounds_toArray, List.set_cons_zero, List.set_cons_succ]
              refine wpAnyH_ready (rs := [5]) (by kernel_rfl) (by simp) ?_
              refine' AllReadyH.cons (o := _) ?ho26 (fun K hK => ?hstep26) AllReadyH.nil
              case ho26 => simp only [List.getElem?_toArray]; rfl
              go_simp
              have hxa := Ext.alloc v3 (.cells #[.string x] 9)
              have hra := Rd.new v3 #[.string x] 9
              have HW4 := Lib.hid ((Kp.of_ext (L := []) hxa).heap HW3.out (by simp))
              have HV4 := Lib.hid ((Kp.of_ext (L := []) hxa).heap HV3.out (by simp))
              have HK4 := Lib.hid (HK3.out.then hxa)
              have HO4 := Lib.hid (HO3.out.ext hxa)
              have HR4 := Lib.hid (HR3.out.ext hxa)
              generalize v3.heap.size = q3 at hra ⊢
              generalize v3.alloc (.cells #[.string x] 9) = v4 at hxa hra HW4 HV4 HK4 HO4 HR4 ⊢
              have HRA := Lib.hid hra
              clear hra hxa
              refine hK.out _ _ ((heap_cell HV4.out 0)) (fun hHeld => ?_)
              clear hK K
              try simp only [Act.put, List.setIfInBounds_toArray, List.set_cons_zero, List.set_cons_succ]
              refine wpAnyH_ready (rs := [6]) (by kernel_rfl) (by simp) ?_
              refine' AllReadyH.cons (o := _) ?ho56 (fun K hK => ?hstep56) AllReadyH.nil
              case ho56 => simp only [List.getElem?_toArray]; rfl
              refine step_append_rd v4 rfl (.tmp 6) (.tmp 11) 36 rfl w.heap.size 9 i0 (.string ByteArray.empty) 1 16 Try.underlying36 hi0 hz0 hz1 hz2 rfl (by decide) v out.length (out.map .string) rfl (by exact HO4.out) (some ⟨q3, 0, none⟩) 1 1 [.string x] rfl rfl HRA.out (by intro u hu; simp at hu; subst hu; rfl) (by simp only [maxLen]; omega) (by omega) HK4.out.size ?_
              intro v5 w5 happ
              obtain ⟨A5, c5, rfl⟩ := own_len happ.own
              have hk5 := ap_kp happ
              have ho5 : Own w w5 (.slice A5 (out.length + 1) c5) (out ++ [x]) := by
                have := happ.own
                unfold Own
                rw [List.map_append, List.length_append]
                exact this
              have hvb : ∀ k, v.ownBlock = some k → w.heap.size ≤ k := own_blk HO4.out
              have hn : ∀ k, k < w.heap.size → k ∉ v.ownBlock.toList := fun k hk hm => by have := hvb k (by simpa using hm); omega
              have hvrl := (Array.getElem?_eq_some_iff.1 HVR.out).1
              have HW5 := Lib.hid (hk5.heap HW4.out (hn vw HNE.out.2.2.2.2))
              have HV5 := Lib.hid (hk5.heap HV4.out (hn vr hvrl))
              have HR5 := Lib.hid (HR4.out.kp hk5 (hn r HNE.out.2.2.2.1))
              have HK5 := Lib.hid (HK4.out.trans hk5 (fun k hk => .inr (hvb k (by simpa using hk))))
              have HO5 := Lib.hid ho5
              clear happ hk5 ho5
              refine hK.out _ _ ((heap_cell HV5.out 0)) (fun hHeld => ?_)
              clear hK K
              try simp only [Act.put, List.setIfInBounds_toArray, List.set_cons_zero, List.set_cons_succ]
              have b0 := heap_cell HW5.out 0
              have g0 := heap_frozen HW5.out 0
              refine wpAnyH_ready (rs := [7]) (by kernel_rfl) (by simp) ?_
              refine' AllReadyH.cons (o := _) ?ho58 (fun K hK => ?hstep58) AllReadyH.nil
              case ho58 => simp only [List.getElem?_toArray]; rfl
              go_simp
              have HW6 := Lib.hid (heap_setCell_same w5 vw 0 _ 36 (.slice A5 (out.length + 1) c5) HW5.out)
              have hk6 : Kp [vw] w5 (w5.setCell ⟨vw, 0, none⟩ (.slice A5 (out.length + 1) c5)) := Kp.store vw 0 _ (by simp)
              have HK6 := Lib.hid (HK5.out.and (hk6.mono (L' := [r, vw]) (by simp)))
              have HR6 := Lib.hid (HR5.out.kp hk6 (by simpa using HNE.out.2.2.1))
              have HV6 := Lib.hid (hk6.heap HV5.out (by simpa using HNE.out.2.1))
              have HO6 := Lib.hid (own_kp HO5.out hk6 (fun k hk => by have := own_blk HO5.out k hk; have := HNE.out.2.2.2.2; simp; omega))
              clear hk6 b0 g0
              generalize w5.setCell ⟨vw, 0, none⟩ (.slice A5 (out.length + 1) c5) = w6 at HW6 HK6 HR6 HV6 HO6 ⊢
              refine hK.out _ _ ((heap_cell HV6.out 0)) (fun hHeld => ?_)
              clear hK K
              try simp only [Act.put, List.setIfInBounds_toArray, List.set_cons_zero, List.set_cons_succ]
              refine wpAnyH_done (by kernel_rfl) ?_ _
              go_wp2_with fail
              go_roundw
              case rel => exact ⟨k + 1, out ++ [x], l3, _, by omega, by go_num, HK6.out, HR6.out, HW6.out, HO6.out, by rw [List.length_append]; simp; omega, by rw [show N - (k + 1) = j by omega]; exact HF3.out⟩
              case measure => simp [intOf]; omega
            · go_simp
              refine (rd_ok HLV.out HC.out _ rfl).mono ?_
              rintro e v2 ⟨rfl, hk2, hr2⟩
              unfold intV
              have HK2 := Lib.hid (HK.out.and ((Kp.of_ext HX1.out).and (hk2.mono (L' := [r, vw]) (by simp))))
              have HR2 := Lib.hid hr2
              have HW2 := Lib.hid (hk2.heap HW1.out (by simpa using Ne.symm HNE.out.2.2.1))
              have HV2 := Lib.hid (hk2.heap HV1.out (by simpa using HNE.out.1))
              have HO2 := Lib.hid (own_kp (HO.out.ext HX1.out) hk2 (fun k hk => by have := own_blk HO.out k hk; have := HNE.out.2.2.2.1; simp; omega))
              have HBB := Lib.hid (bytes_any r s l2 M v2 hr2 HZ.out (by omega))
              clear hk2 hr2
              refine hK.out _ _ ((heap_cell HV2.out 0)) (fun hHeld => ?_)
              clear hK K
              try simp only [Act.put, List.setIfInBounds_toArray, List.set_cons_zero, List.set_cons_succ]
              have a1 := heap_cell HW2.out 0
              refine wpAnyH_ready (rs := [0, 4]) (by kernel_rfl) (by simp) ?_
              refine' AllReadyH.cons (o := _) ?hoA30 (fun K hK => ?hsA30) (AllReadyH.cons (o := _) ?hoB30 (fun K hK => ?hsB30) AllReadyH.nil)
              case hoA30 => simp only [List.getElem?_toArray]; rfl
              case hoB30 => simp only [List.getElem?_toArray]; rfl
              · go_simp
                clear a1
                refine hK.out _ _ ((heap_cell HV2.out 0)) (fun hHeld => ?_)
                clear hK K
                try simp only [Act.put, List.setIfInBounds_toArray, List.set_cons_zero, List.set_cons_succ]
                refine wpAnyH_ready (rs := [4]) (by kernel_rfl) (by simp) ?_
                refine' AllReadyH.cons (o := _) ?ho32 (fun K hK => ?hstep32) AllReadyH.nil
                case ho32 => simp only [List.getElem?_toArray]; rfl
                go_simp
                refine (rd_ok HBB.out HC2.out _ rfl).mono ?_
                rintro e v3 ⟨rfl, hk3, hr3⟩
                unfold strV
                have HK3 := Lib.hid (HK2.out.and (hk3.mono (L' := [r, vw]) (by simp)))
                have HR3 := Lib.hid hr3
                have HW3 := Lib.hid (hk3.heap HW2.out (by simpa using Ne.symm HNE.out.2.2.1))
                have HV3 := Lib.hid (hk3.heap HV2.out (by simpa using HNE.out.1))
                have HO3 := Lib.hid (own_kp HO2.out hk3 (fun k hk => by have := own_blk HO2.out k hk; have := HNE.out.2.2.2.1; simp; omega))
                clear hk3 hr3
                refine hK.out _ _ ((heap_cell HV3.out 0)) (fun hHeld => ?_)
                clear hK K
                try simp only [Act.put, List.setIfInBounds_toArray, List.set_cons_zero, List.set_cons_succ]
                refine wpAnyH_ready (rs := [5]) (by kernel_rfl) (by simp) ?_
                refine' AllReadyH.cons (o := _) ?ho34 (fun K hK => ?hstep34) AllReadyH.nil
                case ho34 => simp only [List.getElem?_toArray]; rfl
                go_simp
                have hxa := Ext.alloc v3 (.cells #[.string x] 9)
                have hra := Rd.new v3 #[.string x] 9
                have HW4 := Lib.hid ((Kp.of_ext (L := []) hxa).heap HW3.out (by simp))
                have HV4 := Lib.hid ((Kp.of_ext (L := []) hxa).heap HV3.out (by simp))
                have HK4 := Lib.hid (HK3.out.then hxa)
                have HO4 := Lib.hid (HO3.out.ext hxa)
                have HR4 := Lib.hid (HR3.out.ext hxa)
                generalize v3.heap.size = q3 at hra ⊢
                generalize v3.alloc (.cells #[.string x] 9) = v4 at hxa hra HW4 HV4 HK4 HO4 HR4 ⊢
                have HRA := Lib.hid hra
                clear hra hxa
                refine hK.out _ _ ((heap_cell HV4.out 0)) (fun hHeld => ?_)
                clear hK K
                try simp only [Act.put, List.setIfInBounds_toArray, List.set_cons_zero, List.set_cons_succ]
                refine wpAnyH_ready (rs := [6]) (by kernel_rfl) (by simp) ?_
                refine' AllReadyH.cons (o := _) ?ho65 (fun K hK => ?hstep65) AllReadyH.nil
                case ho65 => simp only [List.getElem?_toArray]; rfl
                refine step_append_rd v4 rfl (.tmp 6) (.tmp 11) 36 rfl w.heap.size 9 i0 (.string ByteArray.empty) 1 16 Try.underlying36 hi0 hz0 hz1 hz2 rfl (by decide) v out.length (out.map .string) rfl (by exact HO4.out) (some ⟨q3, 0, none⟩) 1 1 [.string x] rfl rfl HRA.out (by intro u hu; simp at hu; subst hu; rfl) (by simp only [maxLen]; omega) (by omega) HK4.out.size ?_
                intro v5 w5 happ
                obtain ⟨A5, c5, rfl⟩ := own_len happ.own
                have hk5 := ap_kp happ
                have ho5 : Own w w5 (.slice A5 (out.length + 1) c5) (out ++ [x]) := by
                  have := happ.own
                  unfold Own
                  rw [List.map_append, List.length_append]
                  exact this
                have hvb : ∀ k, v.ownBlock = some k → w.heap.size ≤ k := own_blk HO4.out
                have hn : ∀ k, k < w.heap.size → k ∉ v.ownBlock.toList := fun k hk hm => by have := hvb k (by simpa using hm); omega
                have hvrl := (Array.getElem?_eq_some_iff.1 HVR.out).1
                have HW5 := Lib.hid (hk5.heap HW4.out (hn vw HNE.out.2.2.2.2))
                have HV5 := Lib.hid (hk5.heap HV4.out (hn vr hvrl))
                have HR5 := Lib.hid (HR4.out.kp hk5 (hn r HNE.out.2.2.2.1))
                have HK5 := Lib.hid (HK4.out.trans hk5 (fun k hk => .inr (hvb k (by simpa using hk))))
                have HO5 := Lib.hid ho5
                clear happ hk5 ho5
                refine hK.out _ _ ((heap_cell HV5.out 0)) (fun hHeld => ?_)
                clear hK K
                try simp only [Act.put, List.setIfInBounds_toArray, List.set_cons_zero, List.set_cons_succ]
                have b0 := heap_cell HW5.out 0
                have g0 := heap_frozen HW5.out 0
                refine wpAnyH_ready (rs := [7]) (by kernel_rfl) (by simp) ?_
                refine' AllReadyH.cons (o := _) ?ho67 (fun K hK => ?hstep67) AllReadyH.nil
                case ho67 => simp only [List.getElem?_toArray]; rfl
                go_simp
                have HW6 := Lib.hid (heap_setCell_same w5 vw 0 _ 36 (.slice A5 (out.length + 1) c5) HW5.out)
                have hk6 : Kp [vw] w5 (w5.setCell ⟨vw, 0, none⟩ (.slice A5 (out.length + 1) c5)) := Kp.store vw 0 _ (by simp)
                have HK6 := Lib.hid (HK5.out.and (hk6.mono (L' := [r, vw]) (by simp)))
                have HR6 := Lib.hid (HR5.out.kp hk6 (by simpa using HNE.out.2.2.1))
                have HV6 := Lib.hid (hk6.heap HV5.out (by simpa using HNE.out.2.1))
                have HO6 := Lib.hid (own_kp HO5.out hk6 (fun k hk => by have := own_blk HO5.out k hk; have := HNE.out.2.2.2.2; simp; omega))
                clear hk6 b0 g0
                generalize w5.setCell ⟨vw, 0, none⟩ (.slice A5 (out.length + 1) c5) = w6 at HW6 HK6 HR6 HV6 HO6 ⊢
                refine hK.out _ _ ((heap_cell HV6.out 0)) (fun hHeld => ?_)
                clear hK K
                try simp only [Act.put, List.setIfInBounds_toArray, List.set_cons_zero, List.set_cons_succ]
                refine wpAnyH_done (by kernel_rfl) ?_ _
                go_wp2_with fail
                go_roundw
                case rel => exact ⟨k + 1, out ++ [x], l3, _, by omega, by go_num, HK6.out, HR6.out, HW6.out, HO6.out, by rw [List.length_append]; simp; omega, by rw [show N - (k + 1) = j by omega]; exact HF3.out⟩
                case measure => simp [intOf]; omega
              · go_simp
                refine (rd_ok HBB.out HC2.out _ rfl).mono ?_
                rintro e v3 ⟨rfl, hk3, hr3⟩
                unfold strV
                have HK3 := Lib.hid (HK2.out.and (hk3.mono (L' := [r, vw]) (by simp)))
                have HR3 := Lib.hid hr3
                have HW3 := Lib.hid (hk3.heap HW2.out (by simpa using Ne.symm HNE.out.2.2.1))
                have HV3 := Lib.hid (hk3.heap HV2.out (by simpa using HNE.out.1))
                have HO3 := Lib.hid (own_kp HO2.out hk3 (fun k hk => by have := own_blk HO2.out k hk; have := HNE.out.2.2.2.1; simp; omega))
                clear hk3 hr3
                refine hK.out _ _ ((heap_cell HV3.out 0)) (fun hHeld => ?_)
                clear hK K
                try simp only [Act.put, List.setIfInBounds_toArray, List.set_cons_zero, List.set_cons_succ]
                have a1 := heap_cell HW3.out 0
                refine wpAnyH_ready (rs := [0, 5]) (by kernel_rfl) (by simp) ?_
                refine' AllReadyH.cons (o := _) ?hoA38 (fun K hK => ?hsA38) (AllReadyH.cons (o := _) ?hoB38 (fun K hK => ?hsB38) AllReadyH.nil)
                case hoA38 => simp only [List.getElem?_toArray]; rfl
                case hoB38 => simp only [List.getElem?_toArray]; rfl
                · go_simp
                  clear a1
                  refine hK.out _ _ ((heap_cell HV3.out 0)) (fun hHeld => ?_)
                  clear hK K
                  try simp only [Act.put, List.setIfInBounds_toArray, List.set_cons_zero, List.set_cons_succ]
                  refine wpAnyH_ready (rs := [5]) (by kernel_rfl) (by simp) ?_
                  refine' AllReadyH.cons (o := _) ?ho40 (fun K hK => ?hstep40) AllReadyH.nil
                  case ho40 => simp only [List.getElem?_toArray]; rfl
                  go_simp
                  have hxa := Ext.alloc v3 (.cells #[.string x] 9)
                  have hra := Rd.new v3 #[.string x] 9
                  have HW4 := Lib.hid ((Kp.of_ext (L := []) hxa).heap HW3.out (by simp))
                  have HV4 := Lib.hid ((Kp.of_ext (L := []) hxa).heap HV3.out (by simp))
                  have HK4 := Lib.hid (HK3.out.then hxa)
                  have HO4 := Lib.hid (HO3.out.ext hxa)
                  have HR4 := Lib.hid (HR3.out.ext hxa)
                  generalize v3.heap.size = q3 at hra ⊢
                  generalize v3.alloc (.cells #[.string x] 9) = v4 at hxa hra HW4 HV4 HK4 HO4 HR4 ⊢
                  have HRA := Lib.hid hra
                  clear hra hxa
                  refine hK.out _ _ ((heap_cell HV4.out 0)) (fun hHeld => ?_)
                  clear hK K
                  try simp only [Act.put, List.setIfInBounds_toArray, List.set_cons_zero, List.set_cons_succ]
                  refine wpAnyH_ready (rs := [6]) (by kernel_rfl) (by simp) ?_
                  refine' AllReadyH.cons (o := _) ?ho73 (fun K hK => ?hstep73) AllReadyH.nil
                  case ho73 => simp only [List.getElem?_toArray]; rfl
                  refine step_append_rd v4 rfl (.tmp 6) (.tmp 11) 36 rfl w.heap.size 9 i0 (.string ByteArray.empty) 1 16 Try.underlying36 hi0 hz0 hz1 hz2 rfl (by decide) v out.length (out.map .string) rfl (by exact HO4.out) (some ⟨q3, 0, none⟩) 1 1 [.string x] rfl rfl HRA.out (by intro u hu; simp at hu; subst hu; rfl) (by simp only [maxLen]; omega) (by omega) HK4.out.size ?_
                  intro v5 w5 happ
                  obtain ⟨A5, c5, rfl⟩ := own_len happ.own
                  have hk5 := ap_kp happ
                  have ho5 : Own w w5 (.slice A5 (out.length + 1) c5) (out ++ [x]) := by
                    have := happ.own
                    unfold Own
                    rw [List.map_append, List.length_append]
                    exact this
                  have hvb : ∀ k, v.ownBlock = some k → w.heap.size ≤ k := own_blk HO4.out
                  have hn : ∀ k, k < w.heap.size → k ∉ v.ownBlock.toList := fun k hk hm => by have := hvb k (by simpa using hm); omega
                  have hvrl := (Array.getElem?_eq_some_iff.1 HVR.out).1
                  have HW5 := Lib.hid (hk5.heap HW4.out (hn vw HNE.out.2.2.2.2))
                  have HV5 := Lib.hid (hk5.heap HV4.out (hn vr hvrl))
                  have HR5 := Lib.hid (HR4.out.kp hk5 (hn r HNE.out.2.2.2.1))
                  have HK5 := Lib.hid (HK4.out.trans hk5 (fun k hk => .inr (hvb k (by simpa using hk))))
                  have HO5 := Lib.hid ho5
                  clear happ hk5 ho5
                  refine hK.out _ _ ((heap_cell HV5.out 0)) (fun hHeld => ?_)
                  clear hK K
                  try simp only [Act.put, List.setIfInBounds_toArray, List.set_cons_zero, List.set_cons_succ]
                  have b0 := heap_cell HW5.out 0
                  have g0 := heap_frozen HW5.out 0
                  refine wpAnyH_ready (rs := [7]) (by kernel_rfl) (by simp) ?_
                  refine' AllReadyH.cons (o := _) ?ho75 (fun K hK => ?hstep75) AllReadyH.nil
                  case ho75 => simp only [List.getElem?_toArray]; rfl
                  go_simp
                  have HW6 := Lib.hid (heap_setCell_same w5 vw 0 _ 36 (.slice A5 (out.length + 1) c5) HW5.out)
                  have hk6 : Kp [vw] w5 (w5.setCell ⟨vw, 0, none⟩ (.slice A5 (out.length + 1) c5)) := Kp.store vw 0 _ (by simp)
                  have HK6 := Lib.hid (HK5.out.and (hk6.mono (L' := [r, vw]) (by simp)))
                  have HR6 := Lib.hid (HR5.out.kp hk6 (by simpa using HNE.out.2.2.1))
                  have HV6 := Lib.hid (hk6.heap HV5.out (by simpa using HNE.out.2.1))
                  have HO6 := Lib.hid (own_kp HO5.out hk6 (fun k hk => by have := own_blk HO5.out k hk; have := HNE.out.2.2.2.2; simp; omega))
                  clear hk6 b0 g0
                  generalize w5.setCell ⟨vw, 0, none⟩ (.slice A5 (out.length + 1) c5) = w6 at HW6 HK6 HR6 HV6 HO6 ⊢
                  refine hK.out _ _ ((heap_cell HV6.out 0)) (fun hHeld => ?_)
                  clear hK K
                  try simp only [Act.put, List.setIfInBounds_toArray, List.set_cons_zero, List.set_cons_succ]
                  refine wpAnyH_done (by kernel_rfl) ?_ _
                  go_wp2_with fail
                  go_roundw
                  case rel => exact ⟨k + 1, out ++ [x], l3, _, by omega, by go_num, HK6.out, HR6.out, HW6.out, HO6.out, by rw [List.length_append]; simp; omega, by rw [show N - (k + 1) = j by omega]; exact HF3.out⟩
                  case measure => simp [intOf]; omega
                · go_simp
                  have hxa := Ext.alloc v3 (.cells #[.string x] 9)
                  have hra := Rd.new v3 #[.string x] 9
                  have HW4 := Lib.hid ((Kp.of_ext (L := []) hxa).heap HW3.out (by simp))
                  have HV4 := Lib.hid ((Kp.of_ext (L := []) hxa).heap HV3.out (by simp))
                  have HK4 := Lib.hid (HK3.out.then hxa)
                  have HO4 := Lib.hid (HO3.out.ext hxa)
                  have HR4 := Lib.hid (HR3.out.ext hxa)
                  generalize v3.heap.size = q3 at hra ⊢
                  generalize v3.alloc (.cells #[.string x] 9) = v4 at hxa hra HW4 HV4 HK4 HO4 HR4 ⊢
                  have HRA := Lib.hid hra
                  clear hra hxa
                  refine hK.out _ _ ((heap_cell HV4.out 0)) (fun hHeld => ?_)
                  clear hK K
                  try simp only [Act.put, List.setIfInBounds_toArray, List.set_cons_zero, List.set_cons_succ]
                  have a1 := heap_cell HW4.out 0
                  refine wpAnyH_ready (rs := [0]) (by kernel_rfl) (by simp) ?_
                  refine' AllReadyH.cons (o := _) ?ho44 (fun K hK => ?hstep44) AllReadyH.nil
                  case ho44 => simp only [List.getElem?_toArray]; rfl
                  go_simp
                  refine hK.out _ _ ((heap_cell HV4.out 0)) (fun hHeld => ?_)
                  clear hK K
                  try simp only [Act.put, List.setIfInBounds_toArray, List.set_cons_zero, List.set_cons_succ]
                  refine wpAnyH_ready (rs := [6]) (by kernel_rfl) (by simp) ?_
                  refine' AllReadyH.cons (o := _) ?ho79 (fun K hK => ?hstep79) AllReadyH.nil
                  case ho79 => simp only [List.getElem?_toArray]; rfl
                  refine step_append_rd v4 rfl (.tmp 6) (.tmp 11) 36 rfl w.heap.size 9 i0 (.string ByteArray.empty) 1 16 Try.underlying36 hi0 hz0 hz1 hz2 rfl (by decide) v out.length (out.map .string) rfl (by exact HO4.out) (some ⟨q3, 0, none⟩) 1 1 [.string x] rfl rfl HRA.out (by intro u hu; simp at hu; subst hu; rfl) (by simp only [maxLen]; omega) (by omega) HK4.out.size ?_
                  intro v5 w5 happ
                  obtain ⟨A5, c5, rfl⟩ := own_len happ.own
                  have hk5 := ap_kp happ
                  have ho5 : Own w w5 (.slice A5 (out.length + 1) c5) (out ++ [x]) := by
                    have := happ.own
                    unfold Own
                    rw [List.map_append, List.length_append]
                    exact this
                  have hvb : ∀ k, v.ownBlock = some k → w.heap.size ≤ k := own_blk HO4.out
                  have hn : ∀ k, k < w.heap.size → k ∉ v.ownBlock.toList := fun k hk hm => by have := hvb k (by simpa using hm); omega
                  have hvrl := (Array.getElem?_eq_some_iff.1 HVR.out).1
                  have HW5 := Lib.hid (hk5.heap HW4.out (hn vw HNE.out.2.2.2.2))
                  have HV5 := Lib.hid (hk5.heap HV4.out (hn vr hvrl))
                  have HR5 := Lib.hid (HR4.out.kp hk5 (hn r HNE.out.2.2.2.1))
                  have HK5 := Lib.hid (HK4.out.trans hk5 (fun k hk => .inr (hvb k (by simpa using hk))))
                  have HO5 := Lib.hid ho5
                  clear happ hk5 ho5
                  refine hK.out _ _ ((heap_cell HV5.out 0)) (fun hHeld => ?_)
                  clear hK K
                  try simp only [Act.put, List.setIfInBounds_toArray, List.set_cons_zero, List.set_cons_succ]
                  have b0 := heap_cell HW5.out 0
                  have g0 := heap_frozen HW5.out 0
                  refine wpAnyH_ready (rs := [7]) (by kernel_rfl) (by simp) ?_
                  refine' AllReadyH.cons (o := _) ?ho81 (fun K hK => ?hstep81) AllReadyH.nil
                  case ho81 => simp only [List.getElem?_toArray]; rfl
                  go_simp
                  have HW6 := Lib.hid (heap_setCell_same w5 vw 0 _ 36 (.slice A5 (out.length + 1) c5) HW5.out)
                  have hk6 : Kp [vw] w5 (w5.setCell ⟨vw, 0, none⟩ (.slice A5 (out.length + 1) c5)) := Kp.store vw 0 _ (by simp)
                  have HK6 := Lib.hid (HK5.out.and (hk6.mono (L' := [r, vw]) (by simp)))
                  have HR6 := Lib.hid (HR5.out.kp hk6 (by simpa using HNE.out.2.2.1))
                  have HV6 := Lib.hid (hk6.heap HV5.out (by simpa using HNE.out.2.1))
                  have HO6 := Lib.hid (own_kp HO5.out hk6 (fun k hk => by have := own_blk HO5.out k hk; have := HNE.out.2.2.2.2; simp; omega))
                  clear hk6 b0 g0
                  generalize w5.setCell ⟨vw, 0, none⟩ (.slice A5 (out.length + 1) c5) = w6 at HW6 HK6 HR6 HV6 HO6 ⊢
                  refine hK.out _ _ ((heap_cell HV6.out 0)) (fun hHeld => ?_)
                  clear hK K
                  try simp only [Act.put, List.setIfInBounds_toArray, List.set_cons_zero, List.set_cons_succ]
                  refine wpAnyH_done (by kernel_rfl) ?_ _
                  go_wp2_with fail
                  go_roundw
                  case rel => exact ⟨k + 1, out ++ [x], l3, _, by omega, by go_num, HK6.out, HR6.out, HW6.out, HO6.out, by rw [List.length_append]; simp; omega, by rw [show N - (k + 1) = j by omega]; exact HF3.out⟩
                  case measure => simp [intOf]; omega
      · have hkI : ¬ (k : Int) < (N : Int) := by omega
        obtain rfl : k = N := by omega
        have hf : F = .ok out lr := by rw [← HWS.out, Nat.sub_self]; rfl
        subst hf
        go_wp2_with fail
        go_end0
        exact ⟨HK.out, rfl, HR.out, v, HW.out, HO.out⟩
end Go.Proofs.Ytdbboooblbdihaa
