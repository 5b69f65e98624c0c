/- Package index: Copy walked. -/
import Derived.Test.YtebcjpapmjebgaaIdxG
namespace Go.Proofs.Ytebcjpapmjebgaa
open Go.RowKit Sets
set_option linter.unusedVariables false
set_option linter.unusedSectionVars false
set_option linter.unusedSimpArgs false

theorem srt_pair {a : List Lab} (h : SrtA a.length a) : a.Pairwise fun x y => ltB x.1 y.1 = true := by
  rw [List.pairwise_iff_getElem]
  intro i j hi hj hij
  have := h i j hij hj
  unfold nmA at this
  rw [List.getD_eq_getElem?_getD, List.getD_eq_getElem?_getD, List.getElem?_eq_getElem hi, List.getElem?_eq_getElem hj] at this
  exact this
theorem srt_unique {a b : List Lab} (hp : a.Perm b) (ha : SrtA a.length a) (hb : SrtA b.length b) : a = b :=
  List.Perm.eq_of_pairwise (fun x y _ _ h1 h2 => absurd (lt_trans h1 h2) (by rw [lt_irrefl]; simp)) (srt_pair ha) (srt_pair hb) hp
theorem key_ok {s : ByteArray} (h : keyI s = true) : okS s := by
  unfold keyI at h
  simp at h
  unfold okS
  omega
theorem right_ok {l : List Lab} (h : rightI l = true) : (∀ y ∈ l, okL y) ∧ l.length ≤ 8 := by
  unfold rightI goodI at h
  simp only [Bool.and_eq_true, decide_eq_true_eq, List.all_eq_true] at h
  exact ⟨fun y hy => ⟨key_ok (h.1.1 y hy).1, key_ok (h.1.1 y hy).2⟩, h.2⟩
section
variable {K : List ByteArray} {G : ByteArray → Option (List Lab)} {F : Lab → Option (List ByteArray)} {N : ByteArray → Option (List ByteArray)}
theorem GoodI.shortF (h : GoodI K G F N) (hK : K.length ≤ 1000000) : Go.Proofs.Ytebcjpapmjebgaa.shortF F := fun y =>
  Nat.le_trans ((sd_nodup (h.sdF y)).length_le_of_subset (fun k hk => by
    obtain ⟨ls, h1, _⟩ := (h.memF y k).1 hk
    exact (h.keys k).2 (by rw [h1]; rfl))) hK
theorem GoodI.shortN (h : GoodI K G F N) (hK : K.length ≤ 1000000) : Go.Proofs.Ytebcjpapmjebgaa.shortF N := fun y =>
  Nat.le_trans ((sd_nodup (h.sdN y)).length_le_of_subset (fun k hk => by
    obtain ⟨ls, h1, _⟩ := (h.memN y k).1 hk
    exact (h.keys k).2 (by rw [h1]; rfl))) hK
theorem GoodI.gok (h : GoodI K G F N) (key : ByteArray) : ∀ ls, G key = some ls → ls.length ≤ 100000 ∧ ∀ y ∈ ls, okL y := fun ls hg => by
  have := right_ok (h.labs key ls hg).2.1
  exact ⟨by omega, this.1⟩
end
theorem Cm.of_iter {κ : Type} {enc : κ → Value} {ok : κ → Prop} {w w' : World} {r b : Nat} {l rest : List (κ × Value)} (h : Kp [r] w w') (hr : RangeAt enc ok w r b l rest) : Cm w w' :=
  ⟨h.os, h.tape, h.output, h.size, fun k c e f hk => h.heap hk (by
    simp
    rintro rfl
    obtain ⟨es, clock, seen, h1, h2, h3, h4, h5, h6, h7, h8⟩ := hr
    rw [hk] at h7
    cases h7)⟩
theorem IdxM.kp {B x b1 b2 b3 : Nat} {w w' : World} {G : ByteArray → Option (List Lab)} {F : Lab → Option (List ByteArray)} {N : ByteArray → Option (List ByteArray)} {L : List Nat} (h : IdxM B w x G F N b1 b2 b3) (hk : Kp L w w') (hc : Cm w w') (h1 : b1 ∉ L) (h2 : b2 ∉ L) (h3 : b3 ∉ L) : IdxM B w' x G F N b1 b2 b3 :=
  ⟨hc.cells _ _ _ _ h.blk, h.g.kp row_cm hk hc h1, h.f.kp txt_cm hk hc h2, h.n.kp txt_cm hk hc h3, h.d12, h.d13, h.d23, h.hx, h.h1, h.h2, h.h3⟩
theorem IdxM.lts {B x b1 b2 b3 : Nat} {w : World} {G : ByteArray → Option (List Lab)} {F : Lab → Option (List ByteArray)} {N : ByteArray → Option (List ByteArray)} (h : IdxM B w x G F N b1 b2 b3) : b1 < w.heap.size ∧ b2 < w.heap.size ∧ b3 < w.heap.size := ⟨h.g.lt, h.f.lt, h.n.lt⟩
set_option maxHeartbeats 4000000 in
theorem copy_any {B x b1 b2 b3 : Nat} {w : World} {K : List ByteArray} {G : ByteArray → Option (List Lab)} {F : Lab → Option (List ByteArray)} {N : ByteArray → Option (List ByteArray)} (h : IdxM B w x G F N b1 b2 b3) (hgd : GoodI K G F N) (hK : K.length ≤ 100000) :
    Calls Try.prog 16 #[.pointer (some ⟨x, 0, none⟩)] w fun e w' => ∃ c d1 d2 d3 F' N', e = .returned (.pointer (some ⟨c, 0, none⟩)) ∧ IdxM w.heap.size w' c G F' N' d1 d2 d3 ∧ GoodI K G F' N' ∧ Ext w w' := by
  have H := Lib.hid h
  have HGD := Lib.hid hgd
  go_enter Try.func16, Try.ntmps16
  go_wp2_with fail
  refine (new_any w).mono ?_
  rintro e v1 ⟨c, d1, d2, d3, rfl, hm, hx⟩
  have HM1 := Lib.hid hm
  have HX1 := Lib.hid hx
  have hD := hm.lts
  have h1 := h.ext hx
  have c0 := heap_cell h1.blk 0
  obtain ⟨l, hmp, hl1, hl2⟩ := h1.g
  obtain ⟨w2, hrun, hrg, hx2⟩ := hmp.range (P := Try.prog) Try.underlying60
  have hmem : ∀ k, k ∈ l.map (·.1) ↔ k ∈ K := by
    intro k
    rw [hgd.keys, List.mem_map]
    constructor
    · rintro ⟨p, hp, rfl⟩
      obtain ⟨a, ha, _⟩ := hl1 p hp
      rw [ha]; rfl
    · intro hs
      obtain ⟨a, ha⟩ := Option.isSome_iff_exists.1 hs
      obtain ⟨v, hv⟩ := hl2 k a ha
      exact ⟨_, hv, rfl⟩
  have HL1 := Lib.hid hl1
  have HMEM := Lib.hid hmem
  have HND := Lib.hid hmp.nodup
  have HB1 : Hid (b1 < w.heap.size) := Lib.hid h.g.lt
  have HR2 := Lib.hid hrg
  have HX2 := Lib.hid hx2
  have HM2 := Lib.hid (hm.ext hx2)
  have HDR := Lib.hid hD
  have hdl0 : w.heap.size ≤ d1 ∧ w.heap.size ≤ d2 ∧ w.heap.size ≤ d3 := ⟨hm.h1, hm.h2, hm.h3⟩
  have HS1 := Lib.hid hx.size
  clear hm hx h1 hl1 hl2 hmp hrg hx2 hmem h hgd hD
  go_wp2_with fail
  obtain ⟨r, hrr⟩ : ∃ r, r = v1.heap.size := ⟨_, rfl⟩
  rw [← hrr] at HR2 HDR HS1 ⊢
  clear hrr
  have HW := Lib.hid hdl0
  clear hdl0
  go_loopg [] l.length (fun gk wr => ∃ (dn rest : List (ByteArray × Value)) (K' : List ByteArray) (G' : ByteArray → Option (List Lab)) (F' : Lab → Option (List ByteArray)) (N' : ByteArray → Option (List ByteArray)), rest.length = gk ∧ (dn ++ rest).Perm l ∧ RangeAt Value.string okS wr r b1 l rest ∧ IdxM w.heap.size wr c G' F' N' d1 d2 d3 ∧ GoodI K' G' F' N' ∧ ((∀ k, k ∈ dn.map (·.1) → G' k = G k) ∧ ∀ k, k ∉ dn.map (·.1) → G' k = none) ∧ Cm v1 wr ∧ Ext w wr)
  case atStart => exact ⟨[], l, [], _, _, _, rfl, by simp, HR2.out, HM2.out, GoodI.nil, by simp, Cm.of_ext HX2.out, HX1.out.trans HX2.out⟩
  case round =>
    obtain ⟨dn, rest, K', G', F', N', hrl, hperm, hrange, him, hgi, hgg, hcm, hext⟩ := hrel
    have HP := Lib.hid hperm
    have HE := Lib.hid hext
    have HC := Lib.hid hcm
    have HI := Lib.hid him
    have HGI := Lib.hid hgi
    have HGG := Lib.hid hgg
    have HRL := Lib.hid hrl
    have hkl : K'.length ≤ 1000000 := by
      have h1 : K'.length ≤ K.length := (sd_nodup hgi.sd).length_le_of_subset (fun k hk => by
        have h2 := (hgi.keys k).1 hk
        by_cases h3 : k ∈ dn.map (·.1)
        · rw [hgg.1 k h3] at h2
          exact (HGD.out.keys k).2 h2
        · rw [hgg.2 k h3] at h2; cases h2)
      omega
    rcases hrange.next (P := Try.prog) with ⟨rfl, hn⟩ | ⟨y, rest', wn, hpx, hn, hen, hrn, hkn⟩
    · have hGG : G' = G := by
        funext k
        rw [List.append_nil] at hperm
        have h2 := (hperm.map (·.1)).mem_iff (a := k)
        by_cases h3 : k ∈ dn.map (·.1)
        · rw [hgg.1 k h3]
        · rw [hgg.2 k h3]
          have h4 : k ∉ K := fun h5 => h3 (h2.2 ((HMEM.out k).2 h5))
          cases hg : G k with
          | none => rfl
          | some a => exact absurd ((HGD.out.keys k).2 (by rw [hg]; rfl)) h4
      subst hGG
      have hKK : K' = K := Sd.ext hgi.sd HGD.out.sd (fun k => by rw [hgi.keys, HGD.out.keys])
      subst hKK
      clear hperm hrange hext hcm him hgi hgg HP HRL HGG
      go_wp2_with fail
      go_ret
      exact ⟨c, rfl, d1, d2, d3, F', N', HI.out, HGI.out, HE.out⟩
    · have hyl : y ∈ l := hperm.mem_iff.1 (List.mem_append_right _ (hpx.mem_iff.2 (by simp)))
      obtain ⟨a, ha, hrow⟩ := HL1.out y hyl
      obtain ⟨y1, y2⟩ := y
      dsimp only at ha hrow
      have hlab := HGD.out.labs y1 a ha
      have hrg := right_ok hlab.2.1
      have hcn := Cm.of_iter hkn hrange
      have hrown : Row labC wn y2 a := ((HC.out.trans hcn)).row (by exact hrow)
      have himn : IdxM w.heap.size wn c G' F' N' d1 d2 d3 := him.kp hkn hcn (by have := HDR.out; simp; omega) (by have := HDR.out; simp; omega) (by have := HDR.out; simp; omega)
      have hextn : Ext w wn := hkn.to_ext hext (by have := HDR.out; have := HW.out; simp; omega)
      have HIN := Lib.hid himn
      have HRN := Lib.hid hrown
      have HXN := Lib.hid hextn
      have HCN := Lib.hid (HC.out.trans hcn)
      have HRG := Lib.hid hrn
      have HLAB := Lib.hid hlab
      have HOK := Lib.hid hrg
      have HPX := Lib.hid hpx
      have HA := Lib.hid ha
      have HSF := Lib.hid (hgi.shortF hkl)
      have HSN := Lib.hid (hgi.shortN hkl)
      have hlen' : rest'.length < gk := by have := hpx.length_eq; simp at this; omega
      clear hyl ha hrow hlab hrg hcn hrown himn hextn hrn hpx hkn hext hrange hcm him hgi hgg
      go_wp2_with fail
      refine (set_any HIN.out y1 y2 a (key_ok HLAB.out.1) HRN.out (by have := HOK.out.2; omega) HOK.out.1 HSF.out HSN.out (HGI.out.gok y1)).mono ?_
      rintro e w8 (⟨hbad, _⟩ | ⟨hgood, rfl, a', hpa, hsa, hid⟩)
      · exact absurd hbad (by rw [HLAB.out.1, HLAB.out.2.1]; decide)
      · obtain rfl : a' = a := srt_unique hpa hsa HLAB.out.2.2
        have HID := Lib.hid hid
        have HGS := Lib.hid (HGI.out.set y1 a' a' hgood hpa hsa)
        have HR8 : Hid (RangeAt Value.string okS w8 r b1 l rest') := Lib.hid (HRG.out.kp hid.kp (by have := HW.out; have := HB1.out; simp; omega) (by have := HDR.out; simp; omega))
        have HX8 : Hid (Ext w w8) := Lib.hid (hid.kp.to_ext HXN.out (by have := HW.out; simp; omega))
        clear hid hsa hpa hgood
        go_wp2_with fail
        go_roundg rest'.length
        case rel => exact ⟨dn ++ [(y1, y2)], rest', _, _, _, _, rfl, by
          have h1 := HP.out
          have h2 := HPX.out
          rw [List.append_assoc]
          exact (List.Perm.append_left dn h2.symm).trans h1, HR8.out, HID.out.at_, HGS.out, by
            refine ⟨fun k hk => ?_, fun k hk => ?_⟩
            · unfold updF
              by_cases hky : k = y1
              · rw [if_pos hky, hky, HA.out]
              · rw [if_neg hky, if_neg hky]
                rw [List.map_append, List.mem_append] at hk
                rcases hk with hk | hk
                · exact HGG.out.1 k hk
                · simp at hk; exact absurd hk hky
            · rw [List.map_append, List.mem_append] at hk
              have hky : k ≠ y1 := fun e => hk (.inr (by simp [e]))
              unfold updF
              rw [if_neg hky, if_neg hky]
              exact HGG.out.2 k (fun e => hk (.inl e)), HCN.out.trans HID.out.cm, HX8.out⟩
        case measure => exact hlen'
end Go.Proofs.Ytebcjpapmjebgaa
