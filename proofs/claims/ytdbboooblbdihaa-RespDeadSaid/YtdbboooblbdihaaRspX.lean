/- What must come of fixed calls, walked. -/
import Derived.Test.YtdbboooblbdihaaRspV
namespace Go.Proofs.Ytdbboooblbdihaa
open Go.RowKit
set_option linter.unusedVariables false
set_option linter.unusedSectionVars false
set_option linter.unusedSimpArgs false
set_option maxRecDepth 100000


theorem f1 : feedL ⟨#[]⟩ false (kF ++ kT1) = ([⟨[sGET, sa], 0⟩], kT1, false) := by
  unfold feedL
  rw [if_neg (by simp), show (⟨#[]⟩ : ByteArray) ++ (kF ++ kT1) = kF ++ kT1 from bytes_ext (by rw [toList_append2, show (⟨#[]⟩ : ByteArray).toList = [] from toList_mk []]; rfl), k1, bsv_of]
theorem f2 : feedL kT1 false kT2 = ([⟨[sbc], 0⟩, ⟨[], 13⟩], ⟨#[]⟩, true) := by
  unfold feedL
  rw [if_neg (by simp), k2]
  rfl
theorem f3 (b : ByteArray) : feedL ⟨#[]⟩ true b = ([], ⟨#[]⟩, true) := if_pos rfl
theorem CmdsAt.prs {w0 w w' : World} {u : Value} {cs : List Cmd} {p : Nat} {l : ByteArray} {d : Bool} (h : CmdsAt w0 w u cs) (hp : PrsAt w p l d) (hk : Kp [p] w w') : CmdsAt w0 w' u cs := by
  refine h.kp hk ?_ ?_
  · intro k hk c f hcc
    simp at hk
    subst hk
    exact blocks_ne hcc hp (by decide) rfl
  · intro k hb hm
    obtain ⟨xs, hown, _⟩ := h
    obtain ⟨c1, f1, h1⟩ := own_at hown k hb
    simp at hm
    subst hm
    exact blocks_ne h1 hp (by decide) rfl
theorem cmdsAt_slice {w0 w : World} {u : Value} {cs : List Cmd} (h : CmdsAt w0 w u cs) : ∃ A c, u = .slice A cs.length c := by
  obtain ⟨xs, h1, h2⟩ := h
  obtain ⟨A, c, e⟩ := own_len h1
  exact ⟨A, c, by rw [e, h2.1]⟩
def KnownV (w : World) (p : Nat) (va vb vc vl vm : Value) : Prop := PrsAt w p ⟨#[]⟩ true ∧ CmdsR w va [⟨[sGET, sa], 0⟩] ∧ CmdsR w vb [⟨[sbc], 0⟩, ⟨[], 13⟩] ∧ Row itC w vl kI ∧ Row itC w vm kI
theorem cmds_lit (w : World) (tt : TypeId) {A : Option Addr} {n c : Nat} {ws : List ByteArray} (h : Txt w (.slice A n c) ws) : CmdsR (w.alloc (.cells #[.slice A n c, .int .i64 0] tt)) (.slice (some ⟨w.heap.size, 0, none⟩) 1 1) [⟨ws, 0⟩] := by
  refine ⟨[⟨.slice A n c, 0⟩], ⟨_, _, _, rfl, rfl, by omega, by simp [maxLen], by exact Rd.new w #[_, _] tt⟩, rfl, ?_⟩
  intro i x d h1 h2
  cases i with
  | zero =>
    simp at h1 h2
    subst h1 h2
    exact ⟨h.ext (Ext.alloc _ _), rfl⟩
  | succ j => simp at h1
theorem cmds_lit2 (w : World) (tt : TypeId) {A : Option Addr} {n c : Nat} {ws : List ByteArray} (h : Txt w (.slice A n c) ws) : CmdsR (w.alloc (.cells #[.slice A n c, .int .i64 0, .slice none 0 0, .int .i64 13] tt)) (.slice (some ⟨w.heap.size, 0, none⟩) 2 2) [⟨ws, 0⟩, ⟨[], 13⟩] := by
  refine ⟨[⟨.slice A n c, 0⟩, ⟨.slice none 0 0, 13⟩], ⟨_, _, _, rfl, rfl, by omega, by simp [maxLen], by exact Rd.new w #[_, _, _, _] tt⟩, rfl, ?_⟩
  intro i x d h1 h2
  match i with
  | 0 =>
    simp at h1 h2
    subst h1 h2
    exact ⟨h.ext (Ext.alloc _ _), rfl⟩
  | 1 =>
    simp at h1 h2
    subst h1 h2
    exact ⟨⟨none, 0, 0, rfl, rfl, by omega, by omega, Rd.nil _ _⟩, rfl⟩
  | j + 2 => simp at h1
set_option maxHeartbeats 8000000 in
theorem known_any (w : World) : Calls Try.prog 11 #[] w fun e w' => e = .returned (.bool true) ∧ Ext w w' := by
  obtain ⟨i7, hi7, _, hz7, _⟩ := info_parts Try.itemInfo
  have hx0 := Ext.alloc w (.cells #[.string ⟨#[]⟩, .bool false] 26)
  have hb0 : PrsAt (w.alloc (.cells #[.string ⟨#[]⟩, .bool false] 26)) w.heap.size ⟨#[]⟩ false := heap_alloc_new w (.cells #[.string ⟨#[]⟩, .bool false] 26 (0, 0))
  go_enter Try.func11, Try.ntmps11
  go_upto_region 2 with fail
  generalize w.alloc (.cells #[.string ⟨#[]⟩, .bool false] 26) = w1 at hx0 hb0 ⊢
  obtain ⟨p, hp⟩ : ∃ p, p = w.heap.size := ⟨_, rfl⟩
  rw [← hp] at hb0 ⊢
  have HP := Lib.hid (show w.heap.size ≤ p by omega)
  have HX := Lib.hid hx0
  have HB := Lib.hid hb0
  clear hx0 hb0 hp
  go_wp2_with fail
  have hx1 := Ext.alloc w1 (.cells #[.string ⟨#[71, 69, 84]⟩, .string ⟨#[97]⟩] 9)
  have ht1 : Txt (w1.alloc (.cells #[.string ⟨#[71, 69, 84]⟩, .string ⟨#[97]⟩] 9)) (.slice (some ⟨w1.heap.size, 0, none⟩) 2 2) [sGET, sa] := ⟨_, _, _, rfl, rfl, by omega, by omega, by exact Rd.new w1 #[_, _] 9⟩
  refine (frame_any _ _ _ ht1).mono ?_
  rintro e w2 ⟨rfl, hx2⟩
  rw [kF_eq]
  replace HX := Lib.hid (HX.out.trans (hx1.trans hx2))
  replace HB : Hid (PrsAt w2 p _ _) := Lib.hid ((Kp.of_ext (L := []) (hx1.trans hx2)).heap HB.out (by simp))
  clear hx1 ht1 hx2
  go_wp2_with fail
  refine (feed_any p _ _ (kF ++ kT1) w2 HB.out (by decide)).mono ?_
  rw [f1]
  rintro e w3 ⟨va, rfl, hca, hb3, hk3⟩
  replace HX := Lib.hid (hk3.to_ext HX.out (by simpa using HP.out))
  obtain ⟨A1, c1, rfl⟩ := cmdsAt_slice hca
  have HCA := Lib.hid hca
  replace HB := Lib.hid hb3
  clear hca hb3 hk3
  go_wp2_with fail
  refine (left_any p _ _ w3 HB.out).mono ?_
  rintro e _ ⟨rfl, rfl⟩
  rw [show ((kT1.size : Nat) : Int) = 9 from rfl]
  go_wp2_with fail
  refine (feed_any p _ _ kT2 w3 HB.out (by decide)).mono ?_
  rw [f2]
  rintro e w4 ⟨vb, rfl, hcb, hb4, hk4⟩
  replace HX := Lib.hid (hk4.to_ext HX.out (by simpa using HP.out))
  obtain ⟨A2, c2, rfl⟩ := cmdsAt_slice hcb
  replace HCA := Lib.hid (HCA.out.prs HB.out hk4)
  have HCB := Lib.hid hcb
  replace HB := Lib.hid hb4
  clear hcb hb4 hk4
  go_wp2_with fail
  refine (feed_any p _ _ kF w4 HB.out (by decide)).mono ?_
  rw [f3]
  rintro e w5 ⟨vc, rfl, hcc, hb5, hk5⟩
  replace HX := Lib.hid (hk5.to_ext HX.out (by simpa using HP.out))
  obtain ⟨A3, c3, rfl⟩ := cmdsAt_slice hcc
  replace HCA := Lib.hid (HCA.out.prs HB.out hk5)
  replace HCB := Lib.hid (HCB.out.prs HB.out hk5)
  replace HB := Lib.hid hb5
  clear hcc hb5 hk5
  go_upto_region 8 with fail
  have hxl := Ext.alloc w5 (.cells #[.int .i64 6, .int .i64 3, .string ⟨#[]⟩, .int .i64 3, .int .i64 (-5), .string ⟨#[]⟩, .int .i64 5, .int .i64 0, .string ⟨#[]⟩, .int .i64 4, .int .i64 0, .string ⟨#[120, 13]⟩] 47)
  have hrl : Row itC (w5.alloc (.cells #[.int .i64 6, .int .i64 3, .string ⟨#[]⟩, .int .i64 3, .int .i64 (-5), .string ⟨#[]⟩, .int .i64 5, .int .i64 0, .string ⟨#[]⟩, .int .i64 4, .int .i64 0, .string ⟨#[120, 13]⟩] 47)) (.slice (some ⟨w5.heap.size, 0, none⟩) 4 4) kI := ⟨_, _, _, rfl, rfl, by omega, by simp [maxLen], by exact Rd.new w5 #[_, _, _, _, _, _, _, _, _, _, _, _] 47⟩
  generalize w5.alloc (.cells #[.int .i64 6, .int .i64 3, .string ⟨#[]⟩, .int .i64 3, .int .i64 (-5), .string ⟨#[]⟩, .int .i64 5, .int .i64 0, .string ⟨#[]⟩, .int .i64 4, .int .i64 0, .string ⟨#[120, 13]⟩] 47) = w6 at hxl hrl ⊢
  generalize w5.heap.size = ql at hrl ⊢
  replace HX := Lib.hid (HX.out.trans hxl)
  replace HCA := Lib.hid (HCA.out.ext hxl)
  replace HCB := Lib.hid (HCB.out.ext hxl)
  replace HB : Hid (PrsAt w6 p _ _) := Lib.hid ((Kp.of_ext (L := []) hxl).heap HB.out (by simp))
  have HL := Lib.hid hrl
  clear hxl hrl
  go_wp2_with fail
  refine (encode_any _ kI w6 HL.out kI_ok (by decide)).mono ?_
  rw [kS_eq]
  rintro e w7 ⟨rfl, hx7⟩
  replace HX := Lib.hid (HX.out.trans hx7)
  replace HCA := Lib.hid (HCA.out.ext hx7)
  replace HCB := Lib.hid (HCB.out.ext hx7)
  replace HL := Lib.hid (HL.out.ext hx7)
  replace HB : Hid (PrsAt w7 p _ _) := Lib.hid ((Kp.of_ext (L := []) hx7).heap HB.out (by simp))
  clear hx7
  have z1 : decide ((kS.size : Int) < 9) = false := by decide
  have z2 : decide (kS.size < 9) = false := by decide
  have z3 : ¬ 9223372036854775807 < kS.size + 1 := by decide
  have z4 : (0 : Int) ≤ 9 ∧ (9 : Int) ≤ (kS.size : Int) := by decide
  have z5 : 9 ≤ kS.size := by decide
  go_wp2_with fail
  obtain ⟨S1, hS1⟩ : ∃ S1, kS ++ ⟨#[43]⟩ = S1 := ⟨_, rfl⟩
  have hS1z : S1.size ≤ 1000000000 := by rw [← hS1]; decide
  have hS1d : decR S1.toList = (kI, 22, 0) := by rw [← hS1]; exact k3
  rw [hS1]
  clear hS1
  refine (decode_any S1 w7 hS1z).mono ?_
  rw [hS1d]
  rintro e w8 ⟨vm, rfl, hrm, hx8⟩
  replace HX := Lib.hid (HX.out.trans hx8)
  replace HCA := Lib.hid (HCA.out.ext hx8)
  replace HCB := Lib.hid (HCB.out.ext hx8)
  replace HL := Lib.hid (HL.out.ext hx8)
  replace HB : Hid (PrsAt w8 p _ _) := Lib.hid ((Kp.of_ext (L := []) hx8).heap HB.out (by simp))
  have HM := Lib.hid hrm
  clear hrm hx8
  go_wp2_with fail
  obtain ⟨S2, hS2⟩ : ∃ S2, kS.extract 0 9 = S2 := ⟨_, rfl⟩
  have hS2z : S2.size ≤ 1000000000 := by rw [← hS2]; decide
  have hS2d : decR S2.toList = ([], 0, 3) := by rw [← hS2]; exact k4
  rw [hS2]
  clear hS2
  refine (decode_any S2 w8 hS2z).mono ?_
  rw [hS2d]
  rintro e w9 ⟨v9, rfl, _, hx9⟩
  replace HX := Lib.hid (HX.out.trans hx9)
  replace HCA := Lib.hid (HCA.out.ext hx9)
  replace HCB := Lib.hid (HCB.out.ext hx9)
  replace HL := Lib.hid (HL.out.ext hx9)
  replace HM := Lib.hid (HM.out.ext hx9)
  replace HB : Hid (PrsAt w9 p _ _) := Lib.hid ((Kp.of_ext (L := []) hx9).heap HB.out (by simp))
  clear hx9
  go_wp2_with fail
  obtain ⟨S3, hS3⟩ : ∃ S3, (⟨#[43, 97, 7]⟩ : ByteArray) = S3 := ⟨_, rfl⟩
  have hS3z : S3.size ≤ 1000000000 := by rw [← hS3]; decide
  have hS3d : decR S3.toList = ([], 0, 4) := by rw [← hS3]; exact k5
  rw [hS3]
  clear hS3
  refine (decode_any S3 w9 hS3z).mono ?_
  rw [hS3d]
  rintro e w10 ⟨v10, rfl, _, hx10⟩
  replace HX := Lib.hid (HX.out.trans hx10)
  replace HCA := Lib.hid (HCA.out.ext hx10)
  replace HCB := Lib.hid (HCB.out.ext hx10)
  replace HL := Lib.hid (HL.out.ext hx10)
  replace HM := Lib.hid (HM.out.ext hx10)
  replace HB : Hid (PrsAt w10 p _ _) := Lib.hid ((Kp.of_ext (L := []) hx10).heap HB.out (by simp))
  clear hx10
  obtain ⟨Am, nm, cm, rfl, hnm, _⟩ := id HM.out
  have HKN : Hid (∀ v, Ext w10 v → PrsAt v p ⟨#[]⟩ true ∧ CmdsR v (.slice A1 1 c1) [⟨[sGET, sa], 0⟩] ∧ CmdsR v (.slice A2 2 c2) [⟨[sbc], 0⟩, ⟨[], 13⟩] ∧ Row itC v (.slice Am nm cm) kI ∧ Row itC v (.slice (some ⟨ql, 0, none⟩) 4 4) kI) := Lib.hid (fun v hv => ⟨(Kp.of_ext (L := []) hv).heap HB.out (by simp), (HCA.out.ext hv).r, (HCB.out.ext hv).r, HM.out.ext hv, HL.out.ext hv⟩)
  obtain ⟨A7, hr7, hcut⟩ := cut_upto (P := Try.prog) (w := w10) 45 47 i7 3 Try.underlying45 hi7 hz7 (A := some ⟨ql, 0, none⟩) (n := 4) (c := 4) (by obtain ⟨_, _, _, e, _, _, _, h⟩ := HL.out; injection e with e1 e2 e3; subst e1; exact h : Rd w10 (some ⟨ql, 0, none⟩) (kI.flatMap itC)) (by omega) 3 3 rfl (by omega)
  have HR7 : Hid (Row itC w10 (.slice A7 3 4) (kI.take 3)) := Lib.hid ⟨A7, 3, 4, rfl, rfl, by omega, by simp [maxLen], by rw [← flat_take itC_len kI 3 (by decide)]; exact hr7⟩
  clear hr7
  have HCUT := Lib.hid hcut
  clear hcut z1 z2 z3 z4 z5
  unfold kF kS
  go_wp2_with fail
  refine (lplain_any _ _ w10 (HKN.out _ (Ext.refl _)).2.1 (by decide)).mono ?_
  rintro e w11 ⟨u11, rfl, hu11, hx11⟩
  have HX11 := Lib.hid hx11
  have HU11 := Lib.hid hu11
  clear hx11 hu11
  go_wp2_with fail
  have ht12 : Txt (w11.alloc (.cells #[.string ⟨#[71, 69, 84]⟩, .string ⟨#[97]⟩] 9)) (.slice (some ⟨w11.heap.size, 0, none⟩) 2 2) [sGET, sa] := ⟨_, _, _, rfl, rfl, by omega, by omega, by exact Rd.new w11 #[_, _] 9⟩
  have hx12 := Ext.alloc w11 (.cells #[.string ⟨#[71, 69, 84]⟩, .string ⟨#[97]⟩] 9)
  have hc13 := cmds_lit _ 61 ht12
  have hx13 := hx12.trans (Ext.alloc _ (.cells #[.slice (some ⟨w11.heap.size, 0, none⟩) 2 2, .int .i64 0] 61))
  have hz12 : (w11.alloc (.cells #[.string ⟨#[71, 69, 84]⟩, .string ⟨#[97]⟩] 9)).heap.size = w11.heap.size + 1 := by simp
  rw [hz12] at hc13
  refine (rsame_any _ _ _ _ _ (HU11.out.ext hx13) hc13).mono ?_
  rw [decide_eq_true rfl]
  rintro e w14 ⟨rfl, hx14⟩
  have HX14 := Lib.hid (HX11.out.trans (hx13.trans hx14))
  clear ht12 hx12 hc13 hx13 hx14 hz12 HX11 HU11
  go_wp2_with fail
  refine (lplain_any _ _ w14 (HKN.out _ HX14.out).2.2.1 (by decide)).mono ?_
  rintro e w15 ⟨u15, rfl, hu15, hx15⟩
  have HX15 := Lib.hid (HX14.out.trans hx15)
  have HU15 := Lib.hid hu15
  clear hx15 hu15 HX14
  go_wp2_with fail
  have ht16 : Txt (w15.alloc (.cells #[.string ⟨#[98, 99]⟩] 9)) (.slice (some ⟨w15.heap.size, 0, none⟩) 1 1) [sbc] := ⟨_, _, _, rfl, rfl, by omega, by omega, by exact Rd.new w15 #[_] 9⟩
  have hx16 := Ext.alloc w15 (.cells #[.string ⟨#[98, 99]⟩] 9)
  have hc17 := cmds_lit2 _ 61 ht16
  have hx17 := hx16.trans (Ext.alloc _ (.cells #[.slice (some ⟨w15.heap.size, 0, none⟩) 1 1, .int .i64 0, .slice none 0 0, .int .i64 13] 61))
  have hz16 : (w15.alloc (.cells #[.string ⟨#[98, 99]⟩] 9)).heap.size = w15.heap.size + 1 := by simp
  rw [hz16] at hc17
  refine (rsame_any _ _ _ _ _ (HU15.out.ext hx17) hc17).mono ?_
  rw [decide_eq_true rfl]
  rintro e w18 ⟨rfl, hx18⟩
  have HX18 := Lib.hid (HX15.out.trans (hx17.trans hx18))
  clear ht16 hx16 hc17 hx17 hx18 hz16 HX15 HU15
  go_wp2_with fail
  refine (dead_any p _ _ w18 (HKN.out _ HX18.out).1).mono ?_
  rintro e w19 ⟨rfl, q, rfl⟩
  have hx19 := Ext.drewN q w18
  generalize w18.drewN q = w19 at hx19 ⊢
  have HX19 := Lib.hid (HX18.out.trans hx19)
  clear hx19 HX18
  go_wp2_with fail
  refine (left_any p _ _ w19 (HKN.out _ HX19.out).1).mono ?_
  rintro e _ ⟨rfl, rfl⟩
  rw [show (((⟨#[]⟩ : ByteArray).size : Nat) : Int) = 0 from rfl]
  go_wp2_with fail
  refine (litems_any _ kI w19 (HKN.out _ HX19.out).2.2.2.1 (by decide)).mono ?_
  rintro e w20 ⟨u20, rfl, hu20, hx20⟩
  have HX20 := Lib.hid (HX19.out.trans hx20)
  have HU20 := Lib.hid hu20
  clear hx20 hu20 HX19
  go_wp2_with fail
  refine (litems_any _ kI w20 (HKN.out _ HX20.out).2.2.2.2 (by decide)).mono ?_
  rintro e w21 ⟨u21, rfl, hu21, hx21⟩
  have HX21 := Lib.hid (HX20.out.trans hx21)
  have HU21 := Lib.hid hu21
  replace HU20 := Lib.hid (HU20.out.ext hx21)
  clear hx21 hu21 HX20
  go_wp2_with fail
  refine (ralike_any _ _ _ _ _ HU20.out HU21.out).mono ?_
  rw [decide_eq_true rfl]
  rintro e w22 ⟨rfl, hx22⟩
  have HX22 := Lib.hid (HX21.out.trans hx22)
  clear hx22 HX21 HU20 HU21
  go_wp2_with fail
  refine (Right_any _ kI w22 (HKN.out _ HX22.out).2.2.2.2 kI_ok (by decide)).mono ?_
  rw [decide_eq_true kI_right]
  rintro e w23 ⟨rfl, hx23⟩
  have HX23 := Lib.hid (HX22.out.trans hx23)
  clear hx23 HX22
  have hcut := HCUT.out
  go_wp2_with fail
  refine (Right_any _ (kI.take 3) w23 (HR7.out.ext HX23.out) (fun x hx => kI_ok x (List.mem_of_mem_take hx)) (by decide)).mono ?_
  rw [decide_eq_false kI_not]
  rintro e w24 ⟨rfl, hx24⟩
  have HX24 := Lib.hid (HX23.out.trans hx24)
  clear hx24 HX23
  go_wp2_with fail
  go_ret
  exact ⟨rfl, HX.out.trans HX24.out⟩
end Go.Proofs.Ytdbboooblbdihaa
