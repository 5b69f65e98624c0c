/- What must come of fixed calls. -/
import Derived.Test.YtjmicdehofjmgaaFilV
namespace Go.Proofs.Ytjmicdehofjmgaa
open Go.RowKit Go.Lib Fil
set_option linter.unusedVariables false

set_option maxHeartbeats 4000000 in
set_option maxRecDepth 100000 in
theorem known_any (w : World) : Calls Try.prog 17 #[] w fun e w' => e = .returned (.bool true) ∧ Ext w w' := by
  go_enter Try.func17, Try.ntmps17
  go_wp2_with fail
  refine (new_own w w (Ext.refl _)).mono ?_
  rintro e v0 ⟨g, rfl, h0, _⟩
  have H0 := Lib.hid h0
  clear h0
  go_wp2_with fail
  refine (H0.out.did (fun L hf => append_did g L _ _ v0 hf H0.out.ok (by decide)) kn1 (ok_of kn1 (H0.out.ok.append _))).mono ?_
  rintro e v1 ⟨rfl, h1⟩
  have H1 := Lib.hid h1
  clear h1
  go_wp2_with fail
  refine (H1.out.did (fun L hf => sync_any g L _ v1 hf) (show (0, syncT _) = _ from by rw [kn2]) (ok_of (show (0, syncT _) = _ from by rw [kn2]) H1.out.ok.sync)).mono ?_
  rintro e v2 ⟨rfl, h2⟩
  have H2 := Lib.hid h2
  clear h2
  go_wp2_with fail
  refine (H2.out.did (fun L hf => append_did g L _ _ v2 hf H2.out.ok (by decide)) kn3 (ok_of kn3 (H2.out.ok.append _))).mono ?_
  rintro e v3 ⟨rfl, h3⟩
  have H3 := Lib.hid h3
  clear h3
  go_wp2_with fail
  refine (H3.out.did (fun L hf => crash_any g L _ _ _ _ v3 hf H3.out.ok (by decide) (by decide) (by decide) (by decide)) kn4 (ok_of kn4 (H3.out.ok.crash _ _ _))).mono ?_
  rintro e v4 ⟨rfl, h4⟩
  have H4 := Lib.hid h4
  clear h4
  go_wp2_with fail
  refine (H4.out.text).mono ?_
  rintro e _ ⟨rfl, rfl⟩
  go_wp2_with fail
  refine (H4.out.sure).mono ?_
  rintro e _ ⟨rfl, rfl⟩
  go_wp2_with fail
  refine (H4.out.did (fun L hf => rename_any g L _ v4 hf) kn5 (ok_of kn5 H4.out.ok.rename)).mono ?_
  rintro e v5 ⟨rfl, h5⟩
  have H5 := Lib.hid h5
  clear h5
  go_wp2_with fail
  refine (H5.out.did (fun L hf => lay_did g L _ _ v5 hf (by decide)) kn6 (ok_of kn6 (H5.out.ok.lay _))).mono ?_
  rintro e v6 ⟨rfl, h6⟩
  have H6 := Lib.hid h6
  clear h6
  go_wp2_with fail
  refine (H6.out.did (fun L hf => rename_any g L _ v6 hf) kn7 (ok_of kn7 H6.out.ok.rename)).mono ?_
  rintro e v7 ⟨rfl, h7⟩
  have H7 := Lib.hid h7
  clear h7
  go_wp2_with fail
  refine (H7.out.text).mono ?_
  rintro e _ ⟨rfl, rfl⟩
  go_wp2_with fail
  refine (H7.out.copy).mono ?_
  rintro e v8 ⟨g2, rfl, h8⟩
  have H8 := Lib.hid h8
  clear h8
  go_wp2_with fail
  refine (H8.out.did (fun L hf => crash_any g L _ _ _ _ v8 hf H8.out.one.ok (by decide) (by decide) (by decide) (by decide)) kn8 (ok_of kn8 (H8.out.one.ok.crash _ _ _))).mono ?_
  rintro e v9 ⟨rfl, h9⟩
  have H9 := Lib.hid h9
  clear h9
  go_wp2_with fail
  refine (H9.out.did2 (fun L hf => crash_any g2 L _ _ _ _ v9 hf H9.out.two.ok (by decide) (by decide) (by decide) (by decide)) kn9 (ok_of kn9 (H9.out.two.ok.crash _ _ _))).mono ?_
  rintro e v10 ⟨rfl, h10⟩
  have H10 := Lib.hid h10
  clear h10
  go_wp2_with fail
  refine (H10.out.did (fun L hf => cut_any g L _ _ v10 hf (by decide) (by decide)) kn10 (ok_of kn10 (H10.out.one.ok.cut _))).mono ?_
  rintro e v11 ⟨rfl, h11⟩
  have H11 := Lib.hid h11
  clear h11
  go_wp2_with fail
  refine (H11.out.did (fun L hf => cut_any g L _ _ v11 hf (by decide) (by decide)) kn11 (ok_of kn11 (H11.out.one.ok.cut _))).mono ?_
  rintro e v12 ⟨rfl, h12⟩
  have H12 := Lib.hid h12
  clear h12
  go_wp2_with fail
  refine (H12.out.one.other).mono ?_
  rintro e v13 ⟨rfl, hx13⟩
  have H13 := Lib.hid (H12.out.later hx13)
  clear hx13
  go_wp2_with fail
  refine (H13.out.two.text).mono ?_
  rintro e _ ⟨rfl, rfl⟩
  go_wp2_with fail
  refine (H13.out.one.text).mono ?_
  rintro e _ ⟨rfl, rfl⟩
  go_wp2_with fail
  refine (H13.out.did (fun L hf => crash_any g L _ _ _ _ v13 hf H13.out.one.ok (by decide) (by decide) (by decide) (by decide)) kn12 (ok_of kn12 (H13.out.one.ok.crash _ _ _))).mono ?_
  rintro e v14 ⟨rfl, h14⟩
  have H14 := Lib.hid h14
  clear h14
  go_wp2_with fail
  refine (H14.out.did (fun L hf => flush_any g L _ v14 hf) kn13 (ok_of kn13 H14.out.one.ok.flush)).mono ?_
  rintro e v15 ⟨rfl, h15⟩
  have H15 := Lib.hid h15
  clear h15
  go_wp2_with fail
  go_ret
  exact ⟨rfl, H15.out.ext⟩
end Go.Proofs.Ytjmicdehofjmgaa
