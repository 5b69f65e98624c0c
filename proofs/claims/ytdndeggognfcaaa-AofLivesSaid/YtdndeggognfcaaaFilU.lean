/- A call of both files. -/
import Derived.Test.YtdndeggognfcaaaFilT
namespace Go.Proofs.Ytdndeggognfcaaa
open Go.RowKit Go.Lib Fil
set_option linter.unusedVariables false
set_option maxRecDepth 100000

/-- Both files, alike. -/
def Both (w w' : World) (g rg : Nat) (L : List Nat) (t : St) : Prop := ∃ L', FileAt w' g L' t ∧ RefAt w' rg t ∧ Kp (rg :: L) w w' ∧ Sub w L L'
theorem Both.mk' {w w1 w2 : World} {g rg : Nat} {L : List Nat} {t t0 : St} (h0 : FileAt w g L t0) (hr0 : RefAt w rg t0) (h : Did w w1 g L t) (hk : Kp [rg] w1 w2) (hr : RefAt w2 rg t) : Both w w2 g rg L t := by
  obtain ⟨hk1, L', hf, hs⟩ := h
  have h1 : rg ∉ L := h0.other hr0 (by decide) (by decide)
  have hlt := (Array.getElem?_eq_some_iff.1 hr0).1
  have h2 : rg ∉ L' := fun hm => (hs rg hm).elim h1 (fun hh => by omega)
  have hr1 : RefAt w1 rg t0 := hr0.kp hk1 h1
  refine ⟨L', hf.kp hk (nob_of hr1 (by decide)) (fun k hk hkr => by simp at hkr; exact h2 (hkr ▸ hk)), hr, (hk1.mono (fun k hk => by simp [hk])).trans hk (fun k hk => .inl (by simp at hk; simp [hk])), hs⟩

theorem Both.from {w wa w' : World} {g rg : Nat} {L : List Nat} {t : St} (h : Both wa w' g rg L t) (hx : Ext w wa) : Both w w' g rg L t := by
  obtain ⟨L', hf, hr, hk, hs⟩ := h
  exact ⟨L', hf, hr, (Kp.of_ext hx).trans hk (Sub.refl _ _), fun k hk => (hs k hk).imp id (fun hh => Nat.le_trans hx.size hh)⟩

theorem append_did (g : Nat) (L : List Nat) (t : St) (s : ByteArray) (w : World) (h : FileAt w g L t) (hok : t.Ok) (hs : s.size ≤ 9223372036854775807) :
    Calls Try.prog 26 #[.pointer (some ⟨g, 0, none⟩), .string s] w fun e w' => e = .returned (.int .i64 (appendR t s).1) ∧ Did w w' g L (appendR t s).2 := (append_any g L t s w h hok hs).mono fun _ _ h => ⟨h.1, h.2.1⟩
theorem lay_did (g : Nat) (L : List Nat) (t : St) (s : ByteArray) (w : World) (h : FileAt w g L t) (hs : s.size ≤ 9223372036854775807) :
    Calls Try.prog 43 #[.pointer (some ⟨g, 0, none⟩), .string s] w fun e w' => e = .returned (.int .i64 (layR t s).1) ∧ Did w w' g L (layR t s).2 := (lay_any g L t s w h hs).mono fun _ _ h => ⟨h.1, h.2.1⟩

end Go.Proofs.Ytdndeggognfcaaa
