/- Files that a law holds; what must come of fixed calls. -/
import Derived.Test.YtdndeggognfcaaaFilU
namespace Go.Proofs.Ytdndeggognfcaaa
open Go.RowKit Go.Lib Fil
set_option linter.unusedVariables false
set_option maxRecDepth 100000

/-- A file of the call's own (w0: the world in which the call began). -/
def F1 (w0 w : World) (g : Nat) (t : St) : Prop := ∃ L, Ext w0 w ∧ FileAt w g L t ∧ (∀ k ∈ L, w0.heap.size ≤ k) ∧ t.Ok
/-- Two of them. -/
def F2 (w0 w : World) (g : Nat) (t : St) (g2 : Nat) (t2 : St) : Prop :=
  ∃ L L2, Ext w0 w ∧ (FileAt w g L t ∧ (∀ k ∈ L, w0.heap.size ≤ k) ∧ t.Ok) ∧ (FileAt w g2 L2 t2 ∧ (∀ k ∈ L2, w0.heap.size ≤ k) ∧ t2.Ok) ∧ ∀ k ∈ L2, k ∉ L
section
variable {w0 w w' : World} {g g2 : Nat} {t t' t2 : St}
theorem F1.ext (h : F1 w0 w g t) : Ext w0 w := by obtain ⟨L, hx, _⟩ := h; exact hx
theorem F1.ok (h : F1 w0 w g t) : t.Ok := by obtain ⟨L, _, _, _, hx⟩ := h; exact hx
theorem F1.later (h : F1 w0 w g t) (hx : Ext w w') : F1 w0 w' g t := by
  obtain ⟨L, h1, h2, h3, h4⟩ := h
  exact ⟨L, h1.trans hx, h2.ext hx, h3, h4⟩
theorem F2.ext (h : F2 w0 w g t g2 t2) : Ext w0 w := by obtain ⟨L, L2, hx, _⟩ := h; exact hx
theorem F2.later (h : F2 w0 w g t g2 t2) (hx : Ext w w') : F2 w0 w' g t g2 t2 := by
  obtain ⟨L, L2, h1, ⟨h2, h3, h4⟩, ⟨h5, h6, h7⟩, hd⟩ := h
  exact ⟨L, L2, h1.trans hx, ⟨h2.ext hx, h3, h4⟩, ⟨h5.ext hx, h6, h7⟩, hd⟩
theorem F2.symm (h : F2 w0 w g t g2 t2) : F2 w0 w g2 t2 g t := by
  obtain ⟨L, L2, h1, h2, h3, hd⟩ := h
  exact ⟨L2, L, h1, h3, h2, fun k hk hk2 => hd k hk2 hk⟩
theorem F2.one (h : F2 w0 w g t g2 t2) : F1 w0 w g t := by
  obtain ⟨L, L2, h1, ⟨h2, h3, h4⟩, _⟩ := h
  exact ⟨L, h1, h2, h3, h4⟩
theorem F2.two (h : F2 w0 w g t g2 t2) : F1 w0 w g2 t2 := h.symm.one

theorem F1.did (h : F1 w0 w g t) {P : Program} {f : FuncId} {args : Array Value} {r : Int × St} {c : Int} (hc : ∀ L, FileAt w g L t → Calls P f args w fun e w' => e = .returned (.int .i64 r.1) ∧ Did w w' g L r.2) (hr : r = (c, t')) (hok : t'.Ok) :
    Calls P f args w fun e w' => e = .returned (.int .i64 c) ∧ F1 w0 w' g t' := by
  subst hr
  obtain ⟨L, h1, h2, h3, h4⟩ := h
  refine (hc L h2).mono ?_
  rintro e w' ⟨rfl, hk, L', hf, hs⟩
  refine ⟨rfl, L', hk.to_ext h1 h3, hf, fun k hk => (hs k hk).elim (h3 k) (fun hh => Nat.le_trans h1.size hh), hok⟩
theorem F2.did (h : F2 w0 w g t g2 t2) {P : Program} {f : FuncId} {args : Array Value} {r : Int × St} {c : Int} (hc : ∀ L, FileAt w g L t → Calls P f args w fun e w' => e = .returned (.int .i64 r.1) ∧ Did w w' g L r.2) (hr : r = (c, t')) (hok : t'.Ok) :
    Calls P f args w fun e w' => e = .returned (.int .i64 c) ∧ F2 w0 w' g t' g2 t2 := by
  subst hr
  obtain ⟨L, L2, h1, ⟨h2, h3, h4⟩, ⟨h5, h6, h7⟩, hd⟩ := h
  refine (hc L h2).mono ?_
  rintro e w' ⟨rfl, hk, L', hf, hs⟩
  refine ⟨rfl, L', L2, hk.to_ext h1 h3, ⟨hf, fun k hk => (hs k hk).elim (h3 k) (fun hh => Nat.le_trans h1.size hh), hok⟩, ⟨h5.kp hk h2.nob hd, h6, h7⟩, fun k hk hk2 => (hs k hk2).elim (hd k hk) (fun hh => by have := h5.lt k hk; omega)⟩
theorem F2.did2 (h : F2 w0 w g t g2 t2) {P : Program} {f : FuncId} {args : Array Value} {r : Int × St} {c : Int} (hc : ∀ L, FileAt w g2 L t2 → Calls P f args w fun e w' => e = .returned (.int .i64 r.1) ∧ Did w w' g2 L r.2) (hr : r = (c, t')) (hok : t'.Ok) :
    Calls P f args w fun e w' => e = .returned (.int .i64 c) ∧ F2 w0 w' g t g2 t' := (h.symm.did hc hr hok).mono fun _ _ h => ⟨h.1, h.2.symm⟩
theorem F1.text (h : F1 w0 w g t) : Calls Try.prog 33 #[.pointer (some ⟨g, 0, none⟩)] w fun e w' => e = .returned (.string t.s) ∧ w = w' := by
  obtain ⟨L, h1, h2, h3, h4⟩ := h
  exact text_any g L t w h2
theorem F1.sure (h : F1 w0 w g t) : Calls Try.prog 34 #[.pointer (some ⟨g, 0, none⟩)] w fun e w' => e = .returned (.int .i64 (t.sure : Int)) ∧ w = w' := by
  obtain ⟨L, h1, h2, h3, h4⟩ := h
  exact sure_any g L t w h2
end
theorem new_own (w0 w : World) (hx : Ext w0 w) : Calls Try.prog 15 #[] w fun e w' => ∃ g, e = .returned (.pointer (some ⟨g, 0, none⟩)) ∧ F1 w0 w' g St.empty ∧ Ext w w' := by
  refine (new_any w).mono ?_
  rintro e w' ⟨rfl, hx', hf⟩
  exact ⟨_, rfl, ⟨[w.heap.size], hx.trans hx', hf, by simpa using hx.size, St.Ok.empty⟩, hx'⟩

theorem cutS_data (s : ByteArray) (n : Nat) : cutS s n = ⟨(s.data.toList.take n).toArray⟩ := by rw [cutS, Lib.toList_data]
theorem ok_of {r : Int × St} {c : Int} {t : St} (h : r = (c, t)) (hok : r.2.Ok) : t.Ok := by subst h; exact hok
end Go.Proofs.Ytdndeggognfcaaa
