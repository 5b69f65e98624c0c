/- The plain law of a file that can crash: what the program's file and the document's file both keep. -/
import Derived.Test.YtdndeggognfcaaaByt
namespace Go.Proofs.Ytdndeggognfcaaa.Fil
open Go.RowKit

/-- The text, how many bytes are sure; the other text, if one is laid; the old one, if one was renamed. -/
structure St where
  s : ByteArray
  sure : Nat
  other : Option (ByteArray × Nat)
  old : Option (ByteArray × Nat)

def St.empty : St := ⟨⟨#[]⟩, 0, none, none⟩
def Fine1 (p : ByteArray × Nat) : Prop := p.1.size ≤ 16777216 ∧ p.2 ≤ p.1.size
structure St.Ok (t : St) : Prop where
  text : Fine1 (t.s, t.sure)
  other : ∀ p, t.other = some p → Fine1 p
  old : ∀ p, t.old = some p → Fine1 p

def cutS (s : ByteArray) (n : Nat) : ByteArray := ⟨(s.toList.take n).toArray⟩
theorem cutS_size (s : ByteArray) (n : Nat) (h : n ≤ s.size) : (cutS s n).size = n := by
  have := size_list (cutS s n)
  rw [cutS, toList_mk, List.length_take, size_list] at this
  rw [cutS]
  omega
def keptN (s : ByteArray) (sure : Nat) (keep : Int) : Nat := sure + min keep.toNat (s.size - sure)

def appendR (t : St) (s : ByteArray) : Int × St := if t.s.size + s.size > 16777216 then (13, t) else (0, { t with s := t.s ++ s })
def syncT (t : St) : St := { t with sure := t.s.size, old := none }
def cutR (t : St) (n : Int) : Int × St := if n < 0 ∨ (t.s.size : Int) < n then (1, t) else (0, syncT { t with s := cutS t.s n.toNat })
def layR (t : St) (s : ByteArray) : Int × St := if s.size > 16777216 then (13, t) else (0, { t with other := some (s, 0) })
def flushR (t : St) : Int × St := match t.other with
  | none => (5, t)
  | some (s, _) => (0, { t with other := some (s, s.size) })
def renameR (t : St) : Int × St := match t.other with
  | none => (5, t)
  | some (s, n) => (0, ⟨s, n, none, some (t.old.getD (t.s, t.sure))⟩)
def crash1 (p : ByteArray × Nat) (keep : Int) : ByteArray × Nat := (cutS p.1 (keptN p.1 p.2 keep), keptN p.1 p.2 keep)
def backT (t : St) (renamed : Bool) : ByteArray × Nat := match t.old with
  | some p => if renamed then (t.s, t.sure) else p
  | none => (t.s, t.sure)
def crashR (t : St) (keep other : Int) (renamed : Bool) : Int × St :=
  if keep < 0 ∨ other < 0 then (1, t)
  else (0, syncT ⟨(crash1 (backT t renamed) keep).1, (crash1 (backT t renamed) keep).2, t.other.map fun p => crash1 p other, t.old⟩)

theorem keptN_le (s : ByteArray) (sure : Nat) (keep : Int) (h : sure ≤ s.size) : keptN s sure keep ≤ s.size := by unfold keptN; omega
theorem crash1_fine {p : ByteArray × Nat} (h : Fine1 p) (keep : Int) : Fine1 (crash1 p keep) := by
  have h1 := keptN_le p.1 p.2 keep h.2
  have h2 := h.1
  refine ⟨?_, ?_⟩
  · show (cutS _ _).size ≤ _
    rw [cutS_size _ _ h1]
    omega
  · show keptN _ _ _ ≤ (cutS _ _).size
    rw [cutS_size _ _ h1]
    exact Nat.le_refl _
theorem app_size (a b : ByteArray) : (a ++ b).size = a.size + b.size := by simp [ByteArray.size_append]
theorem St.Ok.empty : St.empty.Ok := ⟨⟨by decide, by decide⟩, by simp [St.empty], by simp [St.empty]⟩
theorem St.Ok.append {t : St} (h : t.Ok) (s : ByteArray) : (appendR t s).2.Ok := by
  unfold appendR
  split
  · exact h
  · refine ⟨⟨?_, ?_⟩, h.other, h.old⟩
    · show (t.s ++ s).size ≤ _
      rw [app_size]; omega
    · show t.sure ≤ (t.s ++ s).size
      have := h.text.2
      rw [app_size]
      simp only at this
      omega
theorem St.Ok.sync {t : St} (h : t.Ok) : (syncT t).Ok := ⟨⟨h.text.1, Nat.le_refl _⟩, h.other, by simp [syncT]⟩
theorem St.Ok.cut {t : St} (h : t.Ok) (n : Int) : (cutR t n).2.Ok := by
  unfold cutR
  split
  · exact h
  · rename_i hn
    have h1 := h.text.1
    simp only at h1
    have h2 : (cutS t.s n.toNat).size = n.toNat := cutS_size _ _ (by omega)
    refine ⟨⟨?_, Nat.le_refl _⟩, h.other, by simp [syncT]⟩
    show (cutS t.s n.toNat).size ≤ _
    omega
theorem St.Ok.lay {t : St} (h : t.Ok) (s : ByteArray) : (layR t s).2.Ok := by
  unfold layR
  split
  · exact h
  · refine ⟨h.text, fun p hp => ?_, h.old⟩
    injection hp with hp
    subst hp
    exact ⟨by show s.size ≤ _; omega, Nat.zero_le _⟩
theorem St.Ok.flush {t : St} (h : t.Ok) : (flushR t).2.Ok := by
  unfold flushR
  split
  · exact h
  · rename_i s n ho
    refine ⟨h.text, fun p hp => ?_, h.old⟩
    injection hp with hp
    subst hp
    exact ⟨(h.other _ ho).1, Nat.le_refl _⟩
theorem St.Ok.rename {t : St} (h : t.Ok) : (renameR t).2.Ok := by
  unfold renameR
  split
  · exact h
  · rename_i s n ho
    refine ⟨h.other _ ho, by simp, fun p hp => ?_⟩
    injection hp with hp
    subst hp
    cases hold : t.old with
    | none => exact h.text
    | some q => exact h.old q hold
theorem St.Ok.crash {t : St} (h : t.Ok) (keep other : Int) (renamed : Bool) : (crashR t keep other renamed).2.Ok := by
  unfold crashR
  split
  · exact h
  · have hb : Fine1 (backT t renamed) := by
      unfold backT
      cases hold : t.old with
      | none => exact h.text
      | some q =>
        cases renamed
        · exact h.old q hold
        · exact h.text
    have hc := crash1_fine hb keep
    refine ⟨⟨hc.1, Nat.le_refl _⟩, fun p hp => ?_, by simp [syncT]⟩
    simp only [syncT, Option.map_eq_some_iff] at hp
    obtain ⟨q, hq, rfl⟩ := hp
    exact crash1_fine (h.other q hq) other

end Go.Proofs.Ytdndeggognfcaaa.Fil
