/- Words for slices of bytes: reading as a list of bytes, append onto what the call owns, the way back to a text. -/
import Derived.Test.YtdbboooblbdihaaLib
import Derived.Test.YtdbboooblbdihaaRows
import Derived.Laws.IdiomStrings
import Derived.Lib.Strings
namespace Go.Proofs.Ytdbboooblbdihaa
open Go.RowKit

def byteV (b : UInt8) : Value := .int .u8 (b.toNat : Int)

/-- A value that reads as a list of bytes. -/
def Byt (w : World) (v : Value) (l : List UInt8) : Prop :=
  ∃ A n c, v = .slice A n c ∧ l.length = n ∧ n ≤ c ∧ c ≤ 9223372036854775807 ∧ Rd w A (l.map byteV)

theorem Byt.ext {w w' : World} {v : Value} {l : List UInt8} (h : Byt w v l) (hb : Ext w w') : Byt w' v l := by
  obtain ⟨A, n, c, h1, h2, h3, h4, h5⟩ := h
  exact ⟨A, n, c, h1, h2, h3, h4, h5.ext hb⟩

theorem byt_get (l : List UInt8) (k : Nat) (hk : k < l.length) : (l.map byteV)[k]? = some (.int .u8 (l[k].toNat : Int)) := by
  rw [List.getElem?_map, List.getElem?_eq_getElem hk]; rfl

theorem Try.u8Info : (Try.prog.info? 5).map (fun i => (i.zero, i.size, i.bytes)) = some (some (.int .u8 0), 1, 1) := by kernel_rfl

/-- What the call owns since the world w0: the bytes of out. -/
def OwnB (w0 w : World) (v : Value) (out : List UInt8) : Prop := w.ownsRow w0.heap.size 5 1 v out.length (out.map byteV)
theorem OwnB.nil (w0 w : World) : OwnB w0 w (.slice none 0 0) [] := World.ownsRow_nil _ _ _ _
theorem OwnB.drewN {w0 w : World} {v : Value} {out : List UInt8} (h : OwnB w0 w v out) (q : Nat) : OwnB w0 (w.drewN q) v out := h
theorem OwnB.alloc {w0 w : World} {v : Value} {out : List UInt8} (h : OwnB w0 w v out) (o : Obj) : OwnB w0 (w.alloc o) v out := World.ownsRow.alloc h o
theorem OwnB.ext {w0 w w' : World} {v : Value} {out : List UInt8} (h : OwnB w0 w v out) (hb : Ext w w') : OwnB w0 w' v out :=
  World.ownsRow.kept (row := none) h ⟨hb.os, hb.tape, hb.output, hb.size, fun k hk _ => hb.block k hk⟩ (by
    cases hv : v.ownBlock with
    | none => exact .inl rfl
    | some k => exact .inr (by simp))
theorem OwnB.byt {w0 w : World} {v : Value} {out : List UInt8} (h : OwnB w0 w v out) : Byt w v out := by
  unfold OwnB at h
  rcases h.2 with ⟨hv, h0⟩ | ⟨g, cap, cur, hv, _, _, hnc, hcm, _⟩
  · subst hv
    have : out = [] := List.eq_nil_of_length_eq_zero h0
    subst this
    exact ⟨none, 0, 0, rfl, rfl, by omega, by omega, Rd.nil _ _⟩
  · subst hv
    exact ⟨some ⟨g, 0, none⟩, out.length, cap, rfl, rfl, hnc, by simpa [maxLen] using hcm, Rd.own h⟩

/-- append of bytes onto what the call owns. -/
theorem app_bytes {ops : Array Oper} {rest : List Oper} {o : Oper} {a : Act} {Q : Exit → Act → World → Prop} (w : World) (hgd : o.guard = none) (s x : Operand)
    (ho : o.op = .call { callee := .builtin .append, args := #[s, x], argTypes := #[22, 22] })
    (w0 : World) (v : Value) (out : List UInt8) (hs : a.eval s = v) (hown : OwnB w0 w v out)
    (A : Option Addr) (m c : Nat) (news : List UInt8) (hx : a.eval x = .slice A m c) (hl : news.length = m) (hr : Rd w A (news.map byteV))
    (hb : out.length + news.length ≤ 17179869184) (hext : Ext w0 w)
    (h : ∀ v' w', OwnB w0 w' v' (out ++ news) → Ext w0 w' → wpList Try.prog ops Q rest (a.put o.dst v') w') : wpList Try.prog ops Q (o :: rest) a w := by
  obtain ⟨i0, hi0, hz0, hz1, hz2⟩ := info_parts Try.u8Info
  subst hl
  refine wpList_append_rd w hgd s x 22 ho w0.heap.size 5 i0 (.int .u8 0) 1 1 Try.underlying22 hi0 hz0 hz1 hz2 rfl (by decide) v out.length _ hs hown A news.length c (news.map byteV) hx (by simp) hr
    (by intro u hu; obtain ⟨y, _, rfl⟩ := List.mem_map.1 hu; rfl) (by simp only [maxLen]; omega) (by omega) hext.size ?_
  intro v' w' happ
  refine h v' w' ?_ (happ.below hext hext.size fun k hk => (World.ownsRow.lt hown k hk).1)
  have := happ.own
  unfold OwnB
  rw [List.map_append, List.length_append]
  exact this

/-- The text that a slice of bytes is turned into. -/
theorem back {w : World} {A : Option Addr} {n c : Nat} {l : List UInt8} (hl : l.length = n) (hr : Rd w A (l.map byteV)) :
    (convert 22 9 (.slice A n c)).run Try.prog w = .ok (.string ⟨l.toArray⟩) w := by
  subst hl
  rcases A with _ | ad
  · have : l = [] := by
      cases l with
      | nil => rfl
      | cons b l =>
        obtain ⟨ad, e, _⟩ := hr.some_ (by simp)
        cases e
    subst this
    rw [run_convert_bytes_string w 22 9 5 _ _ _ Try.underlying22 Try.underlying5 Try.underlying9]
    simp [Conv.bytesToString]
    rfl
  · refine run_convert_bytes_back w 22 9 5 ad c l Try.underlying22 Try.underlying5 Try.underlying9 fun j hj => ?_
    obtain ⟨ad', e, hc⟩ := hr.some_ (by simp; omega)
    cases e
    exact hc j _ (byt_get l j hj)

theorem byt_at (a : ByteArray) (k : Nat) (h : k < a.size) : ∃ t, a.toList.drop k = a[k] :: t ∧ a.toList.take (k + 1) = a.toList.take k ++ [a[k]] := by
  have hl : k < a.toList.length := by rw [Lib.toList_data]; simpa using h
  have he : a.toList[k] = a[k] := by simp [Lib.toList_data]; rfl
  refine ⟨a.toList.drop (k + 1), ?_, ?_⟩
  · rw [← he]; exact List.drop_eq_getElem_cons hl
  · rw [← he]; exact List.take_succ_eq_append_getElem hl
theorem size_list (a : ByteArray) : a.toList.length = a.size := by rw [Lib.toList_data]; simp
theorem bytes_ext {a b : ByteArray} (h : a.toList = b.toList) : a = b := by
  rw [Lib.toList_data, Lib.toList_data] at h
  cases a; cases b
  simpa using h
theorem toList_mk (l : List UInt8) : (⟨l.toArray⟩ : ByteArray).toList = l := by rw [Lib.toList_data]
theorem bytes_mk (a : ByteArray) : (⟨a.toList.toArray⟩ : ByteArray) = a := bytes_ext (toList_mk _)
theorem ne_bytes {x y : UInt8} (h : ((x.toNat : Int) != (y.toNat : Int)) = true) : x ≠ y := by
  rw [bne_iff_ne] at h
  rintro rfl
  exact h rfl
theorem eq_bytes {x y : UInt8} (h : (x.toNat : Int) = (y.toNat : Int)) : x = y := UInt8.toNat_inj.1 (by omega)

end Go.Proofs.Ytdbboooblbdihaa
