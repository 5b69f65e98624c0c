/- Slices of bytes that are never written: typed, so that stores into other kinds of blocks leave them. -/
import Derived.Test.YtdndeggognfcaaaFilP
import Derived.Test.YtdndeggognfcaaaMem
import Derived.Lib.AppendStr
namespace Go.Proofs.Ytdndeggognfcaaa
open Go.RowKit Go.Lib
set_option linter.unusedVariables false
set_option maxRecDepth 100000

/-- A slice of bytes: its block is one of bytes. -/
def BT (w : World) (v : Value) (l : List UInt8) : Prop := ∃ A n c, v = .slice A n c ∧ l.length = n ∧ n ≤ c ∧ c ≤ maxLen ∧
  ((A = none ∧ c = 0) ∨ ∃ g cur f, A = some ⟨g, 0, none⟩ ∧ w.heap[g]? = some (.cells cur 5 f) ∧ c ≤ cur.size ∧ cur.toList.take n = l.map byteV)
theorem BT.nil (w : World) : BT w (.slice none 0 0) [] := ⟨none, 0, 0, rfl, rfl, by omega, by simp [maxLen], .inl ⟨rfl, rfl⟩⟩
theorem BT.chg {B : Nat} {S : List TypeId} {w w' : World} {v : Value} {l : List UInt8} (h : BT w v l) (hc : Chg B S w w') (hS : 5 ∉ S) : BT w' v l := by
  obtain ⟨A, n, c, h1, h2, h3, h4, h5⟩ := h
  refine ⟨A, n, c, h1, h2, h3, h4, h5.imp id ?_⟩
  rintro ⟨g, cur, f, ha, hg, hs, ht⟩
  exact ⟨g, cur, f, ha, hc.heap_type hg hS, hs, ht⟩
theorem BT.ext {w w' : World} {v : Value} {l : List UInt8} (h : BT w v l) (hc : Ext w w') : BT w' v l := h.chg (S := []) (Chg.of_ext (B := 0) hc) (by simp)
theorem BT.byt {w : World} {v : Value} {l : List UInt8} (h : BT w v l) : ∃ A n c, v = .slice A n c ∧ l.length = n ∧ n ≤ c ∧ c ≤ maxLen ∧ Rd w A (l.map byteV) := by
  obtain ⟨A, n, c, h1, h2, h3, h4, h5⟩ := h
  refine ⟨A, n, c, h1, h2, h3, h4, fun hn => ?_⟩
  rcases h5 with ⟨rfl, rfl⟩ | ⟨g, cur, f, rfl, hg, hs, ht⟩
  · have : l = [] := List.eq_nil_of_length_eq_zero (by omega)
    subst this
    exact absurd rfl hn
  · refine ⟨_, rfl, fun j u hu => ?_⟩
    rw [add_at, heap_cell hg, ← ht] at *
    have := hu
    rw [List.getElem?_take] at this
    split at this
    · rw [← Array.getElem?_toList]; exact this
    · simp at this
/-- A slice that is cut at its end, its room too. -/
theorem cut_cap {P : Program} {A : Option Addr} (t e : TypeId) (i : TypeInfo) (ht : P.underlying t = some (.slice e)) (hi : P.info? e = some i)
    {n c : Nat} (k : Nat) (ki : Int) (hki : ki = (k : Int)) (hk : k ≤ c) :
    ∀ w', (Instr.slice t (.slice A n c) none (some (.int .i64 ki)) (some (.int .i64 ki))).run P w' = .ok (.slice A k k) w' := by
  subst hki
  intro w'
  have he : P.elem t = e := by simp [Program.elem, ht]
  rw [run_slice_hm w' t A n c (by rw [he]; exact ht) .i64 .i64 (k : Int) (k : Int) (by omega) (by omega) (by omega), he]
  have hA : (if k = 0 then A else A.map (·.add (0 * i.size))) = A := by
    split
    · rfl
    · cases A <;> simp [Addr.add]
  simp [sizeOf, typeInfo, hi, sliced]
  intro _
  cases A <;> simp [Addr.add]
theorem BT.cut {w : World} {A : Option Addr} {n c : Nat} {l : List UInt8} (h : BT w (.slice A n c) l) (k : Nat) (hk : k ≤ n) : BT w (.slice A k k) (l.take k) := by
  obtain ⟨A', n', c', hv, h2, h3, h4, h5⟩ := h
  injection hv with e1 e2 e3
  subst e1 e2 e3
  refine ⟨A, k, k, rfl, by rw [List.length_take]; omega, Nat.le_refl _, by omega, ?_⟩
  rcases h5 with ⟨rfl, rfl⟩ | ⟨g, cur, f, rfl, hg, hs, ht⟩
  · exact .inl ⟨rfl, by omega⟩
  · refine .inr ⟨g, cur, f, rfl, hg, by omega, ?_⟩
    rw [List.map_take, ← ht, List.take_take, Nat.min_eq_left hk]

theorem cells_bytes (s : ByteArray) : strCells s = s.toList.map byteV := by rw [Lib.toList_data]; rfl

theorem run_append_none (w : World) {P : Program} (t u ty e : TypeId) (i : TypeInfo) (ht : P.underlying t = some (.slice e)) (hu : P.underlying u = some .string) (hi : P.info? e = some i) (hs1 : i.size = 1)
    (A : Option Addr) (n c : Nat) (hnc : n ≤ c) (s : ByteArray) (hs : s.size = 0) : (Builtin.append_ #[t, u] ty #[.slice A n c, .string s]).run P w = .ok (.slice A n c) w := by
  have hf := run_firstCells_string (P := P) w 1 s
  have hsc : strCells s = [] := by rw [cells_bytes, List.eq_nil_of_length_eq_zero (by rw [size_list]; exact hs : s.toList.length = 0)]; rfl
  rw [hsc, hs] at hf
  cases A <;> simp [Builtin.append_, run_underlying ht, run_underlying hu, sizeOf, typeInfo, hi, hs1, Builtin.lenOf, hs, hnc, hf, storeCells]

/-- append of a string's bytes onto a slice without room: the old bytes stay. -/
theorem app_str {P : Program} (w : World) (ty : TypeId) (i : TypeInfo) (ht : P.underlying 50 = some (.slice 5)) (hu : P.underlying 9 = some .string) (hi : P.info? 5 = some i) (hz : i.zero = some (.int .u8 0)) (hs1 : i.size = 1) (hby : i.bytes = 1)
    (A : Option Addr) (n : Nat) (l : List UInt8) (h : BT w (.slice A n n) l) (s : ByteArray) (hb : n + s.size ≤ 17179869184) :
    ∃ v' w', (Builtin.append_ #[50, 9] ty #[.slice A n n, .string s]).run P w = .ok v' w' ∧ BT w' v' (l ++ s.toList) ∧ Ext w w' := by
  by_cases h0 : s.size = 0
  · have hsl : s.toList = [] := List.eq_nil_of_length_eq_zero (by rw [size_list]; exact h0)
    exact ⟨_, _, run_append_none w 50 9 ty 5 i ht hu hi hs1 A n n (Nat.le_refl _) s h0, by rw [hsl, List.append_nil]; exact h, Ext.refl _⟩
  have hbyt := h.byt
  obtain ⟨A', n', c', hv, h2, h3, h4, h5⟩ := h
  injection hv with e1 e2 e3
  subst e1 e2 e3
  have hml : maxLen = 9223372036854775807 := rfl
  rcases h5 with ⟨rfl, rfl⟩ | ⟨g, cur, f, rfl, hg, hs, htk⟩
  · have hl0 : l = [] := List.eq_nil_of_length_eq_zero h2
    subst hl0
    obtain ⟨v', w', hr, ho, hgr, _⟩ := run_append_own_string (P := P) w w.heap.size 50 9 ty 5 i ht hu hi hz hs1 hby (.slice none 0 0) 0 [] (World.ownsRow_nil _ _ _ _) s (by omega) (by omega) (Nat.le_refl _)
    refine ⟨v', w', hr, ?_, ⟨hgr.os, hgr.tape, hgr.output, hgr.size, fun k hk => hgr.block k hk (by simp [Value.ownBlock])⟩⟩
    rcases ho.2 with ⟨rfl, h0⟩ | ⟨g, cap, cur, rfl, _, hg, hnc, hcm, hcs, htk⟩
    · have : s.toList = [] := List.eq_nil_of_length_eq_zero (by rw [size_list]; omega)
      rw [this]
      exact BT.nil _
    · refine ⟨_, _, _, rfl, by rw [List.nil_append, size_list]; omega, hnc, hcm, .inr ⟨g, cur, _, rfl, hg, by omega, ?_⟩⟩
      rw [List.nil_append] at htk
      rw [List.nil_append, ← cells_bytes, ← htk]
      simp
  · obtain ⟨A2, n2, c2, hv2, hn2, _, _, hrd⟩ := hbyt
    injection hv2 with e1 e2 e3
    subst e1 e2 e3
    have holds : ∀ j u, (l.map byteV)[j]? = some u → w.cell? ((⟨g, 0, none⟩ : Addr).add j) = some u := fun j u hu => by
      obtain ⟨ad, he, hc⟩ := hrd (by intro hn; simp [hn] at hu)
      injection he with he
      subst he
      exact hc j u hu
    have hr := run_append_grow_string (P := P) w 50 9 ty 5 i (.int .u8 0) ht hu hi hz ⟨g, 0, none⟩ n n (l.map byteV) (by rw [hs1, List.length_map]; omega) holds s (by omega) (by omega) (by rw [hby]; exact growslice_fits (by omega) (by omega))
    have hge := grownCap_ge w (n + s.size) n 5
    have hcm : grownCap w (n + s.size) n 5 ≤ maxLen := grownCap_le_maxLen w (n + s.size) n 5 (by omega)
    refine ⟨_, _, hr, ⟨_, _, _, rfl, by rw [List.length_append, size_list]; omega, hge, hcm, .inr ⟨w.heap.size, _, _, rfl, heap_alloc_new w.drew _, ?_, ?_⟩⟩, (Ext.drew w).trans (Ext.alloc w.drew _)⟩
    · have hz1 : (Value.int IntKind.u8 0).cells.size = 1 := rfl
      simp only [Array.size_append, List.size_toArray, size_zeroCells, hz1, strCells_length, List.length_map]
      omega
    · have hlen : (l.map byteV ++ strCells s).length = n + s.size := by rw [List.length_append, List.length_map, strCells_length]; omega
      simp only [Array.toList_append]
      rw [List.map_append, ← cells_bytes, ← hlen]
      exact List.take_left

theorem own_bt {w : World} {base : Nat} {v : Value} {l : List UInt8} (h : w.ownsRow base 5 1 v l.length (l.map byteV)) : BT w v l := by
  rcases h.2 with ⟨rfl, h0⟩ | ⟨g, cap, cur, rfl, _, hg, hnc, hcm, hcs, htk⟩
  · have : l = [] := List.eq_nil_of_length_eq_zero h0
    subst this
    exact BT.nil _
  · exact ⟨_, _, _, rfl, rfl, hnc, hcm, .inr ⟨g, cur, _, rfl, hg, by omega, by simpa using htk⟩⟩

/-- What []byte(s) makes. -/
theorem bytes_new (w : World) (s : ByteArray) (hs : s.size ≤ 17179869184) : ∃ c, grownCap w s.size 0 5 = c ∧ BT (w.drew.alloc (.cells (bytesRow s c) 5 ((bytesRow s c).size, (bytesRow s c).size + 1))) (.slice (some ⟨w.heap.size, 0, none⟩) s.size c) s.toList := by
  have hml : maxLen = 9223372036854775807 := rfl
  have hge := grownCap_ge w s.size 0 5
  have hcm : grownCap w s.size 0 5 ≤ maxLen := grownCap_le_maxLen w s.size 0 5 (by omega)
  refine ⟨_, rfl, _, _, _, rfl, size_list s, hge, hcm, .inr ⟨w.heap.size, _, _, rfl, heap_alloc_new w.drew _, ?_, ?_⟩⟩
  · have : s.data.size = s.size := rfl
    simp [bytesRow]
    omega
  · rw [Lib.toList_data]
    simp only [bytesRow, Array.toList_append, Array.toList_map]
    exact List.take_left' (by simp)
end Go.Proofs.Ytdndeggognfcaaa
