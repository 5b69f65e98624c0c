/- The document's index in memory: Labels, Keys, Size. -/
import Derived.Test.YtebcjpapmjebgaaIxrB
namespace Go.Proofs.Ytebcjpapmjebgaa
open Go.RowKit Sets
set_option linter.unusedVariables false
set_option linter.unusedSectionVars false
set_option linter.unusedSimpArgs false

/-- An entry in memory. -/
structure EntV where
  key : ByteArray
  a : Option Addr
  n : Nat
  c : Nat
def entC (e : EntV) : List Value := [.string e.key, .slice e.a e.n e.c]
theorem entC_len (e : EntV) : (entC e).length = 2 := rfl
theorem entC_one (e : EntV) : ∀ u ∈ entC e, u.oneCell' = true := by
  intro u hu
  simp only [entC, List.mem_cons, List.not_mem_nil, or_false] at hu
  rcases hu with rfl | rfl <;> rfl
theorem Try.entInfo : (Try.prog.info? 69).map (fun i => (i.zero, i.size, i.bytes)) = some (some (.agg #[.string ByteArray.empty, .slice none 0 0]), 2, 40) := by kernel_rfl
structure EntOk (w : World) (r : Nat) (e : EntV) (m : Ent) : Prop where
  key : e.key = m.1
  row : Row labC w (.slice e.a e.n e.c) m.2
  off : ∀ ad, e.a = some ad → ad.block ≠ r
theorem row_kp {α : Type} {f : α → List Value} {w w' : World} {r : Nat} {A : Option Addr} {n c : Nat} {xs : List α} (h : Row f w (.slice A n c) xs) (hk : Kp [r] w w') (ho : ∀ ad, A = some ad → ad.block ≠ r) : Row f w' (.slice A n c) xs := by
  obtain ⟨A', n', c', h1, h2, h3, h4, h5⟩ := h
  injection h1 with e1 e2 e3
  subst e1 e2 e3
  exact ⟨_, _, _, rfl, h2, h3, h4, hk.rd h5 (fun ad e => by simpa using ho ad e)⟩
theorem EntOk.kp {w w' : World} {r : Nat} {e : EntV} {m : Ent} (h : EntOk w r e m) (hk : Kp [r] w w') : EntOk w' r e m := ⟨h.key, row_kp h.row hk h.off, h.off⟩
theorem EntOk.ext {w w' : World} {r : Nat} {e : EntV} {m : Ent} (h : EntOk w r e m) (hx : Ext w w') : EntOk w' r e m := h.kp (Kp.of_ext hx)
theorem EntOk.cm {w w' : World} {r : Nat} {e : EntV} {m : Ent} (h : EntOk w r e m) (hx : Cm w w') : EntOk w' r e m := ⟨h.key, hx.row h.row, h.off⟩
/-- The rows of entries, one for one. -/
def Ents (w : World) (r : Nat) (es : List EntV) (M : Mod) : Prop := es.length = M.length ∧ ∀ (i : Nat) (e : EntV) (m : Ent), es[i]? = some e → M[i]? = some m → EntOk w r e m
section
variable {w w' : World} {r : Nat} {es fs : List EntV} {M N : Mod}
theorem Ents.nil (w : World) (r : Nat) : Ents w r [] [] := ⟨rfl, by simp⟩
theorem Ents.kp (h : Ents w r es M) (hk : Kp [r] w w') : Ents w' r es M := ⟨h.1, fun i e m h1 h2 => (h.2 i e m h1 h2).kp hk⟩
theorem Ents.ext (h : Ents w r es M) (hx : Ext w w') : Ents w' r es M := h.kp (Kp.of_ext hx)
theorem Ents.cm (h : Ents w r es M) (hx : Cm w w') : Ents w' r es M := ⟨h.1, fun i e m h1 h2 => (h.2 i e m h1 h2).cm hx⟩
theorem Ents.app (h : Ents w r es M) (k : Ents w r fs N) : Ents w r (es ++ fs) (M ++ N) := by
  refine ⟨by rw [List.length_append, List.length_append, h.1, k.1], fun i e m h1 h2 => ?_⟩
  by_cases hi : i < es.length
  · rw [List.getElem?_append_left hi] at h1
    rw [List.getElem?_append_left (by rw [← h.1]; exact hi)] at h2
    exact h.2 i e m h1 h2
  · rw [List.getElem?_append_right (by omega)] at h1
    rw [List.getElem?_append_right (by rw [← h.1]; omega), ← h.1] at h2
    exact k.2 _ e m h1 h2
theorem Ents.one {e : EntV} {m : Ent} (h : EntOk w r e m) : Ents w r [e] [m] := by
  refine ⟨rfl, fun i e' m' h1 h2 => ?_⟩
  cases i with
  | zero =>
    simp at h1 h2
    subst h1 h2
    exact h
  | succ i => simp at h1
theorem Ents.snoc {e : EntV} {m : Ent} (h : Ents w r es M) (k : EntOk w r e m) : Ents w r (es ++ [e]) (M ++ [m]) := h.app (Ents.one k)
theorem Ents.take (h : Ents w r es M) (k : Nat) : Ents w r (es.take k) (M.take k) := by
  refine ⟨by rw [List.length_take, List.length_take, h.1], fun i e m h1 h2 => ?_⟩
  have hi : i < k := by
    have := (List.getElem?_eq_some_iff.1 h1).1
    rw [List.length_take] at this
    omega
  rw [List.getElem?_take_of_lt hi] at h1 h2
  exact h.2 i e m h1 h2
theorem Ents.drop (h : Ents w r es M) (k : Nat) : Ents w r (es.drop k) (M.drop k) := by
  refine ⟨by rw [List.length_drop, List.length_drop, h.1], fun i e m h1 h2 => ?_⟩
  rw [List.getElem?_drop] at h1 h2
  exact h.2 _ e m h1 h2
theorem Ents.at_ (h : Ents w r es M) {i : Nat} {m : Ent} (hm : M[i]? = some m) : ∃ e, es[i]? = some e ∧ EntOk w r e m := by
  have hi := (List.getElem?_eq_some_iff.1 hm).1
  obtain ⟨e, he⟩ : ∃ e, es[i]? = some e := ⟨_, List.getElem?_eq_getElem (by rw [h.1]; exact hi)⟩
  exact ⟨e, he, h.2 i e m he hm⟩
end
/-- The document's index at block r. -/
def RefX (w : World) (r : Nat) (M : Mod) : Prop :=
  ∃ A n c es, w.heap[r]? = some (.cells #[.slice A n c] 30 (0, 0)) ∧ M.length = n ∧ n ≤ c ∧ c ≤ maxLen ∧ Rd w A (es.flatMap entC) ∧ (∀ ad, A = some ad → ad.block ≠ r) ∧ Ents w r es M
section
variable {w w' : World} {r : Nat} {M : Mod}
theorem RefX.ext (h : RefX w r M) (hx : Ext w w') : RefX w' r M := by
  obtain ⟨A, n, c, es, h1, h2, h3, h4, h5, h6, h7⟩ := h
  exact ⟨A, n, c, es, (Kp.of_ext (L := []) hx).heap h1 (by simp), h2, h3, h4, h5.ext hx, h6, h7.ext hx⟩
theorem RefX.cm (h : RefX w r M) (hx : Cm w w') : RefX w' r M := by
  obtain ⟨A, n, c, es, h1, h2, h3, h4, h5, h6, h7⟩ := h
  exact ⟨A, n, c, es, hx.cells _ _ _ _ h1, h2, h3, h4, hx.rd h5, h6, h7.cm hx⟩
theorem RefX.lt (h : RefX w r M) : r < w.heap.size := by
  obtain ⟨A, n, c, es, h1, _⟩ := h
  exact (Array.getElem?_eq_some_iff.1 h1).1
theorem RefX.new (w : World) : RefX (w.alloc (.cells #[.slice none 0 0] 30)) w.heap.size [] :=
  ⟨none, 0, 0, [], heap_alloc_new w _, rfl, by omega, by simp [maxLen], Rd.nil _ _, by simp, Ents.nil _ _⟩
/-- What a call reads of it, in any later world. -/
theorem RefX.parts (h : RefX w r M) : ∃ A n c es, M.length = n ∧ n ≤ c ∧ c ≤ 9223372036854775807 ∧ es.length = n ∧ Ents w r es M ∧ (∀ w', Ext w w' → w'.heap[r]? = some (.cells #[.slice A n c] 30 (0, 0))) ∧ Rd w A (es.flatMap entC) ∧ (∀ ad, A = some ad → ad.block ≠ r) := by
  obtain ⟨A, n, c, es, h1, h2, h3, h4, h5, h6, h7⟩ := h
  exact ⟨A, n, c, es, h2, h3, by simpa [maxLen] using h4, by rw [h7.1, h2], h7, fun w' hx => (Kp.of_ext (L := []) hx).heap h1 (by simp), h5, h6⟩
end
theorem ent_cells {w : World} {ad : Addr} {es : List EntV} {k : Nat} {e : EntV} (h : Rd w (some ad) (es.flatMap entC)) (hx : es[k]? = some e) :
    w.cell? (ad.add (k * 2)) = some (.string e.key) ∧ w.cell? ⟨(ad.add (k * 2)).block, (ad.add (k * 2)).off + 1, none⟩ = some (.slice e.a e.n e.c) :=
  ⟨row_cell entC_len h k 0 hx rfl, row_field entC_len h k 1 (by decide) hx rfl⟩
theorem lk_next {M : Mod} {k : Nat} {key : ByteArray} {q : Ent} (h : lkM (M.take k) key = none) (hq : M[k]? = some q) : lkM (M.take (k + 1)) key = if q.1 = key then some q.2 else none := by
  unfold lkM at *
  rw [Option.map_eq_none_iff] at h
  rw [take_snoc hq, List.find?_append, h]
  simp only [Option.none_or, List.find?_cons, List.find?_nil]
  by_cases hh : q.1 = key
  · simp [hh]
  · simp [hh]
theorem lk_take {M : Mod} {k : Nat} {key : ByteArray} {a : List Lab} (h : lkM (M.take k) key = some a) : lkM M key = some a := by
  unfold lkM at *
  rw [Option.map_eq_some_iff] at *
  obtain ⟨p, hp, e⟩ := h
  exact ⟨p, by rw [← List.take_append_drop k M, List.find?_append, hp]; rfl, e⟩
set_option maxHeartbeats 2000000 in
theorem rLabels_any (r : Nat) (M : Mod) (key : ByteArray) (w : World) (h : RefX w r M) :
    Calls Try.prog 18 #[.pointer (some ⟨r, 0, none⟩), .string key] w fun e w' => ∃ u, e = .returned (.tuple #[u, .bool (lkM M key).isSome]) ∧ Row labC w' u ((lkM M key).getD []) ∧ Ext w w' := by
  obtain ⟨A, n, c, es, hn, hnc, hc', hes, hents, hfld, hrd, hoff⟩ := h.parts
  have HN := Lib.hid hn
  have HR := Lib.hid hrd
  have HE := Lib.hid hents
  have HES := Lib.hid hes
  have d0 := heap_cell (hfld w (Ext.refl _)) 0
  clear h hn hrd hents hes hoff hfld
  go_enter Try.func18, Try.ntmps18
  go_wp2_with fail
  go_loop [6] (fun i => ∃ k : Nat, k ≤ n ∧ i = .int .i64 (k : Int) ∧ Hid (lkM (M.take k) key = none)) (fun i => n - (intOf i).toNat)
  case atStart => exact ⟨0, by omega, rfl, Lib.hid rfl⟩
  case round =>
    obtain ⟨k, hk, rfl, HF⟩ := hrel
    by_cases hkn : k < n
    · have hkI : (k : Int) < (n : Int) := by omega
      have hkJ : (0 : Int) ≤ (k : Int) := by omega
      obtain ⟨q, hq⟩ : ∃ q, M[k]? = some q := ⟨_, List.getElem?_eq_getElem (by have := HN.out; omega)⟩
      obtain ⟨e, he, hok⟩ := HE.out.at_ hq
      obtain ⟨ad, rfl⟩ : ∃ ad, A = some ad := row_some HR.out entC_len (by decide) (by have := HES.out; omega)
      obtain ⟨c0, c1⟩ := ent_cells HR.out he
      have hnx := lk_next HF.out hq
      obtain ⟨ek, ea, en, ec⟩ := e
      obtain rfl : ek = q.1 := hok.key
      have HRW := Lib.hid hok.row
      obtain ⟨q1, q2⟩ := q
      dsimp only at c0 c1 hnx HRW
      clear hq he hok
      by_cases hd : q1 = key
      · have HI : Hid (lkM M key = some q2) := Lib.hid (lk_take (by rw [hnx, if_pos hd]))
        clear hnx
        subst hd
        go_wp2_with fail
        exact bodyPost_ret (v := .tuple #[.slice ea en ec, .bool true]) (by simp [results, Try.results18, go_sem]) rfl ⟨_, by rw [HI.out]; rfl, by rw [HI.out]; exact HRW.out, Ext.refl _⟩
      · have HI := Lib.hid (hnx.trans (if_neg hd))
        have e1 : (q1.toList == key.toList) = false := by rw [eq_dec]; exact decide_eq_false hd
        clear hnx hd
        go_wp2_with fail
        go_round
        case rel => exact ⟨k + 1, by omega, by go_num, HI⟩
        case measure => simp [intOf]; omega
    · obtain rfl : k = n := by omega
      have HI : Hid (lkM M key = none) := Lib.hid (by have := HF.out; rw [List.take_of_length_le (by rw [HN.out]; exact Nat.le_refl _)] at this; exact this)
      go_wp2_with fail
      exact bodyPost_ret (v := .tuple #[.slice none 0 0, .bool false]) (by simp [results, Try.results18, go_sem]) rfl ⟨_, by rw [HI.out]; rfl, by rw [HI.out]; exact row_nil _, Ext.refl _⟩
theorem size_snoc {M : Mod} {k : Nat} {q : Ent} (hq : M[k]? = some q) : sizeM (M.take (k + 1)) = sizeM (M.take k) + q.2.length := by
  unfold sizeM
  rw [take_snoc hq, List.map_append, List.sum_append]
  simp
theorem size_take (M : Mod) (k : Nat) : sizeM (M.take k) ≤ sizeM M := by
  unfold sizeM
  conv => rhs; rw [← List.take_append_drop k M, List.map_append, List.sum_append]
  omega
def szAt (M : Mod) (k : Nat) : Nat := sizeM (M.take k)
set_option maxHeartbeats 2000000 in
theorem rSize_any (r : Nat) (M : Mod) (w : World) (h : RefX w r M) (hs : sizeM M ≤ 1000000) :
    Calls Try.prog 25 #[.pointer (some ⟨r, 0, none⟩)] w fun e w' => e = .returned (.int .i64 (sizeM M : Int)) ∧ w = w' := by
  obtain ⟨A, n, c, es, hn, hnc, hc', hes, hents, hfld, hrd, hoff⟩ := h.parts
  have HN := Lib.hid hn
  have HR := Lib.hid hrd
  have HE := Lib.hid hents
  have HES := Lib.hid hes
  have HS := Lib.hid hs
  have d0 := heap_cell (hfld w (Ext.refl _)) 0
  clear h hn hrd hents hes hoff hfld hs
  go_enter Try.func25, Try.ntmps25
  go_wp2_with fail
  go_loop [3, 4] (fun s i => ∃ k : Nat, k ≤ n ∧ i = .int .i64 (k : Int) ∧ s = .int .i64 (szAt M k : Int)) (fun _ i => n - (intOf i).toNat)
  case atStart => exact ⟨0, by omega, rfl, rfl⟩
  case round =>
    obtain ⟨k, hk, rfl, rfl⟩ := hrel
    by_cases hkn : k < n
    · have hkI : (k : Int) < (n : Int) := by omega
      have hkJ : (0 : Int) ≤ (k : Int) := by omega
      obtain ⟨q, hq⟩ : ∃ q, M[k]? = some q := ⟨_, List.getElem?_eq_getElem (by have := HN.out; omega)⟩
      obtain ⟨e, he, hok⟩ := HE.out.at_ hq
      obtain ⟨ad, rfl⟩ : ∃ ad, A = some ad := row_some HR.out entC_len (by decide) (by have := HES.out; omega)
      obtain ⟨c0, c1⟩ := ent_cells HR.out he
      have hnx : szAt M (k + 1) = szAt M k + q.2.length := size_snoc hq
      have hle : szAt M (k + 1) ≤ 1000000 := Nat.le_trans (size_take M (k + 1)) HS.out
      obtain ⟨ek, ea, en, ec⟩ := e
      obtain ⟨_, _, _, hr1, hr2, _, _, _⟩ := hok.row
      injection hr1 with _ hr1 _
      subst hr1
      dsimp only at c0 c1 hr2
      rw [hr2] at hnx
      have hb : szAt M k + en ≤ 1000000 := by omega
      have HNX := Lib.hid hnx
      clear hq he hok hnx hle hr2
      go_wp2_with fail
      go_round
      case rel => exact ⟨k + 1, by omega, by go_num, by rw [HNX.out]; go_num⟩
      case measure => simp [intOf]; omega
    · obtain rfl : k = n := by omega
      have HI : Hid (szAt M k = sizeM M) := Lib.hid (by unfold szAt; rw [List.take_of_length_le (by rw [HN.out]; exact Nat.le_refl _)])
      go_wp2_with fail
      go_ret
      exact ⟨by rw [← HI.out]; rfl, rfl⟩
set_option maxHeartbeats 2000000 in
theorem rKeys_any (r : Nat) (M : Mod) (w : World) (h : RefX w r M) (hl : M.length ≤ 100000) :
    Calls Try.prog 23 #[.pointer (some ⟨r, 0, none⟩)] w fun e w' => ∃ u, e = .returned u ∧ Txt w' u (keysM M) ∧ Ext w w' := by
  obtain ⟨A, n, c, es, hn, hnc, hc', hes, hents, hfld, hrd, hoff⟩ := h.parts
  have HN := Lib.hid hn
  have HR := Lib.hid hrd
  have HE := Lib.hid hents
  have HES := Lib.hid hes
  have HFD := Lib.hid hfld
  have hn1 : n ≤ 100000 := by rw [← hn]; exact hl
  have d0 := heap_cell (hfld w (Ext.refl _)) 0
  clear h hn hrd hents hes hoff hfld
  go_enter Try.func23, Try.ntmps23
  go_wp2_with fail
  go_loopw [3, 4] (fun o i wr => ∃ k : Nat, k ≤ n ∧ i = .int .i64 (k : Int) ∧ Own w wr o (keysM (M.take k)) ∧ Ext w wr) (fun _ i _ => n - (intOf i).toNat)
  case atStart => exact ⟨0, by omega, rfl, World.ownsRow_nil _ _ _ _, Ext.refl _⟩
  case round =>
    obtain ⟨k, hk, rfl, hown, hx⟩ := hrel
    have HO := Lib.hid hown
    have HX := Lib.hid hx
    clear hown hx d0
    have d0 := heap_cell (HFD.out wr HX.out) 0
    by_cases hkn : k < n
    · have hkI : (k : Int) < (n : Int) := by omega
      have hkJ : (0 : Int) ≤ (k : Int) := by omega
      obtain ⟨q, hq⟩ : ∃ q, M[k]? = some q := ⟨_, List.getElem?_eq_getElem (by have := HN.out; omega)⟩
      obtain ⟨e, he, hok⟩ := HE.out.at_ hq
      obtain ⟨ad, rfl⟩ : ∃ ad, A = some ad := row_some HR.out entC_len (by decide) (by have := HES.out; omega)
      obtain ⟨c0, c1⟩ := ent_cells (HR.out.ext HX.out) he
      have HST : Hid (keysM (M.take (k + 1)) = keysM (M.take k) ++ [q.1]) := Lib.hid (by unfold keysM; rw [take_snoc hq, List.map_append]; rfl)
      have HKL : Hid ((keysM (M.take k)).length = k) := Lib.hid (by rw [len_keys, List.length_take, HN.out]; omega)
      obtain ⟨ek, ea, en, ec⟩ := e
      obtain rfl : ek = q.1 := hok.key
      obtain ⟨q1, q2⟩ := q
      dsimp only at c0 c1 HST
      clear hq he hok
      have hx6 : Ext wr (wr.alloc (.cells #[.string q1] 9)) := Ext.alloc _ _
      go_wp2_with (first
        | (at_builtin
           refine app_strs _ rfl (.tmp 14) (.tmp 23) rfl w _ (keysM (M.take k)) rfl (by exact own_later HO.out hx6) (some ⟨wr.heap.size, 0, none⟩) 1 1 [q1] rfl rfl (Rd.new wr #[.string q1] 9) (by rw [HKL.out]; simp; omega) (by exact HX.out.trans hx6) ?_
           intro v7 w7 hown7 hext7))
      go_roundw
      case rel => exact ⟨k + 1, by omega, by go_num, by rw [HST.out]; exact hown7, hext7⟩
      case measure => simp [intOf]; omega
    · obtain rfl : k = n := by omega
      have HI : Hid (M.take k = M) := Lib.hid (List.take_of_length_le (by rw [HN.out]; exact Nat.le_refl _))
      go_wp2_with fail
      go_ret
      exact ⟨_, rfl, by have := txt_own HO.out; rw [HI.out] at this; exact this, HX.out⟩
end Go.Proofs.Ytebcjpapmjebgaa
