/- The plain law of terms: words, texts, cuts. -/
import Derived.Test.YtccjbmmhdbainaaIxrG
import Derived.Test.YtccjbmmhdbainaaByt
namespace Go.Proofs.Ytccjbmmhdbainaa
open Go.RowKit Sets
set_option linter.unusedVariables false
set_option linter.unusedSectionVars false
set_option linter.unusedSimpArgs false
set_option maxRecDepth 100000

theorem app_list (a b : ByteArray) : (a ++ b).toList = a.toList ++ b.toList := by
  rw [Lib.toList_data, Lib.toList_data, Lib.toList_data]
  simp
theorem ext_list (s : ByteArray) (i j : Nat) : (s.extract i j).toList = (s.toList.drop i).take (j - i) := by
  rw [Lib.toList_data, Lib.toList_data, ByteArray.data_extract, Array.toList_extract, List.extract_eq_take_drop]
theorem get_list (s : ByteArray) (k : Nat) (h : k < s.size) : s.toList[k]? = some s[k] := by
  have hl : k < s.toList.length := by rw [size_list]; exact h
  rw [List.getElem?_eq_getElem hl]
  congr 1
  simp [Lib.toList_data]
  rfl
theorem empty_list : ByteArray.empty.toList = [] := by rw [Lib.toList_data]; rfl
theorem size_zero {s : ByteArray} (h : s.size = 0) : s.toList = [] := List.eq_nil_of_length_eq_zero (by rw [size_list]; exact h)

/-- A byte of a word. -/
def okC (c : UInt8) : Bool := !(c == 61 || c == 33 || c == 40 || c == 41 || c == 44)
def wordL (l : List UInt8) : Bool := l.all okC && (decide (1 ≤ l.length) && decide (l.length ≤ 64))
def wordB (s : ByteArray) : Bool := wordL s.toList
structure Tm where
  name : ByteArray
  not : Bool
  vals : List ByteArray
def rightT (t : Tm) : Bool := t.vals.all wordB && (wordB t.name && decide (t.vals.length ≤ 16))
theorem all_take {α : Type} {p : α → Bool} {l : List α} {k : Nat} {x : α} (h : (l.take k).all p = true) (hx : l[k]? = some x) : (l.take (k + 1)).all p = p x := by
  rw [take_snoc hx, List.all_append, h, Bool.true_and]
  simp
theorem all_no {α : Type} {p : α → Bool} {l : List α} {k : Nat} {x : α} (hx : l[k]? = some x) (h : p x = false) : l.all p = false := by
  rw [Bool.eq_false_iff]
  intro ha
  rw [List.all_eq_true] at ha
  rw [ha x (List.mem_of_getElem? hx)] at h
  cases h
/-- Texts joined by commas. -/
def joinL : List (List UInt8) → List UInt8
  | [] => []
  | [v] => v
  | v :: w :: t => v ++ 44 :: joinL (w :: t)
theorem joinL_snoc : ∀ (l : List (List UInt8)) (v : List UInt8), joinL (l ++ [v]) = if l.length = 0 then v else joinL l ++ 44 :: v
  | [], v => rfl
  | [a], v => rfl
  | a :: b :: t, v => by
    have ih := joinL_snoc (b :: t) v
    show a ++ 44 :: joinL (b :: t ++ [v]) = _
    rw [ih, if_neg (by simp), if_neg (by simp)]
    show _ = a ++ 44 :: joinL (b :: t) ++ 44 :: v
    simp
def listL (vs : List (List UInt8)) : List UInt8 := if 1 < vs.length then 40 :: (joinL vs ++ [41]) else joinL vs
def txts (vs : List ByteArray) : List (List UInt8) := vs.map ByteArray.toList
def signL (b : Bool) : List UInt8 := if b then [33, 61] else [61]
def bodyL (t : Tm) : List UInt8 := t.name.toList ++ signL t.not ++ listL (txts t.vals)
/-- A term's text. -/
def showL (t : Tm) : List UInt8 := if rightT t then bodyL t else []
def showB (t : Tm) : ByteArray := ⟨(showL t).toArray⟩
theorem showB_list (t : Tm) : (showB t).toList = showL t := toList_mk _
theorem txts_inj {a b : List ByteArray} (h : txts a = txts b) : a = b := by
  unfold txts at h
  have := congrArg (List.map fun l : List UInt8 => (⟨l.toArray⟩ : ByteArray)) h
  rw [List.map_map, List.map_map] at this
  have hf : ((fun l : List UInt8 => (⟨l.toArray⟩ : ByteArray)) ∘ ByteArray.toList) = id := by
    funext s
    exact bytes_mk s
  rw [hf, List.map_id, List.map_id] at this
  exact this
/-- The part ahead of a byte. -/
def headL (c : UInt8) (l : List UInt8) : List UInt8 := l.takeWhile fun x => x != c
theorem headL_at {c : UInt8} {l : List UInt8} {k : Nat} (h : ∀ a ∈ l.take k, a ≠ c) (hk : l[k]? = some c) : headL c l = l.take k := by
  have hs : l = l.take k ++ c :: l.drop (k + 1) := by
    have := List.take_append_drop k l
    rw [List.drop_eq_getElem_cons (List.getElem?_eq_some_iff.1 hk).1, (List.getElem?_eq_some_iff.1 hk).2] at this
    exact this.symm
  unfold headL
  conv => lhs; rw [hs]
  rw [List.takeWhile_append_of_pos (fun a ha => by simpa using h a ha), List.takeWhile_cons_of_neg (by simp), List.append_nil]
theorem headL_no {c : UInt8} {l : List UInt8} (h : ∀ a ∈ l, a ≠ c) : headL c l = l := by
  unfold headL
  have := List.takeWhile_append_of_pos (p := fun x => x != c) (l₁ := l) (l₂ := []) (fun a ha => by simpa using h a ha)
  simpa using this
theorem drop_past {α : Type} (v : List α) (c : α) (t : List α) : (v ++ c :: t).drop (v.length + 1) = t := by
  rw [show v ++ c :: t = (v ++ [c]) ++ t by simp, show v.length + 1 = (v ++ [c]).length by simp, List.drop_left]
theorem take_all {α : Type} {p : α → Bool} : ∀ {l : List α}, ∀ a ∈ l.takeWhile p, p a = true
  | [], a, h => by simp at h
  | b :: l, a, h => by
    cases hc : p b with
    | true =>
      rw [List.takeWhile_cons_of_pos hc] at h
      rcases List.mem_cons.1 h with rfl | h
      · exact hc
      · exact take_all a h
    | false =>
      rw [List.takeWhile_cons_of_neg (by simp [hc])] at h
      simp at h
/-- A text cut at a byte: where, if anywhere. -/
def cutL (c : UInt8) (l : List UInt8) : Option (List UInt8 × List UInt8) := if c ∈ l then some (headL c l, l.drop ((headL c l).length + 1)) else none
theorem cutL_at {c : UInt8} {l : List UInt8} {k : Nat} (h : ∀ a ∈ l.take k, a ≠ c) (hk : l[k]? = some c) : cutL c l = some (l.take k, l.drop (k + 1)) := by
  have hl := (List.getElem?_eq_some_iff.1 hk).1
  unfold cutL
  rw [if_pos (List.mem_of_getElem? hk), headL_at h hk, List.length_take, Nat.min_eq_left (by omega)]
theorem cutL_no {c : UInt8} {l : List UInt8} (h : ∀ a ∈ l, a ≠ c) : cutL c l = none := by
  unfold cutL
  rw [if_neg (fun hm => h c hm rfl)]
theorem cutL_app {c : UInt8} {v t : List UInt8} (h : ∀ a ∈ v, a ≠ c) : cutL c (v ++ c :: t) = some (v, t) := by
  have h2 : (v ++ c :: t)[v.length]? = some c := by rw [List.getElem?_append_right (Nat.le_refl _)]; simp
  rw [cutL_at (k := v.length) (by rw [List.take_left]; exact h) h2, List.take_left]
  congr 2
  exact drop_past v c t
theorem cutL_some {c : UInt8} {l v t : List UInt8} (h : cutL c l = some (v, t)) : l = v ++ c :: t ∧ ∀ a ∈ v, a ≠ c := by
  unfold cutL at h
  split at h
  · rename_i hm
    injection h with h
    injection h with h1 h2
    subst h1 h2
    have hv : ∀ a ∈ headL c l, a ≠ c := fun a ha => by
      have := take_all (p := fun x => x != c) a ha
      simpa using this
    refine ⟨?_, hv⟩
    have hsp := List.takeWhile_append_dropWhile (p := fun x => x != c) (l := l)
    cases hd : l.dropWhile (fun x => x != c) with
    | nil =>
      rw [hd, List.append_nil] at hsp
      exact absurd rfl (hv c (by unfold headL; rw [hsp]; exact hm))
    | cons y r =>
      have hy := drop_head hd
      simp at hy
      subst hy
      rw [hd] at hsp
      have hsp2 : headL y l ++ y :: r = l := hsp
      have e := drop_past (headL y l) y r
      rw [hsp2] at e
      rw [e]
      exact hsp2.symm
  · cases h
/-- A text cut at commas. -/
def splL : List UInt8 → List (List UInt8)
  | [] => [[]]
  | a :: t => if a = 44 then [] :: splL t else match splL t with
    | [] => [[a]]
    | h :: r => (a :: h) :: r
theorem splL_ne : ∀ l : List UInt8, splL l ≠ []
  | [] => by simp [splL]
  | a :: t => by
    unfold splL
    split
    · simp
    · split <;> simp
theorem splL_comma (t : List UInt8) : splL (44 :: t) = [] :: splL t := by
  rw [splL, if_pos rfl]
theorem splL_cons {a : UInt8} {t h : List UInt8} {r : List (List UInt8)} (ha : a ≠ 44) (hs : splL t = h :: r) : splL (a :: t) = (a :: h) :: r := by
  rw [splL, if_neg ha, hs]
theorem splL_none : ∀ l : List UInt8, (∀ a ∈ l, a ≠ 44) → splL l = [l]
  | [], _ => rfl
  | a :: t, h => splL_cons (h a List.mem_cons_self) (splL_none t fun b hb => h b (List.mem_cons_of_mem _ hb))
theorem splL_app : ∀ (v t : List UInt8), (∀ a ∈ v, a ≠ 44) → splL (v ++ 44 :: t) = v :: splL t
  | [], t, _ => splL_comma t
  | a :: v, t, h => splL_cons (h a List.mem_cons_self) (splL_app v t fun b hb => h b (List.mem_cons_of_mem _ hb))
theorem splL_cut {l v t : List UInt8} (h : cutL 44 l = some (v, t)) : splL l = v :: splL t := by
  obtain ⟨h1, h2⟩ := cutL_some h
  rw [h1]
  exact splL_app v t h2
theorem splL_last {l : List UInt8} (h : cutL 44 l = none) : splL l = [l] := by
  refine splL_none l fun a ha e => ?_
  unfold cutL at h
  rw [if_pos (by rw [← e]; exact ha)] at h
  cases h
theorem join_spl : ∀ l : List UInt8, joinL (splL l) = l
  | [] => rfl
  | a :: t => by
    have ih := join_spl t
    cases hs : splL t with
    | nil => exact absurd hs (splL_ne t)
    | cons h r =>
      rw [hs] at ih
      by_cases e : a = 44
      · subst e
        rw [splL_comma, hs]
        show [] ++ 44 :: joinL (h :: r) = _
        rw [ih]
        rfl
      · rw [splL_cons e hs]
        cases r with
        | nil =>
          show a :: h = _
          have ih' : h = t := ih
          rw [ih']
        | cons b r =>
          have ih' : h ++ 44 :: joinL (b :: r) = t := ih
          show a :: h ++ 44 :: joinL (b :: r) = _
          rw [List.cons_append, ih']
theorem spl_join : ∀ vs : List (List UInt8), vs ≠ [] → (∀ v ∈ vs, ∀ a ∈ v, a ≠ 44) → splL (joinL vs) = vs
  | [], h, _ => absurd rfl h
  | [v], _, h => splL_none v (h v List.mem_cons_self)
  | v :: w :: t, _, h => by
    show splL (v ++ 44 :: joinL (w :: t)) = _
    rw [splL_app v _ (h v List.mem_cons_self), spl_join (w :: t) (by simp) fun u hu => h u (List.mem_cons_of_mem _ hu)]
/-- The values of what stands behind a sign. -/
def parenL (l : List UInt8) : Bool := decide (l[0]? = some 40) && decide (l[l.length - 1]? = some 41) && decide (l.length ≠ 1)
def innerL (l : List UInt8) : List (List UInt8) := if l.length = 0 then [] else if parenL l then splL ((l.drop 1).take (l.length - 2)) else [l]
def backs (ls : List (List UInt8)) : List ByteArray := ls.map fun l => ⟨l.toArray⟩
theorem txts_backs (ls : List (List UInt8)) : txts (backs ls) = ls := by
  unfold txts backs
  rw [List.map_map]
  have : (ByteArray.toList ∘ fun l : List UInt8 => (⟨l.toArray⟩ : ByteArray)) = id := by
    funext l
    exact toList_mk l
  rw [this, List.map_id]
def endsN (l : List UInt8) : Bool := decide (l[l.length - 1]? = some 33)
def termL (name rest : List UInt8) : Tm := if endsN name then ⟨⟨(name.take (name.length - 1)).toArray⟩, true, backs (innerL rest)⟩ else ⟨⟨name.toArray⟩, false, backs (innerL rest)⟩
/-- A text's term. -/
def parseL (l : List UInt8) : Option Tm := match cutL 61 l with
  | none => none
  | some (name, rest) => if rightT (termL name rest) then some (termL name rest) else none
def parseB (s : ByteArray) : Option Tm := parseL s.toList
/-- Do labels match? -/
def matchT (t : Tm) (l : List Lab) : Bool := match l.find? fun y => decide (y.1 = t.name) with
  | none => decide (t.vals.length = 0) != t.not
  | some y => if t.vals.length = 0 then t.not else hasB t.vals y.2 != t.not
def sameT (a b : Tm) : Bool := decide (a.name = b.name) && ((a.not == b.not) && decide (a.vals = b.vals))
end Go.Proofs.Ytccjbmmhdbainaa
