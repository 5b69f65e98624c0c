/- Plain facts that the statements of layer 8 come to, and the statements' walks. -/
import Derived.Test.YtafnahmdjmobcaaSetsL
namespace Go.Proofs.Ytafnahmdjmobcaa
open Go.RowKit Sets

theorem mem_pick (a b : List ByteArray) (o : Bool) (x : ByteArray) : x ∈ norm (pickL b o a) ↔ x ∈ a ∧ hasB b x = o := by
  rw [mem_norm, pickL, List.mem_filter]; simp
theorem f_and (a b : List ByteArray) : mk andK a b = norm (pickL b true a) := Sd.ext (sd_mk _ _ _) (sd_norm _) fun x => by
  rw [mem_and, mem_pick, hasB_iff]
theorem f_less (a b : List ByteArray) : mk lessK a b = norm (pickL b false a) := Sd.ext (sd_mk _ _ _) (sd_norm _) fun x => by
  rw [mem_less, mem_pick, ← hasB_iff b x, Bool.not_eq_true]
theorem f_or (a b : List ByteArray) : mk orK a b = norm (a ++ b) := Sd.ext (sd_mk _ _ _) (sd_norm _) fun x => by
  rw [mem_or, mem_norm, List.mem_append]
theorem hasB_mk_and (a b : List ByteArray) (s : ByteArray) : hasB (mk andK a b) s = (hasB a s && hasB b s) := by
  rw [Bool.eq_iff_iff, hasB_iff, mem_and, Bool.and_eq_true, hasB_iff, hasB_iff]
theorem hasB_mk_or (a b : List ByteArray) (s : ByteArray) : hasB (mk orK a b) s = (hasB a s || hasB b s) := by
  rw [Bool.eq_iff_iff, hasB_iff, mem_or, Bool.or_eq_true, hasB_iff, hasB_iff]
theorem hasB_mk_less (a b : List ByteArray) (s : ByteArray) : hasB (mk lessK a b) s = (hasB a s && !hasB b s) := by
  rw [Bool.eq_iff_iff, hasB_iff, mem_less, Bool.and_eq_true, hasB_iff, ← hasB_iff b s]; simp
theorem rise_mk (k : Bool → Bool → Bool) (a b : List ByteArray) : rise (mk k a b) = true := (rise_iff _).2 (sd_mk k a b)
theorem rise_norm (a : List ByteArray) : rise (norm a) = true := (rise_iff _).2 (sd_norm a)
theorem hasB_add (a : List ByteArray) (s : ByteArray) : hasB (mk orK a [s]) s = true := by rw [hasB_iff, mem_or]; simp
theorem hasB_del (a : List ByteArray) (s : ByteArray) : hasB (mk lessK a [s]) s = false := by
  rw [← Bool.not_eq_true, hasB_iff, mem_less]; simp

theorem o1 (a b c : List ByteArray) : mk andK a (mk orK b c) = mk orK (mk andK a b) (mk andK a c) := Sd.ext (sd_mk _ _ _) (sd_mk _ _ _) fun x => by
  simp only [mem_and, mem_or]
  constructor
  · rintro ⟨h, h' | h'⟩
    · exact .inl ⟨h, h'⟩
    · exact .inr ⟨h, h'⟩
  · rintro (⟨h, h'⟩ | ⟨h, h'⟩)
    · exact ⟨h, .inl h'⟩
    · exact ⟨h, .inr h'⟩
theorem o2 (a b c : List ByteArray) : mk lessK a (mk orK b c) = mk lessK (mk lessK a b) c := Sd.ext (sd_mk _ _ _) (sd_mk _ _ _) fun x => by
  simp only [mem_less, mem_or, not_or, and_assoc]
theorem o3 (a b : List ByteArray) : mk andK a b = mk andK b a := Sd.ext (sd_mk _ _ _) (sd_mk _ _ _) fun x => by
  simp only [mem_and]; exact And.comm
theorem o4 (a b : List ByteArray) : mk orK a b = mk orK b a := Sd.ext (sd_mk _ _ _) (sd_mk _ _ _) fun x => by
  simp only [mem_or]; exact Or.comm
theorem o5 (a b : List ByteArray) : mk orK (mk andK a b) (mk lessK a b) = norm a := Sd.ext (sd_mk _ _ _) (sd_norm _) fun x => by
  simp only [mem_and, mem_or, mem_less, mem_norm]
  constructor
  · rintro (h | h) <;> exact h.1
  · intro h
    by_cases hb : x ∈ b
    · exact .inl ⟨h, hb⟩
    · exact .inr ⟨h, hb⟩
theorem o6 (a b : List ByteArray) : mk andK (mk andK a b) (mk lessK a b) = [] := Sd.ext (sd_mk _ _ _) Sd.nil fun x => by
  simp only [mem_and, mem_less, List.not_mem_nil, iff_false]
  rintro ⟨⟨_, h⟩, _, h'⟩
  exact h' h

theorem a1 (a : List ByteArray) : norm (norm a) = norm a := norm_of_sd (sd_norm a)
theorem a2 (a : List ByteArray) : rise a = sameB (norm a) a := by
  rw [Bool.eq_iff_iff, rise_iff, sameB, decide_eq_true_iff]
  constructor
  · exact norm_of_sd
  · intro h; rw [← h]; exact sd_norm a
theorem a3 (l : List ByteArray) (s : ByteArray) : mk orK (mk orK l [s]) [s] = mk orK l [s] := Sd.ext (sd_mk _ _ _) (sd_mk _ _ _) fun x => by
  simp only [mem_or, List.mem_singleton, or_assoc, or_self]
theorem a4 (l : List ByteArray) (s : ByteArray) : mk lessK (mk orK l [s]) [s] = mk lessK l [s] := Sd.ext (sd_mk _ _ _) (sd_mk _ _ _) fun x => by
  simp only [mem_or, mem_less, List.mem_singleton]
  constructor
  · rintro ⟨h | h, h'⟩
    · exact ⟨h, h'⟩
    · exact absurd h h'
  · rintro ⟨h, h'⟩
    exact ⟨.inl h, h'⟩

/-! ### Sizes: of sorted lists -/
theorem sd_nodup {l : List ByteArray} (h : Sd l) : l.Nodup := List.Pairwise.imp (fun h => lt_ne h) h
theorem len_split (p : ByteArray → Bool) (l : List ByteArray) : (l.filter p).length + (l.filter fun x => !p x).length = l.length := by
  induction l with
  | nil => rfl
  | cons a l ih =>
    simp only [List.filter_cons]
    cases p a <;> simp <;> omega
theorem sd_filter {l : List ByteArray} (h : Sd l) (p : ByteArray → Bool) : Sd (l.filter p) := List.Pairwise.filter p h
theorem z_and (a b : List ByteArray) : mk andK a b = (norm a).filter (hasB b) := Sd.ext (sd_mk _ _ _) (sd_filter (sd_norm a) _) fun x => by
  rw [mem_and, List.mem_filter, mem_norm, hasB_iff]
theorem z_less (a b : List ByteArray) : mk lessK a b = (norm a).filter (fun x => !hasB b x) := Sd.ext (sd_mk _ _ _) (sd_filter (sd_norm a) _) fun x => by
  rw [mem_less, List.mem_filter, mem_norm, ← hasB_iff b x]; simp
theorem z1 (a b : List ByteArray) : (mk andK a b).length + (mk lessK a b).length = (norm a).length := by
  rw [z_and, z_less, len_split]
theorem z_or (a b : List ByteArray) : (norm a).length = ((mk orK a b).filter (hasB a)).length := by
  congr 1
  refine Sd.ext (sd_norm a) (sd_filter (sd_mk _ _ _) _) fun x => ?_
  rw [mem_norm, List.mem_filter, mem_or, hasB_iff]
  exact ⟨fun h => ⟨.inl h, h⟩, fun h => h.2⟩
theorem z_or' (a b : List ByteArray) : (mk lessK b a).length = ((mk orK a b).filter (fun x => !hasB a x)).length := by
  congr 1
  refine Sd.ext (sd_mk _ _ _) (sd_filter (sd_mk _ _ _) _) fun x => ?_
  rw [mem_less, List.mem_filter, mem_or, ← hasB_iff a x]
  cases hasB a x <;> simp
theorem z2 (a b : List ByteArray) : (norm a).length + (norm b).length = (mk andK a b).length + (mk orK a b).length := by
  have h1 := z1 b a
  have h2 := len_split (hasB a) (mk orK a b)
  rw [← z_or, ← z_or'] at h2
  rw [o3 b a] at h1
  omega
theorem z3 (l : List ByteArray) (s : ByteArray) (h : hasB l s = false) (hs : Sd l) : (mk orK l [s]).length = l.length + 1 := by
  have h1 := z2 l [s]
  have h2 : mk andK l [s] = [] := Sd.ext (sd_mk _ _ _) Sd.nil fun x => by
    rw [mem_and, List.mem_singleton]
    simp only [List.not_mem_nil, iff_false]
    rintro ⟨hx, rfl⟩
    rw [hasB_of hx] at h
    cases h
  have h3 : (norm [s]).length = 1 := rfl
  rw [h2, h3, norm_of_sd hs] at h1
  simp at h1
  omega
theorem m1 (a : List ByteArray) : mk andK a a = norm a := Sd.ext (sd_mk _ _ _) (sd_norm _) fun x => by rw [mem_and, mem_norm, and_self]
theorem m2 (a : List ByteArray) : mk orK a a = norm a := Sd.ext (sd_mk _ _ _) (sd_norm _) fun x => by rw [mem_or, mem_norm, or_self]
theorem m3 (a : List ByteArray) : mk lessK a a = [] := Sd.ext (sd_mk _ _ _) Sd.nil fun x => by rw [mem_less]; simp
theorem m4 (a : List ByteArray) : mk andK a [] = [] := Sd.ext (sd_mk _ _ _) Sd.nil fun x => by rw [mem_and]; simp
theorem m5 (a : List ByteArray) : mk orK a [] = norm a := Sd.ext (sd_mk _ _ _) (sd_norm _) fun x => by rw [mem_or, mem_norm]; simp
theorem m6 (a : List ByteArray) : mk lessK a [] = norm a := Sd.ext (sd_mk _ _ _) (sd_norm _) fun x => by rw [mem_less, mem_norm]; simp
theorem m7 (a : List ByteArray) : mk lessK [] a = [] := Sd.ext (sd_mk _ _ _) Sd.nil fun x => by rw [mem_less]; simp

end Go.Proofs.Ytafnahmdjmobcaa
