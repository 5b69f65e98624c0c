/- The plain law of sorted lists of texts: the order of texts, the list that is made of texts, what is merged of two; no program here. -/
import GoSem.Op.String
import Derived.Lib.Strings
namespace Go.Proofs.Ytdbboooblbdihaa
namespace Sets

/-- One text is below another one, byte by byte. -/
def ltB (a b : ByteArray) : Bool := Op.bytesLess a.toList b.toList

theorem less_eq : ∀ (x y : List UInt8), Op.bytesLess x y = decide (x < y)
  | [], [] => by simp [Op.bytesLess]
  | _ :: _, [] => by simp [Op.bytesLess]
  | [], _ :: _ => by simp [Op.bytesLess]
  | a :: x, b :: y => by
    rw [Op.bytesLess, less_eq x y]
    simp only [List.cons_lt_cons_iff]
    by_cases h1 : a < b <;> by_cases h2 : a = b <;> by_cases h3 : x < y <;> simp [h1, h2, h3]

theorem text_ext {a b : ByteArray} (h : a.toList = b.toList) : a = b := by
  rw [Lib.toList_data, Lib.toList_data] at h
  cases a; cases b
  simpa using h

theorem lt_iff (a b : ByteArray) : ltB a b = true ↔ a.toList < b.toList := by simp [ltB, less_eq]
theorem lt_irrefl (a : ByteArray) : ltB a a = false := by
  rw [← Bool.not_eq_true, lt_iff]; exact List.lt_irrefl _
theorem lt_trans {a b c : ByteArray} (h : ltB a b = true) (k : ltB b c = true) : ltB a c = true := by
  rw [lt_iff] at *; exact List.lt_trans h k
theorem lt_asymm {a b : ByteArray} (h : ltB a b = true) : ltB b a = false := by
  rw [← Bool.not_eq_true]
  intro k
  have := lt_trans h k
  rw [lt_irrefl] at this
  cases this
theorem lt_ne {a b : ByteArray} (h : ltB a b = true) : a ≠ b := by
  rintro rfl
  rw [lt_irrefl] at h
  cases h
theorem lt_tri {a b : ByteArray} (h : ltB a b = false) (k : ltB b a = false) : a = b := by
  rw [← Bool.not_eq_true, lt_iff] at h k
  exact text_ext (List.le_antisymm (by simpa using k) (by simpa using h))

/-- Sorted: each one is above those ahead of it. -/
def Sd (xs : List ByteArray) : Prop := xs.Pairwise (fun a b => ltB a b = true)

theorem Sd.nil : Sd [] := List.Pairwise.nil
theorem Sd.tail {a : ByteArray} {l : List ByteArray} (h : Sd (a :: l)) : Sd l := (List.pairwise_cons.1 h).2
theorem Sd.head {a : ByteArray} {l : List ByteArray} (h : Sd (a :: l)) : ∀ x ∈ l, ltB a x = true := (List.pairwise_cons.1 h).1
theorem Sd.cons {a : ByteArray} {l : List ByteArray} (h : ∀ x ∈ l, ltB a x = true) (k : Sd l) : Sd (a :: l) := List.pairwise_cons.2 ⟨h, k⟩
theorem Sd.notin {a : ByteArray} {l : List ByteArray} (h : Sd (a :: l)) : a ∉ l := fun hm => lt_ne (h.head a hm) rfl

theorem Sd.ext : ∀ {xs ys : List ByteArray}, Sd xs → Sd ys → (∀ x, x ∈ xs ↔ x ∈ ys) → xs = ys
  | [], [], _, _, _ => rfl
  | [], b :: ys, _, _, h => absurd ((h b).2 (by simp)) (by simp)
  | a :: xs, [], _, _, h => absurd ((h a).1 (by simp)) (by simp)
  | a :: xs, b :: ys, hx, hy, h => by
    have e : a = b := by
      have h1 := (h a).1 (by simp)
      have h2 := (h b).2 (by simp)
      simp only [List.mem_cons] at h1 h2
      rcases h1 with h1 | h1
      · exact h1
      rcases h2 with h2 | h2
      · exact h2.symm
      · have := lt_asymm (hx.head b h2)
        rw [hy.head a h1] at this
        cases this
    subst e
    have ht : ∀ x, x ∈ xs ↔ x ∈ ys := by
      intro x
      constructor
      · intro hm
        have := (h x).1 (by simp [hm])
        simp only [List.mem_cons] at this
        rcases this with rfl | h'
        · exact absurd hm hx.notin
        · exact h'
      · intro hm
        have := (h x).2 (by simp [hm])
        simp only [List.mem_cons] at this
        rcases this with rfl | h'
        · exact absurd hm hy.notin
        · exact h'
    rw [Sd.ext hx.tail hy.tail ht]

/-- Is it sorted, neighbour by neighbour? -/
def rise : List ByteArray → Bool
  | a :: b :: l => ltB a b && rise (b :: l)
  | _ => true

theorem rise_iff : ∀ (xs : List ByteArray), rise xs = true ↔ Sd xs
  | [] => by simp [rise, Sd]
  | [a] => by simp [rise, Sd]
  | a :: b :: l => by
    simp only [rise, Bool.and_eq_true, rise_iff (b :: l)]
    constructor
    · rintro ⟨h1, h2⟩
      refine Sd.cons (fun x hx => ?_) h2
      simp only [List.mem_cons] at hx
      rcases hx with rfl | hx
      · exact h1
      · exact lt_trans h1 (h2.head x hx)
    · intro h
      exact ⟨h.head b (by simp), h.tail⟩

theorem rise_of_index : ∀ (xs : List ByteArray), (∀ j, j + 1 < xs.length → ltB (xs.getD j ByteArray.empty) (xs.getD (j + 1) ByteArray.empty) = true) → rise xs = true
  | [], _ => rfl
  | [a], _ => rfl
  | a :: b :: l, h => by
    simp only [rise, Bool.and_eq_true]
    refine ⟨by have := h 0 (by simp); simpa using this, rise_of_index (b :: l) fun j hj => ?_⟩
    have := h (j + 1) (by simp at hj ⊢; omega)
    simpa using this

theorem index_of_rise : ∀ (xs : List ByteArray), rise xs = true → ∀ j, j + 1 < xs.length → ltB (xs.getD j ByteArray.empty) (xs.getD (j + 1) ByteArray.empty) = true
  | [], _, j, hj => by simp at hj
  | [a], _, j, hj => by simp at hj
  | a :: b :: l, h, j, hj => by
    simp only [rise, Bool.and_eq_true] at h
    match j with
    | 0 => simpa using h.1
    | j + 1 => simpa using index_of_rise (b :: l) h.2 j (by simp at hj ⊢; omega)

theorem not_rise (xs : List ByteArray) (j : Nat) (hj : j + 1 < xs.length) (h : ltB (xs.getD j ByteArray.empty) (xs.getD (j + 1) ByteArray.empty) = false) : rise xs = false := by
  rw [← Bool.not_eq_true]
  intro hr
  rw [index_of_rise xs hr j hj] at h
  cases h

/-- A text put into a list: behind those below it, in the place of itself. -/
def addL : List ByteArray → ByteArray → List ByteArray
  | [], s => [s]
  | a :: l, s => if ltB a s then a :: addL l s else s :: (if a = s then l else a :: l)

theorem mem_addL : ∀ (l : List ByteArray) (s x : ByteArray), x ∈ addL l s ↔ x = s ∨ x ∈ l
  | [], s, x => by simp [addL]
  | a :: l, s, x => by
    unfold addL
    split
    · simp only [List.mem_cons, mem_addL l s x]
      constructor
      · rintro (h | h | h) <;> simp [h]
      · rintro (h | h | h) <;> simp [h]
    · split
      · rename_i e
        subst e
        simp
      · simp

theorem sd_addL : ∀ {l : List ByteArray} (s : ByteArray), Sd l → Sd (addL l s)
  | [], s, _ => by simp [addL, Sd]
  | a :: l, s, h => by
    unfold addL
    split
    · rename_i h1
      refine Sd.cons (fun x hx => ?_) (sd_addL s h.tail)
      rcases (mem_addL l s x).1 hx with rfl | hx
      · exact h1
      · exact h.head x hx
    · rename_i h1
      split
      · rename_i e
        subst e
        exact h
      · rename_i h2
        have h3 : ltB s a = true := by
          cases hc : ltB s a with
          | true => rfl
          | false => exact absurd (lt_tri (by simpa using h1) hc) h2
        refine Sd.cons (fun x hx => ?_) h
        simp only [List.mem_cons] at hx
        rcases hx with rfl | hx
        · exact h3
        · exact lt_trans h3 (h.head x hx)

/-- The texts, each once, sorted. -/
def norm (xs : List ByteArray) : List ByteArray := xs.foldl addL []

theorem fold_mem : ∀ (xs acc : List ByteArray) (x : ByteArray), x ∈ xs.foldl addL acc ↔ x ∈ acc ∨ x ∈ xs
  | [], acc, x => by simp
  | a :: xs, acc, x => by
    rw [List.foldl_cons, fold_mem xs, mem_addL]
    simp only [List.mem_cons]
    constructor
    · rintro ((h | h) | h) <;> simp [h]
    · rintro (h | h | h) <;> simp [h]
theorem fold_sd : ∀ (xs : List ByteArray) {acc : List ByteArray}, Sd acc → Sd (xs.foldl addL acc)
  | [], _, h => h
  | a :: xs, _, h => fold_sd xs (sd_addL a h)

theorem mem_norm (xs : List ByteArray) (x : ByteArray) : x ∈ norm xs ↔ x ∈ xs := by simp [norm, fold_mem]
theorem sd_norm (xs : List ByteArray) : Sd (norm xs) := fold_sd xs Sd.nil
theorem norm_of_sd {xs : List ByteArray} (h : Sd xs) : norm xs = xs := Sd.ext (sd_norm xs) h (mem_norm xs)
theorem norm_snoc (xs : List ByteArray) (x : ByteArray) : norm (xs ++ [x]) = addL (norm xs) x := by simp [norm, List.foldl_append]
theorem norm_nil : norm [] = [] := rfl
theorem norm_congr {xs ys : List ByteArray} (h : ∀ x, x ∈ xs ↔ x ∈ ys) : norm xs = norm ys :=
  Sd.ext (sd_norm _) (sd_norm _) fun x => by rw [mem_norm, mem_norm, h]

theorem length_addL_le (l : List ByteArray) (s : ByteArray) : (addL l s).length ≤ l.length + 1 := by
  induction l with
  | nil => simp [addL]
  | cons a l ih =>
    unfold addL
    split
    · simp; exact ih
    · split <;> simp
theorem length_fold_le : ∀ (xs acc : List ByteArray), (xs.foldl addL acc).length ≤ acc.length + xs.length
  | [], acc => by simp
  | a :: xs, acc => by
    have h1 := length_fold_le xs (addL acc a)
    have h2 := length_addL_le acc a
    simp only [List.foldl_cons, List.length_cons]
    omega
theorem length_norm_le (xs : List ByteArray) : (norm xs).length ≤ xs.length := by
  have := length_fold_le xs []
  simpa [norm] using this

/-- Is a text in a list? -/
def hasB : List ByteArray → ByteArray → Bool
  | [], _ => false
  | a :: l, x => decide (a = x) || hasB l x
theorem hasB_iff : ∀ (l : List ByteArray) (x : ByteArray), hasB l x = true ↔ x ∈ l
  | [], x => by simp [hasB]
  | a :: l, x => by
    simp only [hasB, Bool.or_eq_true, decide_eq_true_eq, hasB_iff l x, List.mem_cons]
    constructor
    · rintro (h | h)
      · exact .inl h.symm
      · exact .inr h
    · rintro (h | h)
      · exact .inl h.symm
      · exact .inr h
theorem hasB_of {l : List ByteArray} {x : ByteArray} (h : x ∈ l) : hasB l x = true := (hasB_iff l x).2 h
theorem hasB_not {l : List ByteArray} {x : ByteArray} (h : x ∉ l) : hasB l x = false := by
  rw [← Bool.not_eq_true, hasB_iff]; exact h
theorem hasB_self (l : List ByteArray) (x : ByteArray) : hasB (x :: l) x = true := by simp [hasB]
theorem hasB_ne {l : List ByteArray} {a x : ByteArray} (h : x ≠ a) : hasB (a :: l) x = hasB l x := by
  simp [hasB, Ne.symm h]
theorem hasB_congr {l l' : List ByteArray} {x : ByteArray} (h : x ∈ l ↔ x ∈ l') : hasB l x = hasB l' x := by
  rw [Bool.eq_iff_iff, hasB_iff, hasB_iff, h]
theorem hasB_nil (x : ByteArray) : hasB [] x = false := rfl

/-- Two lists gone over at once; what is kept hangs on whether it is in each. -/
def mergeL (k : Bool → Bool → Bool) : List ByteArray → List ByteArray → List ByteArray
  | [], [] => []
  | a :: as, [] => (if k true false then [a] else []) ++ mergeL k as []
  | [], b :: bs => (if k false true then [b] else []) ++ mergeL k [] bs
  | a :: as, b :: bs =>
    if ltB a b then (if k true false then [a] else []) ++ mergeL k as (b :: bs)
    else if ltB b a then (if k false true then [b] else []) ++ mergeL k (a :: as) bs
    else (if k true true then [b] else []) ++ mergeL k as bs
termination_by a b => a.length + b.length

theorem length_mergeL_le (k : Bool → Bool → Bool) : ∀ (n : Nat) (a b : List ByteArray), a.length + b.length ≤ n → (mergeL k a b).length ≤ a.length + b.length
  | n, [], [], _ => by simp [mergeL]
  | 0, a :: as, _, h => by simp at h
  | 0, _, b :: bs, h => by simp at h
  | n + 1, a :: as, [], h => by
    have := length_mergeL_le k n as [] (by simp at h ⊢; omega)
    rw [mergeL]
    split <;> simp at this ⊢ <;> omega
  | n + 1, [], b :: bs, h => by
    have := length_mergeL_le k n [] bs (by simp at h ⊢; omega)
    rw [mergeL]
    split <;> simp at this ⊢ <;> omega
  | n + 1, a :: as, b :: bs, h => by
    have h1 := length_mergeL_le k n as (b :: bs) (by simp at h ⊢; omega)
    have h2 := length_mergeL_le k n (a :: as) bs (by simp at h ⊢; omega)
    have h3 := length_mergeL_le k n as bs (by simp at h ⊢; omega)
    rw [mergeL]
    repeat' split
    all_goals simp at h1 h2 h3 ⊢
    all_goals omega

/-- What is in the merged list of two sorted ones. -/
theorem mem_mergeL (k : Bool → Bool → Bool) : ∀ (n : Nat) (a b : List ByteArray), a.length + b.length ≤ n → Sd a → Sd b →
    ∀ x, x ∈ mergeL k a b ↔ (x ∈ a ∨ x ∈ b) ∧ k (hasB a x) (hasB b x) = true
  | n, [], [], _, _, _, x => by simp [mergeL]
  | 0, a :: as, _, h, _, _, _ => by simp at h
  | 0, _, b :: bs, h, _, _, _ => by simp at h
  | n + 1, a :: as, [], h, ha, hb, x => by
    have ih := mem_mergeL k n as [] (by simp at h ⊢; omega) ha.tail hb x
    have hn := ha.notin
    rw [mergeL, List.mem_append, ih]
    by_cases e : x = a
    · subst e
      cases hk : k true false <;> simp [hn, hk, hasB_self, hasB_nil]
    · cases hk : k true false <;> simp [e, hasB_ne e]
  | n + 1, [], b :: bs, h, ha, hb, x => by
    have ih := mem_mergeL k n [] bs (by simp at h ⊢; omega) ha hb.tail x
    have hn := hb.notin
    rw [mergeL, List.mem_append, ih]
    by_cases e : x = b
    · subst e
      cases hk : k false true <;> simp [hn, hk, hasB_self, hasB_nil]
    · cases hk : k false true <;> simp [e, hasB_ne e]
  | n + 1, a :: as, b :: bs, h, ha, hb, x => by
    have hna := ha.notin
    have hnb := hb.notin
    rw [mergeL]
    split
    · rename_i h1
      have ih := mem_mergeL k n as (b :: bs) (by simp at h ⊢; omega) ha.tail hb x
      have hab : a ∉ b :: bs := by
        simp only [List.mem_cons, not_or]
        exact ⟨lt_ne h1, fun hm => by have := lt_trans h1 (hb.head a hm); rw [lt_irrefl] at this; cases this⟩
      rw [List.mem_append, ih]
      by_cases e : x = a
      · subst e
        have e3 := hasB_not hab
        cases hk : k true false <;> simp [hna, hab, hk, hasB_self, e3]
      · cases hk : k true false <;> simp [e, hasB_ne e]
    · rename_i h1
      split
      · rename_i h2
        have ih := mem_mergeL k n (a :: as) bs (by simp at h ⊢; omega) ha hb.tail x
        have hba : b ∉ a :: as := by
          simp only [List.mem_cons, not_or]
          exact ⟨lt_ne h2, fun hm => by have := lt_trans h2 (ha.head b hm); rw [lt_irrefl] at this; cases this⟩
        rw [List.mem_append, ih]
        by_cases e : x = b
        · subst e
          have e3 := hasB_not hba
          cases hk : k false true <;> simp [hnb, hba, hk, hasB_self, e3]
        · cases hk : k false true <;> simp [e, hasB_ne e]
      · rename_i h2
        have e1 : a = b := lt_tri (by simpa using h1) (by simpa using h2)
        subst e1
        have ih := mem_mergeL k n as bs (by simp at h ⊢; omega) ha.tail hb.tail x
        rw [List.mem_append, ih]
        by_cases e : x = a
        · subst e
          cases hk : k true true <;> simp [hna, hnb, hk, hasB_self]
        · cases hk : k true true <;> simp [e, hasB_ne e]

theorem sd_app {o : Bool} {a : ByteArray} {l : List ByteArray} (h : ∀ x ∈ l, ltB a x = true) (k : Sd l) : Sd ((if o then [a] else []) ++ l) := by
  cases o
  · simpa using k
  · simpa using Sd.cons h k

theorem sd_mergeL (k : Bool → Bool → Bool) : ∀ (n : Nat) (a b : List ByteArray), a.length + b.length ≤ n → Sd a → Sd b → Sd (mergeL k a b)
  | n, [], [], _, _, _ => by simp [mergeL, Sd]
  | 0, a :: as, _, h, _, _ => by simp at h
  | 0, _, b :: bs, h, _, _ => by simp at h
  | n + 1, a :: as, [], h, ha, hb => by
    rw [mergeL]
    refine sd_app (fun x hx => ?_) (sd_mergeL k n as [] (by simp at h ⊢; omega) ha.tail hb)
    have := ((mem_mergeL k _ as [] (Nat.le_refl _) ha.tail hb x).1 hx).1
    exact ha.head x (by simpa using this)
  | n + 1, [], b :: bs, h, ha, hb => by
    rw [mergeL]
    refine sd_app (fun x hx => ?_) (sd_mergeL k n [] bs (by simp at h ⊢; omega) ha hb.tail)
    have := ((mem_mergeL k _ [] bs (Nat.le_refl _) ha hb.tail x).1 hx).1
    exact hb.head x (by simpa using this)
  | n + 1, a :: as, b :: bs, h, ha, hb => by
    rw [mergeL]
    split
    · rename_i h1
      refine sd_app (fun x hx => ?_) (sd_mergeL k n as (b :: bs) (by simp at h ⊢; omega) ha.tail hb)
      rcases ((mem_mergeL k _ as (b :: bs) (Nat.le_refl _) ha.tail hb x).1 hx).1 with hm | hm
      · exact ha.head x hm
      · simp only [List.mem_cons] at hm
        rcases hm with rfl | hm
        · exact h1
        · exact lt_trans h1 (hb.head x hm)
    · rename_i h1
      split
      · rename_i h2
        refine sd_app (fun x hx => ?_) (sd_mergeL k n (a :: as) bs (by simp at h ⊢; omega) ha hb.tail)
        rcases ((mem_mergeL k _ (a :: as) bs (Nat.le_refl _) ha hb.tail x).1 hx).1 with hm | hm
        · simp only [List.mem_cons] at hm
          rcases hm with rfl | hm
          · exact h2
          · exact lt_trans h2 (ha.head x hm)
        · exact hb.head x hm
      · rename_i h2
        have e1 : a = b := lt_tri (by simpa using h1) (by simpa using h2)
        subst e1
        refine sd_app (fun x hx => ?_) (sd_mergeL k n as bs (by simp at h ⊢; omega) ha.tail hb.tail)
        rcases ((mem_mergeL k _ as bs (Nat.le_refl _) ha.tail hb.tail x).1 hx).1 with hm | hm
        · exact ha.head x hm
        · exact hb.head x hm

/-- What the three make of any two lists. -/
def mk (k : Bool → Bool → Bool) (a b : List ByteArray) : List ByteArray := mergeL k (norm a) (norm b)
def andK : Bool → Bool → Bool := fun x y => x && y
def orK : Bool → Bool → Bool := fun _ _ => true
def lessK : Bool → Bool → Bool := fun x y => x && !y

theorem sd_mk (k : Bool → Bool → Bool) (a b : List ByteArray) : Sd (mk k a b) := sd_mergeL k _ _ _ (Nat.le_refl _) (sd_norm a) (sd_norm b)
theorem mem_mk (k : Bool → Bool → Bool) (a b : List ByteArray) (x : ByteArray) : x ∈ mk k a b ↔ (x ∈ a ∨ x ∈ b) ∧ k (hasB a x) (hasB b x) = true := by
  unfold mk
  rw [mem_mergeL k _ _ _ (Nat.le_refl _) (sd_norm a) (sd_norm b)]
  rw [mem_norm, mem_norm, hasB_congr (mem_norm a x), hasB_congr (mem_norm b x)]
theorem mem_and (a b : List ByteArray) (x : ByteArray) : x ∈ mk andK a b ↔ x ∈ a ∧ x ∈ b := by
  rw [mem_mk]; simp [andK, hasB_iff]; intro h _; exact .inl h
theorem mem_or (a b : List ByteArray) (x : ByteArray) : x ∈ mk orK a b ↔ x ∈ a ∨ x ∈ b := by
  rw [mem_mk]; simp [orK]
theorem mem_less (a b : List ByteArray) (x : ByteArray) : x ∈ mk lessK a b ↔ x ∈ a ∧ x ∉ b := by
  rw [mem_mk]
  by_cases hb : x ∈ b
  · simp [lessK, hasB_of hb, hb]
  · simp [lessK, hasB_not hb, hb, hasB_iff]
theorem length_mk_le (k : Bool → Bool → Bool) (a b : List ByteArray) : (mk k a b).length ≤ a.length + b.length := by
  have h1 := length_mergeL_le k _ (norm a) (norm b) (Nat.le_refl _)
  have h2 := length_norm_le a
  have h3 := length_norm_le b
  unfold mk
  omega
theorem merge_norm (a b : List ByteArray) : mergeL orK (norm a) (norm b) = norm (a ++ b) :=
  Sd.ext (sd_mk orK a b) (sd_norm _) fun x => by
    have := mem_or a b x
    unfold mk at this
    rw [this, mem_norm, List.mem_append]

end Sets
end Go.Proofs.Ytdbboooblbdihaa
