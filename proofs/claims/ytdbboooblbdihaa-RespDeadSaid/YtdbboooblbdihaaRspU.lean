/- The plain law of replies: items there and back. -/
import Derived.Test.YtdbboooblbdihaaRspL
import Derived.Test.YtdbboooblbdihaaRspK
namespace Go.Proofs.Ytdbboooblbdihaa
open Go.RowKit
set_option linter.unusedVariables false
set_option linter.unusedSectionVars false
set_option linter.unusedSimpArgs false
set_option maxRecDepth 100000

theorem bad3 {α : Type} {A : α → List UInt8 → Prop} {B : Int → Prop} : (∀ x l', (Pr.er 3 : Pr α) = .ok x l' → A x l') ∧ (∀ c, c ≠ 3 → (Pr.er 3 : Pr α) = .er c → B c) := ⟨fun _ _ h => (by cases h), fun c hc h => (by injection h with h; exact absurd h.symm hc)⟩
theorem pre_text : ∀ (out : List UInt8), PreP (textG out) := by
  intro out l m
  induction l generalizing out with
  | nil => exact bad3
  | cons c t ih =>
    rw [List.cons_append, textG_cons, textG_cons]
    by_cases hp : plainB c
    · rw [if_pos hp, if_pos hp]
      by_cases hk : out.length < 128
      · rw [if_pos hk, if_pos hk]; exact ih _
      · rw [if_neg hk, if_neg hk]; exact PreP.fail (α := ByteArray) 4 [] m
    · rw [if_neg hp, if_neg hp]
      exact PreP.bind pre_end (fun _ => PreP.ret (bsv out)) (c :: t) m
theorem pre_minus : PreP minusP := by
  intro l m
  cases l with
  | nil => exact bad3
  | cons c t =>
    rw [List.cons_append, minusP_cons, minusP_cons]
    by_cases hc : c = 45
    · rw [if_pos hc, if_pos hc]; exact PreP.ret true t m
    · rw [if_neg hc, if_neg hc]; exact PreP.ret false (c :: t) m
theorem pre_whole : PreP wholeP :=
  PreP.bind pre_minus fun m => PreP.bind (pre_num 19 m 0 false 0) fun n => pre_ite (PreP.fail 4) (PreP.bind pre_end fun _ => PreP.ret n)
theorem pre_bulk : PreP bulkP :=
  PreP.bind (pre_num 9 false 0 false 0) fun n => pre_ite (PreP.bind pre_end fun _ => PreP.bind (pre_bytes n.toNat) fun s => PreP.ret (⟨4, 0, s⟩ : Itm)) (PreP.fail 4)
theorem pre_itemK (c : UInt8) : PreP (itemK c) :=
  pre_ite (PreP.bind (pre_text []) fun s => PreP.ret (⟨1, 0, s⟩ : Itm)) (pre_ite (PreP.bind (pre_text []) fun s => PreP.ret (⟨2, 0, s⟩ : Itm)) (pre_ite (PreP.bind pre_whole fun n => PreP.ret (⟨3, n, ⟨#[]⟩⟩ : Itm))
    (pre_ite (PreP.bind (pre_num 9 false 0 false 0) fun n => pre_ite (PreP.bind pre_end fun _ => PreP.ret (⟨6, n, ⟨#[]⟩⟩ : Itm)) (PreP.fail 4))
      (pre_ite (PreP.bind pre_minus fun m => pre_ite (PreP.bind (pre_exp 49) fun _ => PreP.bind pre_end fun _ => PreP.ret (⟨5, 0, ⟨#[]⟩⟩ : Itm)) pre_bulk) (PreP.fail 4)))))
theorem pre_item : PreP itemP := by
  intro l m
  cases l with
  | nil => exact bad3
  | cons c t => exact pre_itemK c t m
theorem pre_dec0 : ∀ (n : Nat) (out : List Itm) (W : Nat) (l m : List UInt8), l.length ≤ n → (∀ x l', decA out W l = .ok x l' → decA out W (l ++ m) = .ok x (l' ++ m)) ∧ (∀ c, c ≠ 3 → decA out W l = .er c → decA out W (l ++ m) = .er c) := by
  intro n
  induction n with
  | zero =>
    intro out W l m hn
    obtain rfl : l = [] := List.eq_nil_of_length_eq_zero (by omega)
    by_cases hW : W = 0
    · subst hW
      rw [decA_0, decA_0]
      exact PreP.ret out [] m
    · rw [decA_er (c := 3) hW rfl]
      exact bad3
  | succ n ih =>
    intro out W l m hn
    by_cases hW : W = 0
    · subst hW
      rw [decA_0, decA_0]
      exact PreP.ret out l m
    · cases hc : itemP l with
      | er c =>
        rw [decA_er hW hc]
        by_cases h3 : c = 3
        · subst h3
          exact bad3
        · rw [decA_er hW ((pre_item l m).2 c h3 hc)]
          exact PreP.fail (α := List Itm) c [] m
      | ok x l2 =>
        have := (item_len hc).1
        rw [decA_ok hW hc, decA_ok hW ((pre_item l m).1 x l2 hc)]
        exact ih _ _ l2 m (by omega)
theorem pre_dec : PreP decP := fun l m => pre_dec0 _ [] 1 l m (Nat.le_refl _)

/-! ### there -/
theorem text_fwd : ∀ (s out l : List UInt8), (∀ c ∈ s, plainB c) → out.length + s.length ≤ 128 → textG out (s ++ crlf ++ l) = .ok (bsv (out ++ s)) l := by
  intro s
  induction s with
  | nil =>
    intro out l _ _
    show textG out (13 :: 10 :: l) = _
    rw [textG_cons, if_neg (by decide), show (13 : UInt8) :: 10 :: l = crlf ++ l from rfl, end_fwd, bind_eq, List.append_nil]
  | cons c t ih =>
    intro out l hp hl
    rw [List.length_cons] at hl
    rw [List.cons_append, List.cons_append, textG_cons, if_pos (hp c (by simp)), if_pos (by omega), ih _ _ (fun d hd => hp d (by simp [hd])) (by rw [List.length_append, List.length_singleton]; omega)]
    simp
theorem digs_head (M : Nat) : ∃ c t, digs M = c :: t ∧ dig c := by
  induction M using Nat.strongRecOn with
  | _ M ih =>
    by_cases h : M < 10
    · exact ⟨_, [], digs_lt h, dchar_dig h⟩
    · obtain ⟨c, t, e, hd⟩ := ih (M / 10) (by omega)
      exact ⟨c, t ++ [UInt8.ofNat (48 + M % 10)], by rw [digs_ge h, e]; rfl, hd⟩
theorem minus_digs (M : Nat) (l : List UInt8) : minusP (digs M ++ l) = .ok false (digs M ++ l) := by
  obtain ⟨c, t, e, hd⟩ := digs_head M
  rw [e, List.cons_append, minusP_cons, if_neg (by rintro rfl; exact absurd hd (by decide))]
theorem whole_fwd {n : Int} (hn : in64 n) (l : List UInt8) : wholeP (decL n ++ crlf ++ l) = .ok n l := by
  have hln : (digs n.natAbs).length ≤ 19 := digs_len19 _ 19 (by unfold in64 at hn; omega) (by decide)
  unfold wholeP decL
  by_cases h : n < 0
  · have e : sgn true n.natAbs = n := by simp [sgn]; omega
    rw [if_pos h, List.cons_append, List.cons_append, minusP_cons, if_pos rfl, bind_eq, List.append_assoc, show crlf ++ l = 13 :: (10 :: l) from rfl, num_ok hln (by rw [e]; exact hn) ndig13, bind_eq, e, if_neg (by rintro ⟨_, h2⟩; omega), show (13 : UInt8) :: 10 :: l = crlf ++ l from rfl, end_fwd, bind_eq]
  · have e : sgn false n.natAbs = n := by simp [sgn]; omega
    rw [if_neg h, List.append_assoc, minus_digs, bind_eq, show crlf ++ l = 13 :: (10 :: l) from rfl, num_ok hln (by rw [e]; exact hn) ndig13, bind_eq, e, if_neg (by rintro ⟨h2, _⟩; cases h2), show (13 : UInt8) :: 10 :: l = crlf ++ l from rfl, end_fwd, bind_eq]
theorem few_fwd {N : Nat} (hN : N < 1000000000) (l : List UInt8) : numG 9 false 0 false 0 (digs N ++ (crlf ++ l)) = .ok (N : Int) (crlf ++ l) := by
  have hl : (digs N).length ≤ 9 := digs_len19 N 9 (by omega) (by decide)
  exact num_ok hl (by unfold in64; simp [sgn]; omega) ndig13
theorem emp_bs {s : ByteArray} (h : s.size = 0) : s = ⟨#[]⟩ := bytes_ext ((List.eq_nil_of_length_eq_zero (by rw [size_list]; exact h)).trans (toList_mk []).symm)
theorem item_fwd {x : Itm} (hr : right1 x) (hx : ItmOk x) (l : List UInt8) : itemP (itL x ++ l) = .ok x l := by
  obtain ⟨k, n, s⟩ := x
  obtain ⟨_, _, hn1, hn2, _⟩ := hx
  have hsl := size_list s
  unfold right1 at hr
  dsimp only at hr hn1 hn2
  by_cases k1 : k = 1
  · subst k1
    have h : n = 0 ∧ (∀ c ∈ s.toList, plainB c) ∧ s.size ≤ 128 := by
      rcases hr with ⟨_, h⟩ | ⟨h, _⟩ | ⟨h, _⟩ | ⟨h, _⟩ | ⟨h, _⟩
      · exact h
      all_goals exact absurd h (by decide)
    obtain ⟨rfl, hp, hz⟩ := h
    rw [itL_1]
    show (textG [] (s.toList ++ crlf ++ l)).bind _ = _
    rw [text_fwd _ _ _ hp (by simp; omega), bind_eq, List.nil_append, bsv_of]
  by_cases k2 : k = 2
  · subst k2
    have h : n = 0 ∧ (∀ c ∈ s.toList, plainB c) ∧ s.size ≤ 128 := by
      rcases hr with ⟨_, h⟩ | ⟨h, _⟩ | ⟨h, _⟩ | ⟨h, _⟩ | ⟨h, _⟩
      · exact h
      all_goals exact absurd h (by decide)
    obtain ⟨rfl, hp, hz⟩ := h
    rw [itL_2]
    show (textG [] (s.toList ++ crlf ++ l)).bind _ = _
    rw [text_fwd _ _ _ hp (by simp; omega), bind_eq, List.nil_append, bsv_of]
  by_cases k3 : k = 3
  · subst k3
    have h : s.size = 0 := by
      rcases hr with ⟨h, _⟩ | ⟨_, h⟩ | ⟨h, _⟩ | ⟨h, _⟩ | ⟨h, _⟩
      · exact absurd h (by decide)
      · exact h
      all_goals exact absurd h (by decide)
    obtain rfl := emp_bs h
    rw [itL_3]
    show (wholeP (decL n ++ crlf ++ l)).bind _ = _
    rw [whole_fwd ⟨hn1, hn2⟩, bind_eq]
  by_cases k4 : k = 4
  · subst k4
    have h : n = 0 ∧ s.size ≤ 512 := by
      rcases hr with ⟨h, _⟩ | ⟨h, _⟩ | ⟨_, h⟩ | ⟨h, _⟩ | ⟨h, _⟩
      · exact absurd h (by decide)
      · exact absurd h (by decide)
      · exact h
      all_goals exact absurd h (by decide)
    obtain ⟨rfl, hz⟩ := h
    rw [itL_4]
    unfold bulkL
    rw [size_list, decL_nat]
    show (minusP (digs s.size ++ crlf ++ (s.toList ++ crlf) ++ l)).bind _ = _
    rw [List.append_assoc, List.append_assoc, minus_digs, bind_eq, if_neg (by simp)]
    unfold bulkP
    rw [few_fwd (by omega), bind_eq, if_pos (by omega), end_fwd, bind_eq, Int.toNat_natCast, bytes_fwd, bind_eq]
  by_cases k5 : k = 5
  · subst k5
    have h : n = 0 ∧ s.size = 0 := by
      rcases hr with ⟨h, _⟩ | ⟨h, _⟩ | ⟨h, _⟩ | ⟨_, h⟩ | ⟨h, _⟩
      · exact absurd h (by decide)
      · exact absurd h (by decide)
      · exact absurd h (by decide)
      · exact h
      · exact absurd h (by decide)
    obtain ⟨rfl, hz⟩ := h
    obtain rfl := emp_bs hz
    rw [itL_5]
    rfl
  have h : k = 6 ∧ s.size = 0 ∧ 0 ≤ n ∧ n ≤ 100000 := by
    rcases hr with ⟨h, _⟩ | ⟨h, _⟩ | ⟨h, _⟩ | ⟨h, _⟩ | h
    · omega
    · omega
    · omega
    · omega
    · exact h
  obtain ⟨rfl, hz, h0, h1⟩ := h
  obtain rfl := emp_bs hz
  obtain ⟨N, rfl⟩ : ∃ N : Nat, n = (N : Int) := ⟨n.toNat, by omega⟩
  rw [itL_o _ _ (by decide) (by decide) (by decide) (by decide) (by decide), decL_nat]
  show (numG 9 false 0 false 0 (digs N ++ crlf ++ l)).bind _ = _
  rw [List.append_assoc, few_fwd (by omega), bind_eq, if_pos h1, end_fwd, bind_eq]
theorem dec_fwd0 : ∀ (xs out : List Itm) (W : Nat) (l : List UInt8), wantA W xs = some 0 → (∀ x ∈ xs, ItmOk x) → decA out W (encL xs ++ l) = .ok (out ++ xs) l := by
  intro xs
  induction xs with
  | nil =>
    intro out W l h _
    injection h with h
    subst h
    rw [decA_0, List.append_nil]
    rfl
  | cons x t ih =>
    intro out W l h hx
    rw [wantA_cons] at h
    by_cases hW : W = 0
    · rw [if_pos hW] at h; cases h
    · rw [if_neg hW] at h
      by_cases hr : right1 x
      · rw [if_pos hr] at h
        show decA out W (itL x ++ encL t ++ l) = _
        rw [List.append_assoc, decA_ok hW (item_fwd hr (hx x (by simp)) _), ih _ _ _ h (fun y hy => hx y (by simp [hy]))]
        simp
      · rw [if_neg hr] at h; cases h
/-- A reply's bytes are decoded as it, whatever stands behind them. -/
theorem dec_fwd {xs : List Itm} (h : rightL xs) (hx : ∀ x ∈ xs, ItmOk x) (l : List UInt8) : decP (encL xs ++ l) = .ok xs l := dec_fwd0 xs [] 1 l h hx
theorem dec_short {xs : List Itm} (h : rightL xs) (hx : ∀ x ∈ xs, ItmOk x) {l m : List UInt8} (he : encL xs = l ++ m) (hm : m ≠ []) : decP l = .er 3 :=
  short_of pre_dec (by have := dec_fwd h hx []; rw [List.append_nil, he] at this; exact this) hm

/-! ### and back -/
theorem text_inv : ∀ (l out : List UInt8) (x : ByteArray) (l' : List UInt8), out.length ≤ 128 → textG out l = .ok x l' → ∃ s, x = bsv (out ++ s) ∧ l = s ++ crlf ++ l' ∧ (∀ c ∈ s, plainB c) ∧ out.length + s.length ≤ 128 := by
  intro l
  induction l with
  | nil => intro out x l' _ h; cases h
  | cons c t ih =>
    intro out x l' ho h
    rw [textG_cons] at h
    by_cases hp : plainB c
    · rw [if_pos hp] at h
      by_cases hk : out.length < 128
      · rw [if_pos hk] at h
        obtain ⟨s, e1, e2, e3, e4⟩ := ih _ _ _ (by rw [List.length_append, List.length_singleton]; omega) h
        rw [List.length_append, List.length_singleton] at e4
        refine ⟨c :: s, by rw [e1]; simp, by rw [e2]; rfl, fun d hd => ?_, by rw [List.length_cons]; omega⟩
        rcases List.mem_cons.1 hd with rfl | hd
        · exact hp
        · exact e3 d hd
      · rw [if_neg hk] at h; cases h
    · rw [if_neg hp] at h
      obtain ⟨a, l1, h1, h⟩ := bind_ok h
      injection h with h2 h3
      have := end_inv h1
      exact ⟨[], by rw [← h2, List.append_nil], by rw [this, h3]; rfl, by simp, by simpa using ho⟩
theorem minus_inv {l l' : List UInt8} {m : Bool} (h : minusP l = .ok m l') : l = if m = true then 45 :: l' else l' := by
  cases l with
  | nil => cases h
  | cons c t =>
    rw [minusP_cons] at h
    by_cases hc : c = 45
    · rw [if_pos hc] at h
      injection h with h1 h2
      subst h1 h2 hc
      rfl
    · rw [if_neg hc] at h
      injection h with h1 h2
      subst h1 h2
      rfl
theorem whole_inv {l l' : List UInt8} {n : Int} (h : wholeP l = .ok n l') : l = decL n ++ crlf ++ l' ∧ in64 n := by
  unfold wholeP at h
  obtain ⟨m, l1, h1, h⟩ := bind_ok h
  obtain ⟨n', l2, h2, h⟩ := bind_ok h
  have e1 := minus_inv h1
  obtain ⟨M, e2, e3, e4, _, _⟩ := num_of h2
  by_cases hm : m = true ∧ 0 ≤ n'
  · rw [if_pos hm] at h; cases h
  · rw [if_neg hm] at h
    obtain ⟨a, l3, h3, h⟩ := bind_ok h
    injection h with h4 h5
    subst h4 h5
    have e5 := end_inv h3
    refine ⟨?_, e4⟩
    rw [e1, e3, e5]
    cases m with
    | true =>
      have hn : n' < 0 := by
        apply Decidable.byContradiction
        intro hh
        exact hm ⟨rfl, by omega⟩
      unfold decL
      rw [if_pos rfl, if_pos hn, e2]
      simp [sgn]
    | false =>
      have hn : ¬ n' < 0 := by rw [e2]; simp [sgn]
      unfold decL
      rw [if_neg (by simp), if_neg hn, e2]
      simp [sgn]
theorem few_inv {l l' : List UInt8} {n : Int} (h : numG 9 false 0 false 0 l = .ok n l') : ∃ N : Nat, n = (N : Int) ∧ l = digs N ++ l' := by
  obtain ⟨M, e1, e2, _⟩ := num_of h
  exact ⟨M, e1, e2⟩
theorem item_inv {l l' : List UInt8} {x : Itm} (h : itemP l = .ok x l') : l = itL x ++ l' ∧ right1 x ∧ ItmOk x := by
  cases l with
  | nil => cases h
  | cons c t =>
    have h : itemK c t = .ok x l' := h
    unfold itemK at h
    by_cases k1 : c = 43
    · rw [if_pos k1] at h
      obtain ⟨a, l1, h1, h⟩ := bind_ok h
      injection h with h2 h3
      obtain ⟨s, e1, e2, e3, e4⟩ := text_inv _ _ _ _ (by decide) h1
      rw [List.nil_append] at e1
      subst h2 h3 e1 k1
      have hz := bsv_size s
      simp at e4
      refine ⟨by rw [itL_1, bsv_list, e2]; rfl, .inl ⟨.inl rfl, rfl, by rw [bsv_list]; exact e3, by rw [hz]; exact e4⟩, ?_⟩
      exact ⟨by show _ ≤ (1 : Int); omega, by show (1 : Int) ≤ _; omega, by show _ ≤ (0 : Int); omega, by show (0 : Int) ≤ _; omega, by show (bsv s).size ≤ _; omega⟩
    rw [if_neg k1] at h
    by_cases k2 : c = 45
    · rw [if_pos k2] at h
      obtain ⟨a, l1, h1, h⟩ := bind_ok h
      injection h with h2 h3
      obtain ⟨s, e1, e2, e3, e4⟩ := text_inv _ _ _ _ (by decide) h1
      rw [List.nil_append] at e1
      subst h2 h3 e1 k2
      have hz := bsv_size s
      simp at e4
      refine ⟨by rw [itL_2, bsv_list, e2]; rfl, .inl ⟨.inr rfl, rfl, by rw [bsv_list]; exact e3, by rw [hz]; exact e4⟩, ?_⟩
      exact ⟨by show _ ≤ (2 : Int); omega, by show (2 : Int) ≤ _; omega, by show _ ≤ (0 : Int); omega, by show (0 : Int) ≤ _; omega, by show (bsv s).size ≤ _; omega⟩
    rw [if_neg k2] at h
    by_cases k3 : c = 58
    · rw [if_pos k3] at h
      obtain ⟨n, l1, h1, h⟩ := bind_ok h
      injection h with h2 h3
      obtain ⟨e1, e2⟩ := whole_inv h1
      subst h2 h3 k3
      refine ⟨by rw [itL_3, e1]; rfl, .inr (.inl ⟨rfl, rfl⟩), ?_⟩
      exact ⟨by show _ ≤ (3 : Int); omega, by show (3 : Int) ≤ _; omega, e2.1, e2.2, by show 0 ≤ _; omega⟩
    rw [if_neg k3] at h
    by_cases k4 : c = 42
    · rw [if_pos k4] at h
      obtain ⟨n, l1, h1, h⟩ := bind_ok h
      obtain ⟨N, rfl, e1⟩ := few_inv h1
      by_cases hn : (N : Int) ≤ 100000
      · rw [if_pos hn] at h
        obtain ⟨a, l2, h2, h⟩ := bind_ok h
        injection h with h3 h4
        have e2 := end_inv h2
        subst h3 h4 k4
        refine ⟨by rw [itL_o _ _ (by decide) (by decide) (by decide) (by decide) (by decide), decL_nat, e1, e2]; simp, .inr (.inr (.inr (.inr ⟨rfl, rfl, by show (0 : Int) ≤ (N : Int); omega, hn⟩))), ?_⟩
        exact ⟨by show _ ≤ (6 : Int); omega, by show (6 : Int) ≤ _; omega, by show _ ≤ (N : Int); omega, by show (N : Int) ≤ _; omega, by show 0 ≤ _; omega⟩
      · rw [if_neg hn] at h; cases h
    rw [if_neg k4] at h
    by_cases k5 : c = 36
    · rw [if_pos k5] at h
      obtain ⟨m, l1, h1, h⟩ := bind_ok h
      have e1 := minus_inv h1
      by_cases hm : m = true
      · rw [if_pos hm] at h
        obtain ⟨a, l2, h2, h⟩ := bind_ok h
        obtain ⟨b, l3, h3, h⟩ := bind_ok h
        injection h with h4 h5
        rw [if_pos hm] at e1
        have e2 := exp_inv h2
        have e3 := end_inv h3
        subst h4 h5 k5
        refine ⟨by rw [itL_5, e1, e2, e3]; rfl, .inr (.inr (.inr (.inl ⟨rfl, rfl, rfl⟩))), ?_⟩
        exact ⟨by show _ ≤ (5 : Int); omega, by show (5 : Int) ≤ _; omega, by show _ ≤ (0 : Int); omega, by show (0 : Int) ≤ _; omega, by show 0 ≤ _; omega⟩
      · rw [if_neg hm] at h e1
        subst e1
        unfold bulkP at h
        obtain ⟨n, l2, h2, h⟩ := bind_ok h
        obtain ⟨N, rfl, e2⟩ := few_inv h2
        by_cases hn : (N : Int) ≤ 512
        · rw [if_pos hn] at h
          obtain ⟨a, l3, h3, h⟩ := bind_ok h
          obtain ⟨s, l4, h4, h⟩ := bind_ok h
          injection h with h5 h6
          have e3 := end_inv h3
          obtain ⟨e4, e5⟩ := bytes_inv h4
          have e4 : s.size = N := e4
          subst h5 h6 k5
          refine ⟨?_, .inr (.inr (.inl ⟨rfl, rfl, by show s.size ≤ 512; omega⟩)), ?_⟩
          · rw [itL_4]
            unfold bulkL
            rw [size_list, e4, decL_nat, e2, e3, e5]
            simp
          · exact ⟨by show _ ≤ (4 : Int); omega, by show (4 : Int) ≤ _; omega, by show _ ≤ (0 : Int); omega, by show (0 : Int) ≤ _; omega, by show s.size ≤ _; omega⟩
        · rw [if_neg hn] at h; cases h
    rw [if_neg k5] at h
    cases h
theorem dec_inv0 : ∀ (n : Nat) (out : List Itm) (W : Nat) (l : List UInt8) (zs : List Itm) (l' : List UInt8), l.length ≤ n → decA out W l = .ok zs l' → ∃ xs, zs = out ++ xs ∧ l = encL xs ++ l' ∧ wantA W xs = some 0 ∧ ∀ x ∈ xs, ItmOk x := by
  intro n
  induction n with
  | zero =>
    intro out W l zs l' hn h
    by_cases hW : W = 0
    · subst hW
      rw [decA_0] at h
      injection h with h1 h2
      exact ⟨[], by rw [List.append_nil]; exact h1.symm, by rw [h2]; rfl, rfl, by simp⟩
    · cases hc : itemP l with
      | er c => rw [decA_er hW hc] at h; cases h
      | ok x l2 => have := (item_len hc).1; omega
  | succ n ih =>
    intro out W l zs l' hn h
    by_cases hW : W = 0
    · subst hW
      rw [decA_0] at h
      injection h with h1 h2
      exact ⟨[], by rw [List.append_nil]; exact h1.symm, by rw [h2]; rfl, rfl, by simp⟩
    · cases hc : itemP l with
      | er c => rw [decA_er hW hc] at h; cases h
      | ok x l2 =>
        have hl := (item_len hc).1
        rw [decA_ok hW hc] at h
        obtain ⟨e1, e2, e3⟩ := item_inv hc
        obtain ⟨xs, h1, h2, h3, h4⟩ := ih _ _ _ _ _ (by omega) h
        refine ⟨x :: xs, by rw [h1]; simp, ?_, by rw [wantA_cons, if_neg hW, if_pos e2, h3], fun y hy => ?_⟩
        · rw [e1, h2]
          show _ = itL x ++ encL xs ++ l'
          rw [List.append_assoc]
        · rcases List.mem_cons.1 hy with rfl | hy
          · exact e3
          · exact h4 y hy
theorem dec_inv {l l' : List UInt8} {xs : List Itm} (h : decP l = .ok xs l') : rightL xs ∧ l = encL xs ++ l' ∧ ∀ x ∈ xs, ItmOk x := by
  obtain ⟨ys, h1, h2, h3, h4⟩ := dec_inv0 _ _ _ _ _ _ (Nat.le_refl _) h
  simp only [List.nil_append] at h1
  subst h1
  exact ⟨h3, h2, h4⟩
theorem itL_pos (x : Itm) : 0 < (itL x).length := by
  unfold itL
  split
  · simp
  split
  · simp
  split
  · simp
  split
  · simp [bulkL]
  split
  · simp
  · simp
theorem encL_count : ∀ (l : List Itm), l.length ≤ (encL l).length := by
  intro l
  induction l with
  | nil => simp
  | cons x t ih =>
    have := itL_pos x
    show _ ≤ (itL x ++ encL t).length
    rw [List.length_append, List.length_cons]
    omega
theorem right_pos {l : List Itm} (h : rightL l) : 0 < l.length := by
  cases l with
  | nil => unfold rightL at h; rw [wantA_nil] at h; injection h with h; cases h
  | cons x t => simp
theorem encL_pos {l : List Itm} (h : rightL l) : 0 < (encL l).length := Nat.lt_of_lt_of_le (right_pos h) (encL_count l)
end Go.Proofs.Ytdbboooblbdihaa
