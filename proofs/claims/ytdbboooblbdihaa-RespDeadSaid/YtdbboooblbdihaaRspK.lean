/- Decode walked: the closure that reads a reply, try, Decode; Left, Dead. -/
import Derived.Test.YtdbboooblbdihaaRspJ
import Derived.Defers
import Derived.Recover
namespace Go.Proofs.Ytdbboooblbdihaa
open Go.RowKit
set_option linter.unusedVariables false
set_option linter.unusedSectionVars false
set_option linter.unusedSimpArgs false
set_option maxRecDepth 100000


set_option maxHeartbeats 1000000 in
theorem try_dec (caps : Array Value) (L : List Nat) (G : World → Prop) (B : Int → World → Prop) (w : World) (hL : ∀ k ∈ L, k < w.heap.size)
    (hc : ∀ w1, Ext w w1 → w.heap.size < w1.heap.size → Calls Try.prog 42 caps w1 fun e w' => Kp L w1 w' ∧ ((e = .returned (.tuple #[]) ∧ G w') ∨ ∃ c, e = .panicked [flt c] ∧ B c w')) :
    Calls Try.prog 29 #[.func (.func 42) #[] caps] w (TryOut L G B w) := by
  have hmf : ∀ (fn : Fn) (first cap : Array Value) (w : World), (Instr.makeFunc fn first cap).run Try.prog w = .ok (.func fn first cap) w := fun _ _ _ _ => rfl
  have hx := Ext.alloc w (.cells #[.int .i64 0] 41)
  have hb := heap_alloc_new w (.cells #[.int .i64 0] 41 (0, 0))
  have HL := Lib.hid hL
  have hz : w.heap.size < (w.alloc (.cells #[.int .i64 0] 41)).heap.size := by simp
  have HC := Lib.hid (hc _ hx hz)
  go_enter_defers Try.func29, Try.ntmps29
  go_wp2_with fail
  generalize w.alloc (.cells #[.int .i64 0] 41) = w1 at hx hb HC hz ⊢
  obtain ⟨b, hbe⟩ : ∃ b, b = w.heap.size := ⟨_, rfl⟩
  rw [← hbe] at hb hz ⊢
  have HBE := Lib.hid hbe
  have HX := Lib.hid hx
  have HZ := Lib.hid hz
  have HB := Lib.hid hb
  clear hbe hx hz hb hc hL
  refine HC.out.mono ?_
  rintro e w2 ⟨hk, ⟨rfl, hg⟩ | ⟨c, rfl, hB⟩⟩
  · have hb2 := hk.heap HB.out (fun hm => by have := HL.out b hm; have := HBE.out; omega)
    have b0 := heap_cell hb2 0
    have g0 := heap_frozen hb2 0
    have hs := heap_setCell_same w2 b 0 _ 41 (.int .i64 0) hb2
    have HK := Lib.hid hk
    have HGG := Lib.hid hg
    clear hk hg
    go_wp2_with fail
    refine leaves_cons (f := 44) (args := #[.pointer (some ⟨b, 0, none⟩)]) (by simp) (by simp [go_sem]) ?_
    refine (catch_idle ⟨b, 0, none⟩ _).mono ?_
    rintro e u' w3 ⟨rfl, rfl, rfl⟩
    have b3 := heap_cell hs 0
    have hfin : TryOut L G B w (.returned (.int .i64 0)) (w2.setCell ⟨b, 0, none⟩ (.int .i64 0)) :=
      ⟨w1, w2, HX.out, HK.out, by rw [← HBE.out]; exact Kp.store b 0 _ (by simp), by rw [← HBE.out]; exact HZ.out, .inl ⟨rfl, HGG.out⟩⟩
    simp only [Leaves, settle]
    refine ⟨_, ?_, hfin⟩
    simp [results, Try.results29, go_sem, b3]
  · have hb2 := hk.heap HB.out (fun hm => by have := HL.out b hm; have := HBE.out; omega)
    refine leaves_cons (f := 44) (args := #[.pointer (some ⟨b, 0, none⟩)]) (by simp) (by simp [go_sem]) ?_
    refine (catch_panicking b (.int .i64 0) c [] w2 hb2).mono ?_
    rintro e u' w3 ⟨rfl, rfl, hk3, hb3⟩
    have b3 := heap_cell hb3 0
    have hfin : TryOut L G B w (.returned (.int .i64 c)) w3 := ⟨w1, w2, HX.out, hk, by rw [← HBE.out]; exact hk3, by rw [← HBE.out]; exact HZ.out, .inr ⟨c, rfl, hB⟩⟩
    simp only [Leaves, settle]
    refine ⟨_, ?_, hfin⟩
    simp [results, Try.results29, go_sem, b3]

theorem exp_len2 {α : Type} {x : Pr α} {l : List UInt8} (h : ∀ a l', x = .ok a l' → l'.length ≤ l.length) : True := trivial
theorem text_len : ∀ (l out : List UInt8) (x : ByteArray) (l' : List UInt8), textG out l = .ok x l' → l'.length ≤ l.length := by
  intro l
  induction l with
  | nil => intro out x l' h; cases h
  | cons c t ih =>
    intro out x l' h
    rw [textG_cons] at h
    by_cases hp : plainB c
    · rw [if_pos hp] at h
      by_cases hk : out.length < 128
      · rw [if_pos hk] at h
        have := ih _ _ _ h
        rw [List.length_cons]
        omega
      · rw [if_neg hk] at h; cases h
    · rw [if_neg hp] at h
      obtain ⟨a, l1, h1, h⟩ := bind_ok h
      injection h with _ h
      have := end_len h1
      rw [← h]
      omega
theorem minus_len {l l' : List UInt8} {m : Bool} (h : minusP l = .ok m l') : l'.length ≤ l.length := by
  cases l with
  | nil => cases h
  | cons c t =>
    rw [minusP_cons] at h
    by_cases hc : c = 45
    · rw [if_pos hc] at h; injection h with _ h; rw [← h, List.length_cons]; omega
    · rw [if_neg hc] at h; injection h with _ h; rw [← h]; exact Nat.le_refl _
theorem whole_len {l l' : List UInt8} {n : Int} (h : wholeP l = .ok n l') : l'.length ≤ l.length := by
  unfold wholeP at h
  obtain ⟨m, l1, h1, h⟩ := bind_ok h
  obtain ⟨n', l2, h2, h⟩ := bind_ok h
  have e1 := minus_len h1
  have e2 := num_len _ _ _ _ _ _ _ _ h2
  by_cases hm : m = true ∧ 0 ≤ n'
  · rw [if_pos hm] at h; cases h
  · rw [if_neg hm] at h
    obtain ⟨a, l3, h3, h⟩ := bind_ok h
    injection h with _ h
    have e3 := end_len h3
    rw [← h]
    omega
theorem bulkP_len {l l' : List UInt8} {x : Itm} (h : bulkP l = .ok x l') : l'.length ≤ l.length ∧ x.kind = 4 := by
  unfold bulkP at h
  obtain ⟨n, l1, h1, h⟩ := bind_ok h
  have e1 := num_len _ _ _ _ _ _ _ _ h1
  by_cases hn : n ≤ 512
  · rw [if_pos hn] at h
    obtain ⟨a, l2, h2, h⟩ := bind_ok h
    obtain ⟨s, l3, h3, h⟩ := bind_ok h
    have e2 := end_len h2
    have e3 := (bytes_len h3).1
    injection h with h4 h5
    rw [← h5, ← h4]
    exact ⟨by omega, rfl⟩
  · rw [if_neg hn] at h; cases h
/-- What is read of an item is shorter; how many a row has. -/
theorem item_len {l l' : List UInt8} {x : Itm} (h : itemP l = .ok x l') : l'.length < l.length ∧ (x.kind = 6 → 0 ≤ x.n ∧ x.n ≤ 100000) := by
  cases l with
  | nil => cases h
  | cons c t =>
    have h : itemK c t = .ok x l' := h
    unfold itemK at h
    rw [List.length_cons]
    by_cases k1 : c = 43
    · rw [if_pos k1] at h
      obtain ⟨a, l1, h1, h⟩ := bind_ok h
      injection h with h2 h3
      have := text_len _ _ _ _ h1
      rw [← h2, ← h3]
      exact ⟨by omega, fun e => by cases e⟩
    rw [if_neg k1] at h
    by_cases k2 : c = 45
    · rw [if_pos k2] at h
      obtain ⟨a, l1, h1, h⟩ := bind_ok h
      injection h with h2 h3
      have := text_len _ _ _ _ h1
      rw [← h2, ← h3]
      exact ⟨by omega, fun e => by cases e⟩
    rw [if_neg k2] at h
    by_cases k3 : c = 58
    · rw [if_pos k3] at h
      obtain ⟨a, l1, h1, h⟩ := bind_ok h
      injection h with h2 h3
      have := whole_len h1
      rw [← h2, ← h3]
      exact ⟨by omega, fun e => by cases e⟩
    rw [if_neg k3] at h
    by_cases k4 : c = 42
    · rw [if_pos k4] at h
      obtain ⟨n, l1, h1, h⟩ := bind_ok h
      have e1 := num_len _ _ _ _ _ _ _ _ h1
      have e0 := (num_range 9 (by decide) t 0 false 0 (by decide) (by decide) (by decide) n l1 h1).1
      by_cases hn : n ≤ 100000
      · rw [if_pos hn] at h
        obtain ⟨a, l2, h2, h⟩ := bind_ok h
        injection h with h3 h4
        have e2 := end_len h2
        rw [← h3, ← h4]
        exact ⟨by omega, fun _ => ⟨e0, hn⟩⟩
      · rw [if_neg hn] at h; cases h
    rw [if_neg k4] at h
    by_cases k5 : c = 36
    · rw [if_pos k5] at h
      obtain ⟨m, l1, h1, h⟩ := bind_ok h
      have e1 := minus_len h1
      by_cases hm : m = true
      · rw [if_pos hm] at h
        obtain ⟨a, l2, h2, h⟩ := bind_ok h
        obtain ⟨b, l3, h3, h⟩ := bind_ok h
        injection h with h4 h5
        have e2 := exp_len h2
        have e3 := end_len h3
        rw [← h4, ← h5]
        exact ⟨by omega, fun e => by cases e⟩
      · rw [if_neg hm] at h
        obtain ⟨e2, e3⟩ := bulkP_len h
        exact ⟨by omega, fun e => by rw [e3] at e; cases e⟩
    rw [if_neg k5] at h
    cases h
/-- A reply read: so many items are wanted. -/
def decA (out : List Itm) (want : Nat) (l : List UInt8) : Pr (List Itm) :=
  if want = 0 then .ok out l else
    match h : itemP l with
    | .er c => .er c
    | .ok x l' => decA (out ++ [x]) (want - 1 + if x.kind = 6 then x.n.toNat else 0) l'
termination_by l.length
decreasing_by exact (item_len h).1
theorem decA_0 (out : List Itm) (l : List UInt8) : decA out 0 l = .ok out l := by rw [decA, if_pos rfl]
theorem decA_er {out : List Itm} {want : Nat} {l : List UInt8} {c : Int} (hw : ¬ want = 0) (h : itemP l = .er c) : decA out want l = .er c := by
  rw [decA, if_neg hw]
  split
  · rename_i c' h'; rw [h] at h'; injection h' with h'; rw [h']
  · rename_i h'; rw [h] at h'; cases h'
theorem decA_ok {out : List Itm} {want : Nat} {l l' : List UInt8} {x : Itm} (hw : ¬ want = 0) (h : itemP l = .ok x l') : decA out want l = decA (out ++ [x]) (want - 1 + if x.kind = 6 then x.n.toNat else 0) l' := by
  rw [decA, if_neg hw]
  split
  · rename_i h'; rw [h] at h'; cases h'
  · rename_i x' l2 h'; rw [h] at h'; injection h' with h1 h2; subst h1 h2; rfl
def decP (l : List UInt8) : Pr (List Itm) := decA [] 1 l
theorem Try.itemInfo : (Try.prog.info? 47).map (fun i => (i.zero, i.size, i.bytes)) = some (some (.agg #[.int .i64 0, .int .i64 0, .string ByteArray.empty]), 3, 32) := by kernel_rfl
/-- A row of items of the call's own. -/
def OwnI (w0 w : World) (v : Value) (xs : List Itm) : Prop := w.ownsRow w0.heap.size 47 3 v xs.length (xs.flatMap itC)
def DecOut (r vl : Nat) (s : ByteArray) (w : World) (res : Pr (List Itm)) (e : Ending) (w' : World) : Prop :=
  Kp [r, vl] w w' ∧ match res with
    | .ok xs l => e = .returned (.tuple #[]) ∧ Rdr w' r s l ∧ ∃ v, w'.heap[vl]? = some (.cells #[v] 45 (0, 0)) ∧ OwnI w w' v xs
    | .er c => e = .panicked [flt c] ∧ ∃ p, RdrAt w' r s p
set_option maxHeartbeats 4000000 in
theorem dec1_any (r vr vl : Nat) (s : ByteArray) (l : List UInt8) (w : World) (h : Rdr w r s l) (hz : s.size ≤ 1000000000) (hl : l.length ≤ s.size) (hvr : w.heap[vr]? = some (.cells #[.pointer (some ⟨r, 0, none⟩)] 62 (0, 0))) (hvl : w.heap[vl]? = some (.cells #[.slice none 0 0] 45 (0, 0))) :
    Calls Try.prog 42 #[.pointer (some ⟨vr, 0, none⟩), .pointer (some ⟨vl, 0, none⟩)] w (DecOut r vl s w (decP l)) := by
  obtain ⟨i0, hi0, hz0, hz1, hz2⟩ := info_parts Try.itemInfo
  obtain ⟨F, hF⟩ : ∃ F, decP l = F := ⟨_, rfl⟩
  rw [hF]
  have hrw : r < w.heap.size := by obtain ⟨p, h1, _⟩ := h; exact (Array.getElem?_eq_some_iff.1 h1).1
  have hvll := (Array.getElem?_eq_some_iff.1 hvl).1
  have hvrl := (Array.getElem?_eq_some_iff.1 hvr).1
  have hn1 : vr ≠ r := by obtain ⟨p, h1, _⟩ := h; exact blocks_ne hvr h1 (by decide)
  have hn2 : vr ≠ vl := blocks_ne hvr hvl (by decide)
  have hn3 : r ≠ vl := by obtain ⟨p, h1, _⟩ := h; exact blocks_ne h1 hvl (by decide)
  have HF : Hid (decA [] 1 l = F) := Lib.hid hF
  have HVR := Lib.hid hvr
  have HVL := Lib.hid hvl
  have HR := Lib.hid h
  have HNE := Lib.hid (And.intro hn1 (And.intro hn2 (And.intro hn3 (And.intro hrw (And.intro hvll hvrl)))))
  clear hF h hn1 hn2 hn3 hvr hvl hrw hvll hvrl
  go_enter Try.func42, Try.ntmps42
  go_wp2_with fail
  go_loopg [2] (l.length + 1) (fun gk wv wr => ∃ (out : List Itm) (lr : List UInt8) (W : Nat) (v : Value), gk = lr.length + 1 ∧ wv = .int .i64 (W : Int) ∧ Kp [r, vl] w wr ∧ Rdr wr r s lr ∧ wr.heap[vl]? = some (.cells #[v] 45 (0, 0)) ∧ OwnI w wr v out ∧ decA out W lr = F ∧ W ≤ 1 + 100000 * out.length ∧ out.length + lr.length ≤ s.size)
  case atStart => exact ⟨[], l, 1, _, rfl, rfl, Kp.refl _ _, HR.out, HVL.out, World.ownsRow_nil _ _ _ _, HF.out, by simp, by simpa using hl⟩
  case round =>
    clear HR HF HVL
    obtain ⟨out, lr, W, v, hgk, rfl, hkp, hrd, hvl, hown, hdec, hWb, hlen⟩ := hrel
    have HK := Lib.hid hkp
    have HR := Lib.hid hrd
    have HVL := Lib.hid hvl
    have HO := Lib.hid hown
    have HDEC := Lib.hid hdec
    have hvr1 := hkp.heap HVR.out (by simp; exact ⟨HNE.out.1, HNE.out.2.1⟩)
    have HV := Lib.hid hvr1
    clear hkp hrd hvl hown hdec hvr1
    by_cases hW0 : W = 0
    · subst hW0
      have hf : F = .ok out lr := by rw [← HDEC.out, decA_0]
      subst hf
      go_wp2_with fail
      go_end0
      exact ⟨HK.out, rfl, HR.out, v, HVL.out, HO.out⟩
    · have hWI : (0 : Int) < (W : Int) := by omega
      have a0 := heap_cell HV.out 0
      have HIT := Lib.hid (item_any r s lr wr HR.out hz)
      cases hc : itemP lr with
      | er c =>
        have hf : F = .er c := by rw [← HDEC.out, decA_er hW0 hc]
        subst hf
        have HC := Lib.hid hc
        clear hc
        go_wp2_with fail
        refine (rd_er HIT.out HC.out).mono ?_
        rintro e w9 ⟨rfl, hk9, q, hr9⟩
        exact ⟨rfl, HK.out.and (hk9.mono (by simp)), rfl, q, hr9⟩
      | ok x l2 =>
        have hf : decA (out ++ [x]) (W - 1 + if x.kind = 6 then x.n.toNat else 0) l2 = F := by rw [← HDEC.out, decA_ok hW0 hc]
        have HDN := Lib.hid hf
        have hln := item_len hc
        have HC := Lib.hid hc
        clear hc hf HDEC
        go_wp2_with fail
        refine (rd_ok HIT.out HC.out _ rfl).mono ?_
        rintro e w1 ⟨rfl, hk1, hr1⟩
        have HK1 := Lib.hid (HK.out.and (hk1.mono (L' := [r, vl]) (by simp)))
        have HR1 := Lib.hid hr1
        have HVL1 := Lib.hid (hk1.heap HVL.out (by simpa using Ne.symm HNE.out.2.2.1))
        have HV1 := Lib.hid (hk1.heap HV.out (by simpa using HNE.out.1))
        have HO1 : Hid (OwnI w w1 v out) := Lib.hid (row_kp HO.out hk1 (fun k hk => by have := row_new HO.out k hk; have := HNE.out.2.2.2.1; simp; omega))
        clear hk1 hr1 HIT a0 HK HR HVL HV HO
        obtain ⟨kd, xn, xs⟩ := x
        unfold itV
        go_upto_region 4 with fail
        have hxa := Ext.alloc w1 (.cells #[.int .i64 kd, .int .i64 xn, .string xs] 47)
        have hba := heap_alloc_new w1 (.cells #[.int .i64 kd, .int .i64 xn, .string xs] 47 (0, 0))
        obtain ⟨q, hq⟩ : ∃ q, q = w1.heap.size := ⟨_, rfl⟩
        rw [← hq] at hba ⊢
        have HQ : Hid (w.heap.size ≤ q ∧ ∀ k, v.ownBlock = some k → k < q) := Lib.hid ⟨by rw [hq]; exact HK1.out.size, fun k hk => by
          obtain ⟨c1, f1, h1⟩ := own_at HO1.out k hk
          rw [hq]
          exact (Array.getElem?_eq_some_iff.1 h1).1⟩
        generalize w1.alloc (.cells #[.int .i64 kd, .int .i64 xn, .string xs] 47) = w2 at hxa hba ⊢
        have HXA := Lib.hid hxa
        have HBA := Lib.hid hba
        have HVL2 := Lib.hid ((Kp.of_ext (L := []) hxa).heap HVL1.out (by simp))
        have HV2 := Lib.hid ((Kp.of_ext (L := []) hxa).heap HV1.out (by simp))
        have HK2 := Lib.hid (HK1.out.then hxa)
        have HO2 : Hid (OwnI w w2 v out) := Lib.hid (row_kp HO1.out (Kp.of_ext (L := []) hxa) (by simp))
        have HR2 := Lib.hid (HR1.out.ext hxa)
        clear hxa hba hq HK1 HVL1 HV1 HO1 HR1
        have a1 := heap_cell HVL2.out 0
        have d0 := heap_cell HBA.out 0
        have d1 := heap_cell HBA.out 1
        have d2 := heap_cell HBA.out 2
        obtain ⟨A0, c0, rfl⟩ := own_len HO2.out
        go_upto_region 5 with (first
          | (at_builtin
             have HXB := Lib.hid (Ext.alloc w2 (.cells #[.int .i64 kd, .int .i64 xn, .string xs] 47))
             have HOB := Lib.hid (row_kp HO2.out (Kp.of_ext (L := []) HXB.out) (by simp))
             refine wpList_append_rd (P := Try.prog) _ rfl (.tmp 10) (.tmp 12) 45 rfl w.heap.size 47 i0 (.agg #[.int .i64 0, .int .i64 0, .string ByteArray.empty]) 3 32 Try.underlying45 hi0 hz0 hz1 hz2 rfl (by decide) (.slice A0 out.length c0) out.length (out.flatMap itC) rfl (by exact HOB.out) (some ⟨w2.heap.size, 0, none⟩) 1 1 (itC ⟨kd, xn, xs⟩) rfl rfl (by exact Rd.new w2 #[_, _, _] 47) (by intro u hu; simp [itC] at hu; rcases hu with rfl | rfl | rfl <;> rfl) (by simp only [maxLen]; omega) (by omega) (by have := HK2.out.size; have := HXB.out.size; omega) ?_
             intro v8 w8 happ
             obtain ⟨A8, c8, rfl⟩ := own_len happ.own
             have hk8 := ap_kp happ
             have ho8 : OwnI w w8 (.slice A8 (out.length + 1) c8) (out ++ [⟨kd, xn, xs⟩]) := by
               have := happ.own
               unfold OwnI
               rw [List.flatMap_append, List.length_append]
               simpa using this
             have hvb : ∀ k, (Value.slice A0 out.length c0).ownBlock = some k → w.heap.size ≤ k := fun k hk => row_new HO2.out k hk
             have hn : ∀ k, k < w.heap.size → k ∉ (Value.slice A0 out.length c0).ownBlock.toList := fun k hk hm => by have := hvb k (by simpa using hm); omega
             have hk2 : Kp (Value.slice A0 out.length c0).ownBlock.toList w2 w8 := (Kp.of_ext HXB.out).and hk8
             have HVL8 := Lib.hid (hk2.heap HVL2.out (hn vl HNE.out.2.2.2.2.1))
             have HV8 := Lib.hid (hk2.heap HV2.out (hn vr HNE.out.2.2.2.2.2))
             have HR8 := Lib.hid (HR2.out.kp hk2 (hn r HNE.out.2.2.2.1))
             have HK8 := Lib.hid (HK2.out.trans hk2 (fun k hk => .inr (hvb k (by simpa using hk))))
             have HO8 := Lib.hid ho8
             have HBA8 := Lib.hid (hk2.heap HBA.out (fun hm => by have := HQ.out.2 q (by simpa using hm); omega))
             have b0 := heap_cell HVL8.out 0
             have g0 := heap_frozen HVL8.out 0
             clear happ hk8 ho8 hvb hn hk2 a1 d0 d1 d2))
        have HW9 := Lib.hid (heap_setCell_same w8 vl 0 _ 45 (.slice A8 (out.length + 1) c8) HVL8.out)
        have hk9 : Kp [vl] w8 (w8.setCell ⟨vl, 0, none⟩ (.slice A8 (out.length + 1) c8)) := Kp.store vl 0 _ (by simp)
        have HK9 := Lib.hid (HK8.out.and (hk9.mono (L' := [r, vl]) (by simp)))
        have HR9 := Lib.hid (HR8.out.kp hk9 (by simpa using HNE.out.2.2.1))
        have HO9 : Hid (OwnI w _ (.slice A8 (out.length + 1) c8) (out ++ [⟨kd, xn, xs⟩])) := Lib.hid (row_kp HO8.out hk9 (fun k hk => by have := row_new HO8.out k hk; have := HNE.out.2.2.2.2.1; simp; omega))
        have HBA9 := Lib.hid (hk9.heap HBA8.out (by have := HQ.out.1; have := HNE.out.2.2.2.2.1; simp; omega))
        clear hk9 b0 g0 HVL8 HK8 HR8 HO8 HBA8 HV8
        generalize w8.setCell ⟨vl, 0, none⟩ (.slice A8 (out.length + 1) c8) = w9 at HW9 HK9 HR9 HO9 HBA9 ⊢
        have d0 := heap_cell HBA9.out 0
        have d1 := heap_cell HBA9.out 1
        by_cases h6 : kd = 6
        · subst h6
          obtain ⟨n1, n2⟩ := hln.2 rfl
          obtain ⟨N, rfl⟩ : ∃ N : Nat, xn = (N : Int) := ⟨xn.toNat, by omega⟩
          have hdn : decA (out ++ [⟨6, (N : Int), xs⟩]) (W - 1 + N) l2 = F := HDN.out
          have HDM := Lib.hid hdn
          have hlt := hln.1
          have hN : N ≤ 100000 := by omega
          clear hdn HDN n1 n2 hln
          go_wp2_with fail
          go_roundg (l2.length + 1)
          case measure => rw [hgk]; omega
          case rel => exact ⟨out ++ [⟨6, (N : Int), xs⟩], l2, W - 1 + N, _, rfl, by go_num, HK9.out, HR9.out, HW9.out, HO9.out, HDM.out, by rw [List.length_append]; simp; omega, by rw [List.length_append]; simp; omega⟩
        · have h6B : (kd == 6) = false := by simpa using h6
          have hdn : decA (out ++ [⟨kd, xn, xs⟩]) (W - 1) l2 = F := by have := HDN.out; rw [if_neg h6] at this; exact this
          have HDM := Lib.hid hdn
          have hlt := hln.1
          clear hdn HDN hln h6
          go_wp2_with fail
          go_roundg (l2.length + 1)
          case measure => rw [hgk]; omega
          case rel => exact ⟨out ++ [⟨kd, xn, xs⟩], l2, W - 1, _, rfl, by go_num, HK9.out, HR9.out, HW9.out, HO9.out, HDM.out, by rw [List.length_append]; simp; omega, by rw [List.length_append]; simp; omega⟩
theorem left_nil (w : World) : Calls Try.prog 16 #[.pointer none] w fun e w' => e = .returned (.int .i64 0) ∧ w = w' := by
  go_enter Try.func16, Try.ntmps16
  go_wp2_with fail
  go_ret
  exact ⟨rfl, rfl⟩
theorem left_any (p : Nat) (left : ByteArray) (dead : Bool) (w : World) (h : PrsAt w p left dead) : Calls Try.prog 16 #[.pointer (some ⟨p, 0, none⟩)] w fun e w' => e = .returned (.int .i64 (left.size : Int)) ∧ w = w' := by
  have b0 := heap_cell h 0
  go_enter Try.func16, Try.ntmps16
  go_wp2_with fail
  go_ret
  exact ⟨rfl, rfl⟩
theorem dead_nil (w : World) : Calls Try.prog 17 #[.pointer none] w fun e w' => e = .returned (.bool false) ∧ ∃ q, w' = w.drewN q := by
  go_enter Try.func17, Try.ntmps17
  go_wp2_with fail
  go_ret
  exact ⟨rfl, 0, rfl⟩
theorem dead_any (p : Nat) (left : ByteArray) (dead : Bool) (w : World) (h : PrsAt w p left dead) : Calls Try.prog 17 #[.pointer (some ⟨p, 0, none⟩)] w fun e w' => e = .returned (.bool dead) ∧ ∃ q, w' = w.drewN q := by
  have b1 := heap_cell h 1
  go_enter Try.func17, Try.ntmps17
  go_wp2_with fail
  go_ret
  exact ⟨rfl, 0, rfl⟩
/-- What Decode tells. -/
def decR (l : List UInt8) : List Itm × Nat × Int := match decP l with
  | .ok xs l' => (xs, l.length - l'.length, 0)
  | .er c => ([], 0, c)
theorem row_from {w : World} {b b' e size n : Nat} {v : Value} {xs : List Value} (h : w.ownsRow b e size v n xs) (hz : b' ≤ b) : w.ownsRow b' e size v n xs := by
  refine ⟨h.1, ?_⟩
  rcases h.2 with h0 | ⟨g, cap, cur, rfl, hb, hh, r⟩
  · exact .inl h0
  · exact .inr ⟨g, cap, cur, rfl, Nat.le_trans hz hb, hh, r⟩
theorem text_er : ∀ (l out : List UInt8) (c : Int), textG out l = .er c → c = 3 ∨ c = 4 := by
  intro l
  induction l with
  | nil => intro out c h; injection h with h; exact .inl h.symm
  | cons a t ih =>
    intro out c h
    rw [textG_cons] at h
    by_cases hp : plainB a
    · rw [if_pos hp] at h
      by_cases hk : out.length < 128
      · rw [if_pos hk] at h; exact ih _ _ h
      · rw [if_neg hk] at h; injection h with h; exact .inr h.symm
    · rw [if_neg hp] at h
      rcases bind_er h with h | ⟨b, l1, h1, h⟩
      · exact end_er h
      · cases h
theorem minus_er {l : List UInt8} {c : Int} (h : minusP l = .er c) : c = 3 ∨ c = 4 := by
  cases l with
  | nil => injection h with h; exact .inl h.symm
  | cons a t =>
    rw [minusP_cons] at h
    by_cases hc : a = 45
    · rw [if_pos hc] at h; cases h
    · rw [if_neg hc] at h; cases h
theorem er4 {α : Type} {c : Int} (h : (Pr.er 4 : Pr α) = .er c) : c = 3 ∨ c = 4 := by injection h with h; exact .inr h.symm
theorem whole_er {l : List UInt8} {c : Int} (h : wholeP l = .er c) : c = 3 ∨ c = 4 := by
  unfold wholeP at h
  rcases bind_er h with h | ⟨m, l1, h1, h⟩
  · exact minus_er h
  rcases bind_er h with h | ⟨n, l2, h2, h⟩
  · exact num_er _ _ _ _ _ _ _ h
  by_cases hm : m = true ∧ 0 ≤ n
  · rw [if_pos hm] at h; exact er4 h
  · rw [if_neg hm] at h
    rcases bind_er h with h | ⟨b, l3, h3, h⟩
    · exact end_er h
    · cases h
theorem bulkP_er {l : List UInt8} {c : Int} (h : bulkP l = .er c) : c = 3 ∨ c = 4 := by
  unfold bulkP at h
  rcases bind_er h with h | ⟨n, l1, h1, h⟩
  · exact num_er _ _ _ _ _ _ _ h
  by_cases hn : n ≤ 512
  · rw [if_pos hn] at h
    rcases bind_er h with h | ⟨b, l2, h2, h⟩
    · exact end_er h
    rcases bind_er h with h | ⟨x, l3, h3, h⟩
    · unfold bytesP at h
      by_cases hk : l2.length < n.toNat
      · rw [if_pos hk] at h; injection h with h; exact .inl h.symm
      · rw [if_neg hk] at h
        rcases bind_er h with h | ⟨b, l4, h4, h⟩
        · exact end_er h
        · cases h
    · cases h
  · rw [if_neg hn] at h; exact er4 h
theorem item_er {l : List UInt8} {c : Int} (h : itemP l = .er c) : c = 3 ∨ c = 4 := by
  cases l with
  | nil => injection h with h; exact .inl h.symm
  | cons a t =>
    have h : itemK a t = .er c := h
    unfold itemK at h
    by_cases k1 : a = 43
    · rw [if_pos k1] at h
      rcases bind_er h with h | ⟨x, l1, h1, h⟩
      · exact text_er _ _ _ h
      · cases h
    rw [if_neg k1] at h
    by_cases k2 : a = 45
    · rw [if_pos k2] at h
      rcases bind_er h with h | ⟨x, l1, h1, h⟩
      · exact text_er _ _ _ h
      · cases h
    rw [if_neg k2] at h
    by_cases k3 : a = 58
    · rw [if_pos k3] at h
      rcases bind_er h with h | ⟨x, l1, h1, h⟩
      · exact whole_er h
      · cases h
    rw [if_neg k3] at h
    by_cases k4 : a = 42
    · rw [if_pos k4] at h
      rcases bind_er h with h | ⟨n, l1, h1, h⟩
      · exact num_er _ _ _ _ _ _ _ h
      by_cases hn : n ≤ 100000
      · rw [if_pos hn] at h
        rcases bind_er h with h | ⟨b, l2, h2, h⟩
        · exact end_er h
        · cases h
      · rw [if_neg hn] at h; exact er4 h
    rw [if_neg k4] at h
    by_cases k5 : a = 36
    · rw [if_pos k5] at h
      rcases bind_er h with h | ⟨m, l1, h1, h⟩
      · exact minus_er h
      by_cases hm : m = true
      · rw [if_pos hm] at h
        rcases bind_er h with h | ⟨b, l2, h2, h⟩
        · exact (exp_er h)
        rcases bind_er h with h | ⟨b, l3, h3, h⟩
        · exact end_er h
        · cases h
      · rw [if_neg hm] at h; exact bulkP_er h
    rw [if_neg k5] at h
    exact er4 h
theorem decA_er2 : ∀ (n : Nat) (out : List Itm) (want : Nat) (l : List UInt8) (c : Int), l.length ≤ n → decA out want l = .er c → c = 3 ∨ c = 4 := by
  intro n
  induction n with
  | zero =>
    intro out want l c hn h
    by_cases hw : want = 0
    · subst hw; rw [decA_0] at h; cases h
    · cases hc : itemP l with
      | er d => rw [decA_er hw hc] at h; injection h with h; subst h; exact item_er hc
      | ok x l' => have := (item_len hc).1; omega
  | succ n ih =>
    intro out want l c hn h
    by_cases hw : want = 0
    · subst hw; rw [decA_0] at h; cases h
    · cases hc : itemP l with
      | er d => rw [decA_er hw hc] at h; injection h with h; subst h; exact item_er hc
      | ok x l' =>
        have := (item_len hc).1
        rw [decA_ok hw hc] at h
        exact ih _ _ _ _ (by omega) h
theorem dec_er {l : List UInt8} {c : Int} (h : decP l = .er c) : c = 3 ∨ c = 4 := decA_er2 _ _ _ _ _ (Nat.le_refl _) h
set_option maxHeartbeats 2000000 in
theorem decode_any (s : ByteArray) (w : World) (hz : s.size ≤ 1000000000) :
    Calls Try.prog 27 #[.string s] w fun e w' => ∃ v, e = .returned (.tuple #[v, .int .i64 ((decR s.toList).2.1 : Int), .int .i64 (decR s.toList).2.2]) ∧ Row itC w' v (decR s.toList).1 ∧ Ext w w' := by
  obtain ⟨T, hT⟩ : ∃ T, decR s.toList = T := ⟨_, rfl⟩
  rw [hT]
  have HT := Lib.hid hT
  clear hT
  have hmf : ∀ (fn : Fn) (first cap : Array Value) (w : World), (Instr.makeFunc fn first cap).run Try.prog w = .ok (.func fn first cap) w := fun _ _ _ _ => rfl
  have hx1 := Ext.alloc w (.cells #[.string s, .int .i64 0] 64)
  have hb1 := heap_alloc_new w (.cells #[.string s, .int .i64 0] 64 (0, 0))
  have hz1 : (w.alloc (.cells #[.string s, .int .i64 0] 64)).heap.size = w.heap.size + 1 := by simp
  go_enter Try.func27, Try.ntmps27
  go_upto_region 3 with fail
  generalize w.alloc (.cells #[.string s, .int .i64 0] 64) = w1 at hx1 hb1 hz1 ⊢
  have hx2 := Ext.alloc w1 (.cells #[.pointer (some ⟨w.heap.size, 0, none⟩)] 62)
  have hb2 := heap_alloc_new w1 (.cells #[.pointer (some ⟨w.heap.size, 0, none⟩)] 62 (0, 0))
  have hz2 : (w1.alloc (.cells #[.pointer (some ⟨w.heap.size, 0, none⟩)] 62)).heap.size = w.heap.size + 2 := by simp [hz1]
  rw [hz1] at hb2
  generalize w1.alloc (.cells #[.pointer (some ⟨w.heap.size, 0, none⟩)] 62) = w2 at hx2 hb2 hz2 ⊢
  have hx3 := Ext.alloc w2 (.cells #[.slice none 0 0] 45)
  have hb3 := heap_alloc_new w2 (.cells #[.slice none 0 0] 45 (0, 0))
  have hz3 : (w2.alloc (.cells #[.slice none 0 0] 45)).heap.size = w.heap.size + 3 := by simp [hz2]
  rw [hz2] at hb3
  generalize w2.alloc (.cells #[.slice none 0 0] 45) = w3 at hx3 hb3 hz3 ⊢
  have HRD : Hid (Rdr w3 w.heap.size s s.toList) := Lib.hid ⟨0, (Kp.of_ext (L := []) (hx2.trans hx3)).heap hb1 (by simp), by omega, rfl⟩
  have HVR := Lib.hid ((Kp.of_ext (L := []) hx3).heap hb2 (by simp))
  have HVL := Lib.hid hb3
  have HX := Lib.hid (hx1.trans (hx2.trans hx3))
  obtain ⟨r, hr⟩ : ∃ r, r = w.heap.size := ⟨_, rfl⟩
  rw [← hr] at HRD HVR HVL ⊢
  obtain ⟨vr, hvr⟩ : ∃ vr, vr = r + 1 := ⟨_, rfl⟩
  rw [← hvr] at HVR ⊢
  obtain ⟨vl, hvl⟩ : ∃ vl, vl = vr + 1 := ⟨_, rfl⟩
  rw [show r + 2 = vl by omega] at HVL
  rw [← hvl]
  have hL : ∀ k ∈ [r, vl], k < w3.heap.size := by simp; omega
  have HE := Lib.hid (And.intro hr (And.intro hvr (And.intro hvl hz3)))
  have hdec : ∀ w4, Ext w3 w4 → Calls Try.prog 42 #[.pointer (some ⟨vr, 0, none⟩), .pointer (some ⟨vl, 0, none⟩)] w4 (DecOut r vl s w4 (decP s.toList)) := fun w4 hx4 =>
    dec1_any r vr vl s s.toList w4 (HRD.out.ext hx4) hz (by rw [size_list]; exact Nat.le_refl _) ((Kp.of_ext (L := []) hx4).heap HVR.out (by simp)) ((Kp.of_ext (L := []) hx4).heap HVL.out (by simp))
  clear hx1 hb1 hz1 hx2 hb2 hz2 hx3 hb3 hz3 hr hvr hvl
  cases hc : decP s.toList with
  | er c =>
    have htry := try_dec #[.pointer (some ⟨vr, 0, none⟩), .pointer (some ⟨vl, 0, none⟩)] [r, vl] (fun _ => False) (fun c' wz => c' = c) w3 hL (fun w4 hx4 hz4 => by
      refine (hdec w4 hx4).mono ?_
      rw [hc]
      rintro e w5 ⟨hk, rfl, hh⟩
      exact ⟨hk, .inr ⟨c, rfl, rfl⟩⟩)
    have HTRY := Lib.hid htry
    have hR : T = ([], 0, c) := by rw [← HT.out]; unfold decR; rw [hc]
    have h34 := dec_er hc
    have hcB : (c != 0) = true := by simp [bne]; omega
    subst hR
    clear htry hdec hc
    go_wp2_with fail
    refine HTRY.out.mono ?_
    rintro e w6 ⟨w4, w5, hx4, hk5, hk6, hlt, ⟨rfl, hG⟩ | ⟨c', rfl, rfl⟩⟩
    · exact hG.elim
    have HX6 : Hid (Ext w w6) := Lib.hid (hk6.to_ext (hk5.to_ext (HX.out.trans hx4) (by have := HE.out; simp; omega)) (by have := HX.out.size; simp; omega))
    clear hx4 hk5 hk6 hlt
    go_wp2_with fail
    go_ret3
    exact ⟨_, rfl, ⟨none, 0, 0, rfl, rfl, by omega, by simp [maxLen], Rd.nil _ _⟩, HX6.out⟩
  | ok xs l2 =>
    have htry := try_dec #[.pointer (some ⟨vr, 0, none⟩), .pointer (some ⟨vl, 0, none⟩)] [r, vl] (fun wz => Rdr wz r s l2 ∧ ∃ v, wz.heap[vl]? = some (.cells #[v] 45 (0, 0)) ∧ OwnI w wz v xs ∧ ∀ k, v.ownBlock = some k → w3.heap.size < k) (fun _ _ => False) w3 hL (fun w4 hx4 hz4 => by
      refine (hdec w4 hx4).mono ?_
      rw [hc]
      rintro e w5 ⟨hk, rfl, hr, v, hv, ho⟩
      exact ⟨hk, .inl ⟨rfl, hr, v, hv, row_from ho (Nat.le_trans HX.out.size hx4.size), fun k hk => by have := row_new ho k hk; omega⟩⟩)
    have HTRY := Lib.hid htry
    have hR : T = (xs, s.size - l2.length, 0) := by rw [← HT.out]; unfold decR; rw [hc, size_list]
    subst hR
    clear htry hdec hc
    go_wp2_with fail
    refine HTRY.out.mono ?_
    rintro e w6 ⟨w4, w5, hx4, hk5, hk6, hlt, ⟨rfl, hr5, v5, hv5, ho5, hnb5⟩ | ⟨c', rfl, hB⟩⟩
    rotate_left
    · exact hB.elim
    have HX6 : Hid (Ext w w6) := Lib.hid (hk6.to_ext (hk5.to_ext (HX.out.trans hx4) (by have := HE.out; simp; omega)) (by have := HX.out.size; simp; omega))
    have hn6 : vr ∉ [r, vl] := by have := HE.out; simp; omega
    have hn7 : ∀ k, k < w3.heap.size → k ∉ [w3.heap.size] := fun k hk => by simp; omega
    have HV6 := Lib.hid (hk6.heap (hk5.heap ((Kp.of_ext (L := []) hx4).heap HVR.out (by simp)) hn6) (hn7 _ (by have := HE.out; omega)))
    have HVL6 := Lib.hid (hk6.heap hv5 (hn7 _ (by have := HE.out; omega)))
    have HR6 : Hid (Rdr w6 r s l2) := Lib.hid (hr5.kp hk6 (hn7 _ (by have := HE.out; omega)))
    have HO6 : Hid (OwnI w w6 v5 xs) := Lib.hid (row_kp ho5 hk6 (fun k hb hm => by have := hnb5 k hb; simp at hm; omega))
    clear hx4 hk5 hk6 hlt hr5 hv5 ho5 hnb5 hn6 hn7
    obtain ⟨q, hq, hqs, hqd⟩ := HR6.out
    have a0 := heap_cell HV6.out 0
    have b0 := heap_cell HVL6.out 0
    obtain ⟨c0, c1⟩ := hq.cells
    have hqe := congrArg List.length hqd
    rw [List.length_drop, size_list] at hqe
    have HQE := Lib.hid hqe
    clear hq hqd hqe
    obtain ⟨A5, c5, rfl⟩ := own_len HO6.out
    go_wp2_with fail
    go_quiet (fail)
    go_wp2_with fail
    go_ret3
    refine ⟨_, ?_, (own_row HO6.out).ext (Ext.drewN _ _), HX6.out.trans (Ext.drewN _ _)⟩
    rw [show s.size - l2.length = q from by have := HQE.out; omega]
    rfl
end Go.Proofs.Ytdbboooblbdihaa
