/- Counting in whatever order: plain laws. -/
import Derived.Test.YtnndoajflimkmaaDoorTBars
import Derived.Test.YtnndoajflimkmaaDoorOpen3
namespace Go.Proofs.YtnndoajflimkmaaDoor
open Go Go.RowKit
abbrev Act4 := Int × Int × Int × Int
/-- Is it an Add? -/
def ev (d : Int) : Bool := bits .and .i64 d 1 == 0
def actS (f : Nat → Int) (x : Act4) : Nat → Int := if ev x.1 then addS f x.2.1 x.2.2.2 else noteS f x.2.2.1
/-- What an act makes of the count j. -/
def pw (x : Act4) (j : Nat) (a : Int) : Int :=
  if ev x.1 then (if 0 ≤ x.2.1 ∧ x.2.1 < 9 ∧ 0 < x.2.2.2 ∧ j = x.2.1.toNat then upS a x.2.2.2 else a)
  else if j = 73 then max a x.2.2.1 else if j = 9 + bl x.2.2.1 then upS a 1 else a
theorem actS_pw (f : Nat → Int) (x : Act4) (h : In4 x) (j : Nat) : actS f x j = pw x j (f j) := by
  have hb := bl_lt x.2.2.1 h.2.2.1.2
  unfold actS pw
  cases ev x.1 with
  | true =>
    simp only [if_pos]
    unfold addS
    by_cases hc : 0 ≤ x.2.1 ∧ x.2.1 < 9 ∧ 0 < x.2.2.2
    · rw [if_pos hc]
      by_cases hj : j = x.2.1.toNat
      · rw [if_pos ⟨hc.1, hc.2.1, hc.2.2, hj⟩, hj, put_at]
      · rw [if_neg (fun hh => hj hh.2.2.2), put_ne _ _ _ _ hj]
    · rw [if_neg hc, if_neg (fun hh => hc ⟨hh.1, hh.2.1, hh.2.2.1⟩)]
  | false =>
    simp only [Bool.false_eq_true, if_false]
    unfold noteS
    by_cases h73 : j = 73
    · subst h73; rw [if_pos rfl, put_at]
    · rw [if_neg h73, put_ne _ _ _ _ h73]
      by_cases hj : j = 9 + bl x.2.2.1
      · rw [if_pos hj, hj, put_at]
      · rw [if_neg hj, put_ne _ _ _ _ hj]
theorem upS_comm (a n m : Int) (hn : 0 < n) (hm : 0 < m) : upS (upS a n) m = upS (upS a m) n := by unfold upS GR; omega
theorem pw_comm (x y : Act4) (j : Nat) (a : Int) : pw y j (pw x j a) = pw x j (pw y j a) := by
  unfold pw
  cases ev x.1 <;> cases ev y.1 <;> simp only [Bool.false_eq_true, if_false, if_true]
  · by_cases h73 : j = 73
    · simp only [if_pos h73]; omega
    · simp only [if_neg h73]
      generalize 9 + bl x.2.2.1 = p
      generalize 9 + bl y.2.2.1 = q
      by_cases h1 : j = p
      · by_cases h2 : j = q
        · simp only [if_pos h1, if_pos h2]
        · simp only [if_pos h1, if_neg h2]
      · by_cases h2 : j = q
        · simp only [if_neg h1, if_pos h2]
        · simp only [if_neg h1, if_neg h2]
  · by_cases hy : 0 ≤ y.2.1 ∧ y.2.1 < 9 ∧ 0 < y.2.2.2 ∧ j = y.2.1.toNat
    · have n73 : j ≠ 73 := by omega
      have n9 : j ≠ 9 + bl x.2.2.1 := by omega
      simp only [if_pos hy, if_neg n73, if_neg n9]
    · simp only [if_neg hy]
  · by_cases hx : 0 ≤ x.2.1 ∧ x.2.1 < 9 ∧ 0 < x.2.2.2 ∧ j = x.2.1.toNat
    · have n73 : j ≠ 73 := by omega
      have n9 : j ≠ 9 + bl y.2.2.1 := by omega
      simp only [if_pos hx, if_neg n73, if_neg n9]
    · simp only [if_neg hx]
  · by_cases hx : 0 ≤ x.2.1 ∧ x.2.1 < 9 ∧ 0 < x.2.2.2 ∧ j = x.2.1.toNat <;> by_cases hy : 0 ≤ y.2.1 ∧ y.2.1 < 9 ∧ 0 < y.2.2.2 ∧ j = y.2.1.toNat
    · simp only [if_pos hx, if_pos hy]
      exact upS_comm a _ _ hx.2.2.1 hy.2.2.1
    · simp only [if_pos hx, if_neg hy]
    · simp only [if_neg hx, if_pos hy]
    · simp only [if_neg hx, if_neg hy]
theorem act_comm (f : Nat → Int) (x y : Act4) (hx : In4 x) (hy : In4 y) : actS (actS f x) y = actS (actS f y) x := by
  funext j
  rw [actS_pw _ _ hy, actS_pw _ _ hx, actS_pw _ _ hx, actS_pw _ _ hy, pw_comm]
theorem fold_rev (l : List Act4) (h : ∀ x ∈ l, In4 x) (f : Nat → Int) : l.reverse.foldl actS f = l.foldl actS f :=
  List.Perm.foldl_eq' (List.reverse_perm l) (fun x hx y hy z => act_comm z x y (h x (List.mem_reverse.1 hx)) (h y (List.mem_reverse.1 hy))) f
theorem Fine.act {f : Nat → Int} (h : Fine f) (x : Act4) (hx : In4 x) : Fine (actS f x) := by
  unfold actS
  split
  · exact h.add _ _
  · exact h.note _ hx.2.2.1.2
theorem Fine.fold : ∀ (l : List Act4) {f : Nat → Int}, Fine f → (∀ x ∈ l, In4 x) → Fine (l.foldl actS f)
  | [], _, h, _ => h
  | x :: l, _, h, hl => Fine.fold l (h.act x (hl x (by simp))) fun y hy => hl y (by simp [hy])
/-- The sum of the first m bars. -/
def tot (f : Nat → Int) : Nat → Int
  | 0 => 0
  | m + 1 => tot f m + f (9 + m)
theorem tot_last (f : Nat → Int) : ∀ n, tot f (lastTo f n) = tot f n
  | 0 => rfl
  | n + 1 => by
    unfold lastTo
    split
    · next h => rw [tot_last f n, tot, h, Int.add_zero]
    · rfl
theorem tot_out (f : Nat → Int) (i : Nat) (v : Int) : ∀ m, (i < 9 ∨ 9 + m ≤ i) → tot (put f i v) m = tot f m
  | 0, _ => rfl
  | m + 1, h => by rw [tot, tot, tot_out f i v m (by omega), put_ne _ _ _ _ (by omega)]
theorem tot_in (f : Nat → Int) (i : Nat) (v : Int) : ∀ m, i < m → tot (put f (9 + i) v) m = tot f m + (v - f (9 + i))
  | 0, h => by omega
  | m + 1, h => by
    by_cases e : i = m
    · subst e
      rw [tot, tot, tot_out f (9 + i) v i (by omega), put_at]; omega
    · rw [tot, tot, tot_in f i v m (by omega), put_ne _ _ _ _ (by omega)]; omega
theorem tot_mono (f : Nat → Int) (h : ∀ i, 0 ≤ f i) : ∀ m n, m ≤ n → tot f m ≤ tot f n
  | m, 0, hn => by obtain rfl : m = 0 := by omega
                   exact Int.le_refl _
  | m, n + 1, hn => by
    by_cases e : m = n + 1
    · rw [e]; exact Int.le_refl _
    · have := tot_mono f h m n (by omega)
      have h2 := h (9 + n)
      rw [tot]; omega
theorem tot_nonneg (f : Nat → Int) (h : ∀ i, 0 ≤ f i) (m : Nat) : 0 ≤ tot f m := tot_mono f h 0 m (by omega)
/-- How many notes there are. -/
def oc (l : List Act4) : Nat := (l.filter fun x => !ev x.1).length
theorem oc_le (l : List Act4) : oc l ≤ l.length := List.length_filter_le _ _
theorem oc_snoc (l : List Act4) (x : Act4) : oc (l ++ [x]) = oc l + (if ev x.1 then 0 else 1) := by
  unfold oc
  rw [List.filter_append, List.length_append]
  cases h : ev x.1 <;> simp [h]
theorem tot_fold : ∀ (l : List Act4) (f : Nat → Int) (b : Nat), (∀ x ∈ l, In4 x) → (∀ j, 9 ≤ j → j < 73 → f j ≤ (b : Int)) → b + l.length ≤ 60 → tot (l.foldl actS f) 64 = tot f 64 + (oc l : Int)
  | [], f, b, _, _, _ => by simp [oc]
  | x :: l, f, b, hl, hb, h60 => by
    have hx := hl x (by simp)
    have hbl := bl_lt x.2.2.1 hx.2.2.1.2
    simp only [List.length_cons] at h60
    have hb' : ∀ j, 9 ≤ j → j < 73 → actS f x j ≤ ((b + 1 : Nat) : Int) := by
      intro j h1 h2
      have h3 := hb j h1 h2
      rw [actS_pw f x hx]
      unfold pw
      split
      · rw [if_neg (by omega)]; omega
      · rw [if_neg (by omega)]
        split
        · unfold upS; omega
        · omega
    rw [List.foldl_cons, tot_fold l (actS f x) (b + 1) (fun y hy => hl y (by simp [hy])) hb' (by omega)]
    have e : tot (actS f x) 64 = tot f 64 + (if ev x.1 then 0 else 1) := by
      unfold actS
      cases ev x.1 with
      | true =>
        simp only [if_true, Int.add_zero]
        unfold addS
        split
        · exact tot_out _ _ _ _ (by omega)
        · rfl
      | false =>
        simp only [Bool.false_eq_true, if_false]
        unfold noteS
        have h3 := hb (9 + bl x.2.2.1) (by omega) (by omega)
        rw [tot_out _ 73 _ _ (by omega), tot_in _ _ _ _ hbl]
        unfold upS GR
        omega
    rw [e]
    unfold oc
    rw [List.filter_cons]
    cases ev x.1 <;> simp <;> omega
end Go.Proofs.YtnndoajflimkmaaDoor
