/- The document's turn in memory; Find, Dear, first: contracts. -/
import Derived.Test.YtfbcgnehpkffeaaUKrow
import Derived.Deep.DeepCutAuto
namespace Go.Proofs.Ytfbcgnehpkffeaa
open Go Go.RowKit
set_option maxRecDepth 100000
abbrev rT : TypeId := 62
structure RefAt (B : Nat) (w : World) (r : Nat) (v : Value) (R : RS) : Prop where
  row : w.row r [.int .i64 (R.most : Int), .int .i64 (R.limit : Int), v, .int .i64 (R.clock : Int)] rT
  kr : krow w B v R.ks
  vr : v.ownBlock ≠ some r
  br : B ≤ r
variable {B r : Nat} {w w' : World} {v : Value} {R : RS} {ks : List RK} {x y z : RK} {i : Nat}
theorem RefAt.below (h : RefAt B w r v R) (hb : Below w.heap.size w w') : RefAt B w' r v R := ⟨h.row.below hb h.row.lt, h.kr.below hb, h.vr, h.br⟩
theorem RefAt.keep (h : RefAt B w r v R) (h1 : w'.heap[r]? = w.heap[r]?) (h2 : ∀ k, v.ownBlock = some k → w'.heap[k]? = w.heap[k]?) : RefAt B w' r v R := ⟨by have := h.row; unfold World.row at *; rw [h1]; exact this, h.kr.same h2, h.vr, h.br⟩
def IsFind (ks : List RK) (n z : Int) : Prop := (z = -1 ∧ ∀ x ∈ ks, x.n ≠ n) ∨ ∃ (i : Nat) (x : RK), z = (i : Int) ∧ ks[i]? = some x ∧ x.n = n
theorem Find_any (n : Int) (w : World) (h : RefAt B w r v R) (hl : R.ks.length ≤ 1000) :
    Calls Try.prog 29 #[pt r, .int .i64 n] w fun e w' => (∃ z, e = .returned (.int .i64 z) ∧ IsFind R.ks n z) ∧ w = w' := by
  obtain ⟨c0, c1, c2, c3, cz⟩ := h.row.four
  have hkr := h.kr
  obtain ⟨a, c, rfl⟩ := hkr.shape
  obtain ⟨m, hm⟩ : ∃ m, m = R.ks.length := ⟨_, rfl⟩
  rw [← hm] at c2 hkr hl
  have HK := Lib.hid (And.intro hkr hm)
  have hrl := h.row.lt
  clear hkr hm h
  go_enter Try.func29, Try.ntmps29
  go_wp2_with fail
  go_loopw [5] (fun x wr => ∃ (i : Nat), i ≤ m ∧ x = .int .i64 i ∧ w = wr ∧ ∀ j y, j < i → R.ks[j]? = some y → y.n ≠ n) (fun x _ => m - (intOf x).toNat)
  case atStart => exact ⟨0, by omega, rfl, rfl, fun j y hj => by omega⟩
  case round =>
    obtain ⟨i, hi, rfl, rfl, hall⟩ := hrel
    have HA := Lib.hid hall
    clear hall
    by_cases hlt : i < m
    · have hil : i < R.ks.length := by rw [← HK.out.2]; exact hlt
      obtain ⟨x, hx⟩ : ∃ x, R.ks[i]? = some x := ⟨R.ks[i], List.getElem?_eq_getElem hil⟩
      obtain ⟨g, c', ev, hBg, hgl, d0, d1, d2, d3, dz⟩ := HK.out.1.at hx
      obtain ⟨rfl, hmL, rfl⟩ := Value.slice.inj ev
      have HX := Lib.hid hx
      clear hmL ev hil hBg d1 d2 d3 hx
      by_cases he : x.n = n
      · have HE := Lib.hid he
        rw [he] at d0
        clear he
        go_wp2_with fail
        go_returns
        exact ⟨⟨_, rfl, .inr ⟨i, x, rfl, HX.out, HE.out⟩⟩, rfl⟩
      · go_wp2_with fail
        go_roundw
        case rel =>
          refine ⟨i + 1, by omega, by go_num, trivial, fun j y hj hy => ?_⟩
          by_cases e : j = i
          · subst e
            have := HX.out.symm.trans hy
            cases this
            exact he
          · exact HA.out j y (by omega) hy
        case measure => simp [intOf] <;> omega
    · go_wp2_with fail
      go_returns
      refine ⟨⟨_, rfl, .inl ⟨rfl, fun x hx => ?_⟩⟩, rfl⟩
      obtain ⟨j, hj, rfl⟩ := List.getElem_of_mem hx
      exact HA.out j _ (by have := HK.out.2; omega) (List.getElem?_eq_getElem hj)
theorem filter_take (hx : ks[i]? = some x) : ((ks.take (i + 1)).filter RK.dear).length = ((ks.take i).filter RK.dear).length + if x.dear then 1 else 0 := by
  rw [List.take_add_one, hx, List.filter_append, List.length_append]
  cases hd : x.dear <;> simp [List.filter, hd]
theorem Dear_any (w : World) (h : RefAt B w r v R) (hl : R.ks.length ≤ 1000) :
    Calls Try.prog 30 #[pt r] w fun e w' => e = .returned (.int .i64 ((R.ks.filter RK.dear).length : Int)) ∧ w = w' := by
  obtain ⟨c0, c1, c2, c3, cz⟩ := h.row.four
  have hkr := h.kr
  obtain ⟨a, c, rfl⟩ := hkr.shape
  obtain ⟨m, hm⟩ : ∃ m, m = R.ks.length := ⟨_, rfl⟩
  rw [← hm] at c2 hkr hl
  have HK := Lib.hid (And.intro hkr hm)
  have hrl := h.row.lt
  clear hkr hm h
  go_enter Try.func30, Try.ntmps30
  go_wp2_with fail
  go_loopw [3, 4] (fun s x wr => ∃ (i q : Nat), i ≤ m ∧ x = .int .i64 i ∧ s = .int .i64 q ∧ q ≤ i ∧ w = wr ∧ q = ((R.ks.take i).filter RK.dear).length) (fun _ x _ => m - (intOf x).toNat)
  case atStart => exact ⟨0, 0, by omega, rfl, rfl, by omega, rfl, by simp⟩
  case round =>
    obtain ⟨i, q, hi, rfl, rfl, hq, rfl, hqe⟩ := hrel
    have HQ := Lib.hid hqe
    clear hqe
    by_cases hlt : i < m
    · have hil : i < R.ks.length := by rw [← HK.out.2]; exact hlt
      obtain ⟨x, hx⟩ : ∃ x, R.ks[i]? = some x := ⟨R.ks[i], List.getElem?_eq_getElem hil⟩
      obtain ⟨g, c', ev, hBg, hgl, d0, d1, d2, d3, dz⟩ := HK.out.1.at hx
      obtain ⟨rfl, hmL, rfl⟩ := Value.slice.inj ev
      have HX := Lib.hid (filter_take hx)
      clear hmL ev hil hBg d0 d2 d3 hx
      cases hd : x.dear with
      | true =>
        rw [hd] at d1
        have HD := Lib.hid hd
        clear hd
        go_wp2_with fail
        go_roundw
        case rel => exact ⟨i + 1, q + 1, by omega, by go_num, by go_num, by omega, trivial, by rw [HX.out, HD.out, ← HQ.out]; rfl⟩
        case measure => simp [intOf] <;> omega
      | false =>
        rw [hd] at d1
        have HD := Lib.hid hd
        clear hd
        go_wp2_with fail
        go_roundw
        case rel => exact ⟨i + 1, q, by omega, by go_num, rfl, by omega, trivial, by rw [HX.out, HD.out, ← HQ.out]; rfl⟩
        case measure => simp [intOf] <;> omega
    · have hq2 : q = (R.ks.filter RK.dear).length := by rw [HQ.out, List.take_of_length_le (by have := HK.out.2; omega)]
      have HQ2 := Lib.hid hq2
      clear hq2
      go_wp2_with fail
      go_returns
      exact ⟨by rw [← HQ2.out]; rfl, rfl⟩
theorem isFirst_zero (b free : Bool) : IsFirst (ks.take 0) b free (-1) := .inl ⟨rfl, fun z hz => by simp at hz⟩
theorem mem_take_succ (hx : ks[i]? = some x) (hz : z ∈ ks.take (i + 1)) : z ∈ ks.take i ∨ z = x := by
  rw [List.take_add_one, hx] at hz
  rcases List.mem_append.1 hz with h | h
  · exact .inl h
  · exact .inr (by simpa using h)
theorem get_take {j : Nat} (h : (ks.take i)[j]? = some y) : j < i ∧ ks[j]? = some y := by
  rw [List.getElem?_take] at h
  split at h
  · next hj => exact ⟨hj, h⟩
  · cases h
theorem take_get {j : Nat} (h : ks[j]? = some y) (hj : j < i) : (ks.take i)[j]? = some y := by
  rw [List.getElem?_take, if_pos hj]; exact h
theorem isFirst_skip {b free : Bool} {q : Int} (h : IsFirst (ks.take i) b free q) (hx : ks[i]? = some x) (hf : fits b free x = false) : IsFirst (ks.take (i + 1)) b free q := by
  rcases h with ⟨rfl, h⟩ | ⟨j, y, rfl, hj, hy, hm⟩
  · refine .inl ⟨rfl, fun z hz => ?_⟩
    rcases mem_take_succ hx hz with h1 | rfl
    · exact h z h1
    · exact hf
  · obtain ⟨h1, h2⟩ := get_take hj
    refine .inr ⟨j, y, rfl, take_get h2 (by omega), hy, fun z hz hfz => ?_⟩
    rcases mem_take_succ hx hz with h3 | rfl
    · exact hm z h3 hfz
    · rw [hf] at hfz; cases hfz
theorem isFirst_here {b free : Bool} {q : Int} (h : IsFirst (ks.take i) b free q) (hx : ks[i]? = some x) (hf : fits b free x = true) (hc : q = -1 ∨ ∃ (j : Nat) (y : RK), q = (j : Int) ∧ ks[j]? = some y ∧ x.at_ < y.at_) : IsFirst (ks.take (i + 1)) b free (i : Int) := by
  refine .inr ⟨i, x, rfl, take_get hx (by omega), hf, fun z hz hfz => ?_⟩
  rcases mem_take_succ hx hz with h3 | rfl
  · rcases h with ⟨rfl, h⟩ | ⟨j, y, rfl, hj, hy, hm⟩
    · rw [h z h3] at hfz; cases hfz
    · rcases hc with hc | ⟨j', y', e, hj', hlt⟩
      · omega
      · obtain rfl : j = j' := by omega
        have := (get_take hj).2.symm.trans hj'
        cases this
        have := hm z h3 hfz
        omega
  · exact Nat.le_refl _
theorem isFirst_keep {b free : Bool} {j : Nat} (h : IsFirst (ks.take i) b free (j : Int)) (hx : ks[i]? = some x) (hj : ks[j]? = some y) (hle : y.at_ ≤ x.at_) : IsFirst (ks.take (i + 1)) b free (j : Int) := by
  rcases h with ⟨e, _⟩ | ⟨j', y', e, hj', hy, hm⟩
  · omega
  · obtain rfl : j = j' := by omega
    obtain ⟨h1, h2⟩ := get_take hj'
    have := h2.symm.trans hj
    cases this
    refine .inr ⟨j, y, rfl, take_get h2 (by omega), hy, fun z hz hfz => ?_⟩
    rcases mem_take_succ hx hz with h3 | rfl
    · exact hm z h3 hfz
    · exact hle
theorem isFirst_lt {b free : Bool} {q : Int} (h : IsFirst (ks.take i) b free q) : q = -1 ∨ ∃ (j : Nat) (y : RK), q = (j : Int) ∧ j < i ∧ ks[j]? = some y := by
  rcases h with ⟨rfl, _⟩ | ⟨j, y, rfl, hj, _⟩
  · exact .inl rfl
  · obtain ⟨h1, h2⟩ := get_take hj
    exact .inr ⟨j, y, rfl, h1, h2⟩
end Go.Proofs.Ytfbcgnehpkffeaa
