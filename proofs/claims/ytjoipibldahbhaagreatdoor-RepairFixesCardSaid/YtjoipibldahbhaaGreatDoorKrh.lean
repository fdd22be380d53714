/- Several texts in one: Open2 Open3 ROpen RLAny RLAnyW RLThree RLWide RLCounts. -/
import Derived.Test.YtjoipibldahbhaaGreatDoorKrg
import Derived.Deep.Slices
/- Slices among the arguments: laws of my own, no program in them. -/
namespace Go
open Go.ChangeShapes Go.WideShapes Go.ChangeAt Go.RowKit
section
variable {H : Type} {enc : TypeId × Value → H} {P : Program} {W : World} {held : Bool}
theorem addr_add (b o j : Nat) : (⟨b, o, none⟩ : Addr).add j = ⟨b, o + j, none⟩ := by
  unfold Addr.add
  split
  · rename_i h; subst h; rfl
  · rfl
/-- A slice of integers that came in. -/
theorem open_slice_ints {t e : TypeId} {k : IntKind} {a : Option Addr} {len cap : Nat} {d : DataW H} {p : List MemPlace} (ht : P.underlying t = some (.slice e)) (he : P.underlying e = some (.int k)) (hce : P.cellsOf e = 1)
    (h : DataW.Trod enc P W 0 (fun _ => true) held t (.slice a len cap) d p) :
    ∃ xs : List Int, W.rd (.slice a len cap) (xs.map (Value.int k)) ∧ xs.length = len ∧ len ≤ cap ∧ cap ≤ maxLen ∧ (a = none → len = 0 ∧ cap = 0) ∧ ∀ z ∈ xs, (Lit.int k z).wf = true := by
  obtain ⟨fuel, hf⟩ := h
  rcases open_ints ht he hce hf with ⟨hcs, _⟩ | ⟨x, l, c, zs, hcs, _, hl, hm, hz, _, hcell, hwz⟩
  · simp [Value.cells] at hcs
    obtain ⟨rfl, rfl, rfl⟩ := hcs
    exact ⟨[], ⟨none, 0, rfl, .inl rfl⟩, rfl, Nat.le_refl _, Nat.zero_le _, (fun _ => ⟨rfl, rfl⟩), (fun z hz => by cases hz)⟩
  · simp [Value.cells] at hcs
    obtain ⟨rfl, rfl, rfl⟩ := hcs
    have hz' : zs.length = cap := by simpa using hz
    have hlt : (zs.take len).length = len := by rw [List.length_take]; omega
    refine ⟨zs.take len, ?_, hlt, hl, hm, (fun h => by cases h), fun z hz => hwz z (List.mem_of_mem_take hz)⟩
    refine ⟨some x, cap, by rw [List.length_map, hlt], ?_⟩
    by_cases h0 : len = 0
    · left; subst h0; simp
    · right
      obtain ⟨b, o, sp'⟩ := x
      have h1 := hcell 0 (by omega)
      have h2 : (⟨b, o, sp'⟩ : Addr).add 0 = ⟨b, o, sp'⟩ := rfl
      rw [h2] at h1
      have h3 : sp' = none := by
        cases sp' with
        | none => rfl
        | some q =>
          unfold World.cell? at h1
          split at h1 <;> simp at h1
      subst h3
      refine ⟨b, o, rfl, fun j u hj => ?_⟩
      rw [List.getElem?_map] at hj
      cases hx : (zs.take len)[j]? with
      | none => rw [hx] at hj; cases hj
      | some z =>
        rw [hx] at hj
        have hj2 : j < len := by
          have := (List.getElem?_eq_some_iff.1 hx).1
          omega
        have h4 := hcell j (by omega)
        rw [addr_add] at h4
        rw [h4]
        rw [List.getElem?_take_of_lt hj2] at hx
        rw [← hj]
        simp [List.getD, hx]
end
end Go
/- Structs of four integers among the arguments, and slices of such: laws of my own, no program in them. -/
namespace Go
open Go.ChangeShapes Go.WideShapes Go.ChangeAt Go.RowKit
section
variable {H : Type} {enc : TypeId × Value → H} {P : Program} {W : World} {held : Bool} {base : Nat} {sp : Nat → Bool}
/-- Four integers of kind i64, as cells. -/
abbrev int4 (x : Int × Int × Int × Int) : List Value := [.int .i64 x.1, .int .i64 x.2.1, .int .i64 x.2.2.1, .int .i64 x.2.2.2]
def In64 (z : Int) : Prop := -9223372036854775808 ≤ z ∧ z ≤ 9223372036854775807
def In4 (x : Int × Int × Int × Int) : Prop := In64 x.1 ∧ In64 x.2.1 ∧ In64 x.2.2.1 ∧ In64 x.2.2.2
theorem in64_of {z : Int} (h : (Lit.int .i64 z).wf = true) : In64 z := by
  exact bounds_i64 h
theorem wf_in64 {z : Int} (h : In64 z) : (Lit.int .i64 z).wf = true := by
  unfold In64 at h
  simp [Lit.wf, IntKind.min, IntKind.max, IntKind.signed, IntKind.bits]
  omega
theorem trod_int4 {t : TypeId} {f0 f1 f2 f3 : Field} {fuel : Nat} {cs : List Value} {x : DataW H × List MemPlace} (ht : P.underlying t = some (.struct #[f0, f1, f2, f3])) (hct : P.cellsOf t = 4)
    (o0 : f0.offset = 0) (o1 : f1.offset = 1) (o2 : f2.offset = 2) (o3 : f3.offset = 3) (c0 : P.cellsOf f0.type = 1) (c1 : P.cellsOf f1.type = 1) (c2 : P.cellsOf f2.type = 1) (c3 : P.cellsOf f3.type = 1)
    (e0 : P.underlying f0.type = some (.int .i64)) (e1 : P.underlying f1.type = some (.int .i64)) (e2 : P.underlying f2.type = some (.int .i64)) (e3 : P.underlying f3.type = some (.int .i64))
    (h : DataW.trod enc P W base sp held fuel t cs = some x) : ∃ y, cs = int4 y ∧ In4 y := by
  obtain ⟨xs, n, _, rfl, hl, hlen, hf⟩ := DataW.trod_struct ht h
  rw [hct] at hl
  match cs, hl, xs, hlen with
  | [v0, v1, v2, v3], _, [y0, y1, y2, y3], _ =>
    have g0 := hf 0 f0 rfl
    have g1 := hf 1 f1 rfl
    have g2 := hf 2 f2 rfl
    have g3 := hf 3 f3 rfl
    rw [o0, c0] at g0; rw [o1, c1] at g1; rw [o2, c2] at g2; rw [o3, c3] at g3
    obtain ⟨z0, h0, _, w0⟩ := DataW.trod_int (x := y0) e0 (by simpa using g0)
    obtain ⟨z1, h1, _, w1⟩ := DataW.trod_int (x := y1) e1 (by simpa using g1)
    obtain ⟨z2, h2, _, w2⟩ := DataW.trod_int (x := y2) e2 (by simpa using g2)
    obtain ⟨z3, h3, _, w3⟩ := DataW.trod_int (x := y3) e3 (by simpa using g3)
    simp at h0 h1 h2 h3
    subst h0; subst h1; subst h2; subst h3
    exact ⟨(z0, z1, z2, z3), rfl, in64_of w0, in64_of w1, in64_of w2, in64_of w3⟩
theorem rows_int4 : ∀ rs : List (List Value), (∀ r ∈ rs, ∃ y, r = int4 y ∧ In4 y) → ∃ l : List (Int × Int × Int × Int), rs = l.map int4 ∧ ∀ x ∈ l, In4 x
  | [], _ => ⟨[], rfl, fun x hx => by cases hx⟩
  | r :: rs, h => by
    obtain ⟨y, rfl, hy⟩ := h r (by simp)
    obtain ⟨l, rfl, hl⟩ := rows_int4 rs fun r' hr' => h r' (by simp [hr'])
    refine ⟨y :: l, rfl, fun x hx => ?_⟩
    rcases List.mem_cons.1 hx with rfl | hx
    · exact hy
    · exact hl x hx
theorem addr_add' (b o j : Nat) : (⟨b, o, none⟩ : Addr).add j = ⟨b, o + j, none⟩ := by
  unfold Addr.add
  split
  · rename_i h; subst h; rfl
  · rfl
/-- A slice of rows of m cells that came in. -/
theorem open_slice_rows {t e : TypeId} {m : Nat} (Q : List Value → Prop) {a : Option Addr} {len cap : Nat} {d : DataW H} {p : List MemPlace} (ht : P.underlying t = some (.slice e)) (hce : P.cellsOf e = m) (hm : 0 < m)
    (hQ : ∀ n cs x, DataW.trod enc P W 0 (fun _ => true) held n e cs = some x → Q cs) (h : DataW.Trod enc P W 0 (fun _ => true) held t (.slice a len cap) d p) :
    ∃ rs : List (List Value), rs.length = len ∧ len ≤ cap ∧ cap ≤ maxLen ∧ (a = none → len = 0 ∧ cap = 0) ∧ (∀ r ∈ rs, Q r) ∧
      (rs = [] ∨ ∃ b o, a = some ⟨b, o, none⟩ ∧ ∀ i r, rs[i]? = some r → ∀ j u, r[j]? = some u → W.cell? ⟨b, o + i * m + j, none⟩ = some u) := by
  obtain ⟨fuel, hf⟩ := h
  rcases Go.Deep.open_slice ht hf with ⟨hcs, _⟩ | ⟨x, l, c, mm, n, D, Pl, hcs, _, hl, hmx, hmm, _, hx⟩
  · simp [Value.cells] at hcs
    obtain ⟨rfl, rfl, rfl⟩ := hcs
    exact ⟨[], rfl, Nat.le_refl _, Nat.zero_le _, fun _ => ⟨rfl, rfl⟩, (fun r hr => by cases hr), .inl rfl⟩
  · simp [Value.cells] at hcs
    obtain ⟨rfl, rfl, rfl⟩ := hcs
    have hmm' : mm = cap := by simpa using hmm
    subst hmm'
    have each : ∀ i, i < len → ∃ r : List Value, Q r ∧ r.length = m ∧ ∀ j u, r[j]? = some u → W.cell? ((x.add (i * m)).add j) = some u := fun i hi => by
      obtain ⟨cs', h1, h2⟩ := hx i (by omega)
      rw [hce] at h1
      obtain ⟨_, hlen, hcell⟩ := World.cells?_some h1
      refine ⟨cs', hQ _ _ _ h2, by simpa using hlen, fun j u hj => ?_⟩
      have hj2 : j < m := by
        have := (List.getElem?_eq_some_iff.1 hj).1
        omega
      rw [hcell j hj2]
      exact hj
    have hch : ∀ k, k ≤ len → ∃ rs : List (List Value), rs.length = k ∧ (∀ r ∈ rs, Q r) ∧ (∀ r ∈ rs, r.length = m) ∧ ∀ i r, rs[i]? = some r → ∀ j u, r[j]? = some u → W.cell? ((x.add (i * m)).add j) = some u := by
      intro k
      induction k with
      | zero => intro _; exact ⟨[], rfl, (fun r hr => by cases hr), (fun r hr => by cases hr), fun i r hr => by simp at hr⟩
      | succ k ih =>
        intro hk
        obtain ⟨rs, h1, h2, h2', h3⟩ := ih (by omega)
        obtain ⟨r, q1, q2, q3⟩ := each k (by omega)
        refine ⟨rs ++ [r], by simp [h1], fun r' hr' => ?_, fun r' hr' => ?_, fun i r' hi => ?_⟩
        · rcases List.mem_append.1 hr' with h | h
          · exact h2 r' h
          · rw [List.mem_singleton.1 h]; exact q1
        · rcases List.mem_append.1 hr' with h | h
          · exact h2' r' h
          · rw [List.mem_singleton.1 h]; exact q2
        · by_cases e : i < k
          · rw [List.getElem?_append_left (by omega)] at hi
            exact h3 i r' hi
          · rw [List.getElem?_append_right (by omega)] at hi
            have e2 : i = k := by
              have := (List.getElem?_eq_some_iff.1 hi).1
              simp at this
              omega
            subst e2
            rw [h1, Nat.sub_self] at hi
            simp at hi
            subst hi
            exact q3
    obtain ⟨rs, h1, h2, h2', h3⟩ := hch len (Nat.le_refl _)
    refine ⟨rs, h1, hl, hmx, (fun h => by cases h), h2, ?_⟩
    by_cases h0 : len = 0
    · left; exact List.length_eq_zero_iff.1 (by omega)
    · right
      obtain ⟨b, o, sp'⟩ := x
      obtain ⟨r0, hr0⟩ : ∃ r0, rs[0]? = some r0 := ⟨rs[0]'(by omega), by rw [List.getElem?_eq_getElem (by omega)]⟩
      have hr0l := h2' r0 (List.mem_of_getElem? hr0)
      have hc0 := h3 0 r0 hr0 0 (r0[0]'(by omega)) (by rw [List.getElem?_eq_getElem (by omega)])
      rw [Nat.zero_mul] at hc0
      have e0 : ((⟨b, o, sp'⟩ : Addr).add 0).add 0 = ⟨b, o, sp'⟩ := rfl
      rw [e0] at hc0
      have h3' : sp' = none := by
        cases sp' with
        | none => rfl
        | some q =>
          unfold World.cell? at hc0
          split at hc0 <;> simp at hc0
      subst h3'
      refine ⟨b, o, rfl, fun i r hi j u hj => ?_⟩
      have := h3 i r hi j u hj
      rw [addr_add', addr_add'] at this
      exact this
end
end Go
/- Slices of texts that came in. -/
namespace Go.Proofs.YtjoipibldahbhaaGreatDoor
open Go Go.ChangeShapes Go.WideShapes Go.ChangeAt Go.RowKit
set_option maxRecDepth 100000
variable {w : World} {ls : List (List Nat)}
theorem RS.take {a : Option Addr} {n c m : Nat} (h : RS w (.slice a n c) ls) (hm : m ≤ n) : RS w (.slice a m c) (ls.take m) := by
  obtain ⟨a', c', hv, hc, h⟩ := h
  obtain ⟨rfl, rfl, rfl⟩ : a = a' ∧ n = ls.length ∧ c = c' := by simpa using hv
  have hl : (ls.take m).length = m := by rw [List.length_take]; omega
  refine ⟨a, c, by rw [hl], by omega, ?_⟩
  rcases h with rfl | ⟨b, o, rfl, hcell⟩
  · exact .inl (by simp)
  · exact .inr ⟨b, o, rfl, fun j l hj => hcell j l (by
      rw [List.getElem?_take] at hj
      split at hj
      · exact hj
      · cases hj)⟩
theorem AllC.take (h : AllC ls) (m : Nat) : AllC (ls.take m) := fun l hl => h l (List.mem_of_mem_take hl)
theorem strs_of : ∀ rs : List (List Value), (∀ r ∈ rs, ∃ s : ByteArray, r = [.string s]) → ∃ ls : List (List Nat), AllC ls ∧ rs = ls.map fun l => [strV l]
  | [], _ => ⟨[], (fun l h => by cases h), rfl⟩
  | r :: rs, h => by
    obtain ⟨s, rfl⟩ := h r (List.mem_cons_self ..)
    obtain ⟨l, hl, rfl⟩ := of_text s
    obtain ⟨ls, h1, rfl⟩ := strs_of rs fun x hx => h x (List.mem_cons_of_mem _ hx)
    exact ⟨l :: ls, (fun x hx => (List.mem_cons.1 hx).elim (fun e => e ▸ hl) (h1 x)), rfl⟩
theorem open_strs {H : Type} {enc : TypeId × Value → H} {W : World} {held : Bool} {a : Option Addr} {len cap : Nat} {d : DataW H} {p : List MemPlace}
    (h : DataW.Trod enc Tryz.prog W 0 (fun _ => true) held 33 (.slice a len cap) d p) : ∃ ls, RS W (.slice a len cap) ls ∧ AllC ls := by
  obtain ⟨rs, h1, h2, _, _, h5, h6⟩ := open_slice_rows (m := 1) (fun r => ∃ s : ByteArray, r = [.string s]) Tryz.underlying33 (by kernel_rfl) (by omega) (fun n cs x hx => by
    cases n with
    | zero => simp [DataW.trod] at hx
    | succ n =>
      obtain ⟨s, hs, _⟩ := DataW.trod_string (x := x) Tryz.underlying9 hx
      exact ⟨s, hs⟩) h
  obtain ⟨ls, hA, rfl⟩ := strs_of rs h5
  rw [List.length_map] at h1
  refine ⟨ls, ⟨a, cap, by rw [h1], by omega, ?_⟩, hA⟩
  rcases h6 with h6 | ⟨b, o, rfl, hc⟩
  · exact .inl (List.map_eq_nil_iff.1 h6)
  · exact .inr ⟨b, o, rfl, fun j l hj => by
      have := hc j [strV l] (by rw [List.getElem?_map, hj]; rfl) 0 (strV l) rfl
      rwa [Nat.mul_one, Nat.add_zero] at this⟩
/-- A text that came in. -/
theorem open_str {W : World} {base : Nat} {r : Reach} {v : Value} (hv : Value.okWide Tryz.prog W r base 9 v) : ∃ l, AllB l ∧ v = strV l := by
  obtain ⟨s, rfl⟩ := okWide_string Tryz.underlying9 hv
  obtain ⟨l, hl, rfl⟩ := of_text s
  exact ⟨l, hl, rfl⟩
end Go.Proofs.YtjoipibldahbhaaGreatDoor
/- RepairAny: the walk. -/
namespace Go.Proofs.YtjoipibldahbhaaGreatDoor
open Go Go.RowKit
set_option maxRecDepth 100000
variable {w w' : World} {ls : List (List Nat)}
theorem RowL_len (ds : List (List Nat)) : (rowL ds).length ≤ 32 := by
  unfold rowL
  split
  · next h => rw [wholeL_len, cutL_len]; omega
  · simp
theorem rowL_cases (ds : List (List Nat)) (hall : AllC ds) : rowL ds = [] ∨ ∃ n l, n ≤ 40 ∧ 2 ≤ l.length ∧ l.length ≤ 30 ∧ l.length = min ds.length 36 ∧ One n l ∧ rowL ds = wholeL n l := by
  unfold rowL
  split
  · next h => exact .inr ⟨_, _, evenN_le 40, by rw [cutL_len]; omega, by rw [cutL_len]; omega, cutL_len .., cutL_one 40 hall, rfl⟩
  · exact .inl rfl
/-- How many columns are lost, of a list of them. -/
theorem cnt_of {d : Nat} {lost : List Int} {s : List Nat} (hn : s.Nodup) (hs : ∀ t, t < d + 2 → (hasI lost t = true ↔ t ∈ s)) (hlt : ∀ t ∈ s, t < d + 2) : cntI d lost = s.length := by
  have h1 : cntI d lost = ((List.range (d + 2)).filter (hasI lost)).length := by
    unfold cntI dsN
    rw [List.range_succ, List.range_succ, List.filter_append, List.filter_append, List.length_append, List.length_append]
    cases h1 : hasI lost d <;> cases h2 : hasI lost (d + 1) <;> simp [h1, h2]
  rw [h1]
  refine List.Perm.length_eq ((List.perm_ext_iff_of_nodup (List.Pairwise.filter _ List.nodup_range) hn).2 fun t => ?_)
  rw [List.mem_filter, List.mem_range]
  exact ⟨fun h => (hs t h.1).1 h.2, fun h => ⟨hlt t h, (hs t (hlt t h)).2 h⟩⟩
theorem hasI_iff {lost : List Int} {t : Nat} : hasI lost t = true ↔ (t : Int) ∈ lost := by unfold hasI; rw [List.contains_iff_mem]
/-- Lists that tell at most two columns are no loss too great. -/
theorem loss_two {d i k : Nat} {lost : List Int} (h2 : 2 ≤ d) (h30 : d ≤ 30) (hi : i < d + 2) (hk : k < d + 2) (hl : ∀ x ∈ lost, x = (i : Int) ∨ x = (k : Int)) (hi' : (i : Int) ∈ lost) (hk' : (k : Int) ∈ lost) : lossE d lost = 0 := by
  have hb : badI d lost = false := by
    unfold badI
    rw [Bool.eq_false_iff]
    intro h
    obtain ⟨x, hx, h3⟩ := List.any_eq_true.1 h
    have := of_decide_eq_true h3
    rcases hl x hx with rfl | rfl <;> omega
  have hc : cntI d lost ≤ 2 := by
    by_cases e : i = k
    · subst e
      rw [cnt_of (s := [i]) (by simp) (fun t ht => ?_) (by simpa using hi)]
      · simp
      · rw [hasI_iff, List.mem_singleton]
        exact ⟨fun h => by rcases hl _ h with h | h <;> omega, fun h => by rw [h]; exact hi'⟩
    · rw [cnt_of (s := [i, k]) (by simpa using e) (fun t ht => ?_) (by simp; exact ⟨hi, hk⟩)]
      · simp
      · rw [hasI_iff]
        simp only [List.mem_cons, List.mem_nil_iff, or_false]
        exact ⟨fun h => by rcases hl _ h with h | h <;> omega, fun h => by rcases h with rfl | rfl <;> assumption⟩
  rw [lossE_in _ h2 h30, if_neg (by simp [hb]), if_neg (by omega)]
theorem loss_three {d i k m : Nat} (h2 : 2 ≤ d) (h30 : d ≤ 30) (hi : i < d + 2) (hk : k < d + 2) (hm : m < d + 2) (h1 : i ≠ k) (h3 : m ≠ i) (h4 : m ≠ k) : lossE d [(i : Int), (k : Int), (m : Int)] = 20 := by
  have hb : badI d [(i : Int), (k : Int), (m : Int)] = false := by unfold badI; simp; omega
  have hc : cntI d [(i : Int), (k : Int), (m : Int)] = 3 := by
    rw [cnt_of (s := [i, k, m]) (by simp; omega) (fun t ht => ?_) (by simp; exact ⟨hi, hk, hm⟩)]
    · simp
    · rw [hasI_iff]; simp; omega
  rw [lossE_in _ h2 h30, if_neg (by simp [hb]), if_pos (by omega)]
end Go.Proofs.YtjoipibldahbhaaGreatDoor
/- RepairAny: whichever two columns of a row are lost, all are told as they were: the walk. -/
namespace Go.Proofs.YtjoipibldahbhaaGreatDoor
open Go Go.RowKit
set_option maxRecDepth 100000
variable {w w' : World} {ls ds : List (List Nat)}
/-- A Fixer that stands, with few counts. -/
def Fx (w0 w : World) (b F : Nat) (N : Nat) : Prop := Below w0.heap.size w0 w ∧ ∃ d, FixerAt w b F d ∧ ∀ i, 0 ≤ d i ∧ d i ≤ (N : Int)
theorem Fx.below {w0 : World} {b F N : Nat} (h : Fx w0 w b F N) (hb : Below w.heap.size w w') : Fx w0 w' b F N :=
  ⟨h.1.trans (hb.mono h.1.size), h.2.imp fun _ h2 => ⟨h2.1.below hb, h2.2⟩⟩
theorem bump_le {d : Nat → Int} {N : Nat} (h : ∀ i, 0 ≤ d i ∧ d i ≤ (N : Int)) (t : Nat) : ∀ i, 0 ≤ bump d t i ∧ bump d t i ≤ ((N + 1 : Nat) : Int) := fun i => by
  have h1 := h i
  have h2 := h t
  unfold bump
  split <;> omega
/-- A row whole, two of its columns lost: all are told. -/
theorem Fix_back {w0 : World} {b F N n : Nat} {v vl : Value} {l cols : List (List Nat)} {lost : List Int} (w : World) (hx : Fx w0 w b F N) (hb : w0.heap.size ≤ b) (hN : N ≤ 1000000) (hs : RS w v cols) (hl : w.rd vl (iV lost)) (hll : lost.length ≤ 1000)
    (hall : AllC cols) (ho : One n l) (hn : n ≤ 65536) (hlen : cols.length = l.length + 2) (hsame : ∀ i, i < l.length + 2 → hasI lost i = false → cols.getD i [] = (wholeL n l).getD i []) (he : lossE l.length lost = 0) :
    Calls Tryz.prog 16 #[.pointer (some ⟨F, 0, none⟩), v, vl] w fun e w' => ∃ v', e = .returned (.tuple #[v', .int .i64 0]) ∧ RS w' v' (wholeL n l) ∧ Fx w0 w' b F (N + 1) ∧ Kept (FS b F) w w' := by
  obtain ⟨hB, d, hf, hd⟩ := hx
  obtain ⟨h1, h2⟩ := fix_back ho hn hlen hsame he
  refine (Fix_ok w hf hs hl hll h1 hall fun i => ⟨(hd i).1, by have := (hd i).2; omega⟩).mono ?_
  rintro e w' ⟨v', rfl, r1, k1, f1⟩
  rw [h2] at r1
  exact ⟨v', rfl, r1, ⟨hB.trans (k1.below hB.size (by have := hf.o1; rintro k (rfl | rfl) <;> omega)), _, f1, bump_le hd _⟩, k1⟩
theorem cell_block {g o : Nat} (h : w'.heap[g]? = w.heap[g]?) : w'.cell? ⟨g, o, none⟩ = w.cell? ⟨g, o, none⟩ := by
  unfold World.cell?; simp only [h]
set_option maxHeartbeats 4000000 in
theorem any_walk {a : Option Addr} {n c : Nat} {nz : List Nat} (W : World) (hN : Nam W) (hs : RS W (.slice a n c) ds) (hall : AllC ds) (hz : AllB nz) :
    Calls Tryz.prog 5 #[.slice a n c, strV nz] W fun e W' => e = .returned (.bool true) ∧ Below W.heap.size W W' := by
  obtain ⟨m2, hm2⟩ : ∃ m2, m2 = min n 12 := ⟨_, rfl⟩
  have hmin : min (n : Int) 12 = (m2 : Int) := by omega
  have hm2n : m2 ≤ n := by omega
  have hnc : n ≤ c := by obtain ⟨a', c', hv, hc, _⟩ := hs; cases hv; exact hc
  have hR := row_any W (hs.take hm2n) (hall.take m2)
  have hcs := rowL_cases (ds.take m2) (hall.take m2)
  obtain ⟨all, ha⟩ : ∃ all, all = rowL (ds.take m2) := ⟨_, rfl⟩
  rw [← ha] at hR hcs
  obtain ⟨sz, hsz⟩ : ∃ s, s = mk nz := ⟨_, rfl⟩
  rw [show strV nz = .string sz by rw [hsz]]
  obtain ⟨i0, hi0, hz0, hz1, hz2⟩ := info_str
  have HI : Hid (Tryz.prog.info? tStr = some i0 ∧ i0.zero = some (.string { data := #[] }) ∧ i0.size = 1 ∧ i0.bytes = 16) := ⟨hi0, hz0, hz1, hz2⟩
  have H0 := Lib.hid (And.intro hN (And.intro hR (And.intro hcs (And.intro hz hsz))))
  clear hN hR hcs hz hsz ha hall hm2 hi0 hz0 hz1 hz2
  go_enter Tryz.func5, Tryz.ntmps5
  go_wp2_with fail
  refine H0.out.2.1.mono ?_
  rintro e w1 ⟨v1, rfl, rs1, b1⟩
  have H1 := Lib.hid (And.intro rs1 b1)
  clear rs1 b1
  go_wp2_with fail
  refine (NewF_any w1).mono ?_
  rintro e w2 ⟨b, F, rfl, hb, hf, b2⟩
  have H2 := Lib.hid (And.intro hf b2)
  clear hf b2
  go_wp2_with fail
  refine (wakes_any w2 ((H0.out.1.below H1.out.2 H0.out.1.lt).below H2.out.2 (Nat.lt_of_lt_of_le H0.out.1.lt H1.out.2.size))).mono ?_
  rintro e w3 ⟨rfl, b3⟩
  have hX : Fx w1 w3 b F 0 := Fx.below ⟨H2.out.2, _, H2.out.1, fun i => ⟨Int.le_refl _, Int.le_refl _⟩⟩ b3
  have H3 := Lib.hid hX
  clear hX b3
  rcases H0.out.2.2.1 with hnil | ⟨nn, l, hn4, hl2, hl30, _, ho, hwh⟩
  · have hr := H1.out.1
    rw [hnil] at hr
    obtain ⟨a1, c1, rfl⟩ := hr.len
    clear hr
    go_wp2_with fail
    go_loopw [23] (fun x w => x = .int .i64 0 ∧ Below W.heap.size W w) (fun _ _ => 0)
    case atStart => exact ⟨rfl, H1.out.2.trans (H3.out.1.mono H1.out.2.size)⟩
    case round =>
      obtain ⟨rfl, hB⟩ := hrel
      go_wp2_with fail
      go_returns
      exact ⟨rfl, hB⟩
  · have hr := H1.out.1
    rw [hwh] at hr
    obtain ⟨_, g1, o1, c1, rfl, hc1, hcell⟩ := hr.cases.resolve_left (by rintro ⟨h, _⟩; have := congrArg List.length h; rw [wholeL_len] at this; simp at this)
    obtain ⟨m, hm⟩ : ∃ m, m = (wholeL nn l).length := ⟨_, rfl⟩
    rw [← hm] at hc1 hr
    rw [← hm]
    have hml : m = l.length + 2 := by rw [hm, wholeL_len]
    have hm32 : m ≤ 32 := by omega
    have H4 := Lib.hid (And.intro hr (And.intro hcell (And.intro hm (And.intro hml (And.intro ho (And.intro hwh (And.intro hl2 (And.intro hl30 hb))))))))
    clear hr hcell hm hml ho hwh hl2 hl30 hb
    go_wp2_with fail
    go_loopw [23] (fun x wr => ∃ i N : Nat, i ≤ m ∧ x = .int .i64 (i : Int) ∧ Fx w1 wr b F N ∧ N ≤ i * 40) (fun x _ => m - (intOf x).toNat)
    case atStart => exact ⟨0, 0, by omega, rfl, H3.out, by omega⟩
    case round =>
      obtain ⟨i, N, hi, rfl, hx, hN⟩ := hrel
      have HX := Lib.hid (And.intro hx hN)
      clear hx hN
      by_cases hlt : i < m
      · go_wp2_with fail
        go_loopw [28] (fun y wr => ∃ k N : Nat, k ≤ i + 1 ∧ y = .int .i64 (k : Int) ∧ Fx w1 wr b F N ∧ N ≤ i * 40 + k) (fun y _ => i + 1 - (intOf y).toNat)
        case atStart => exact ⟨0, N, by omega, rfl, HX.out.1, by have := HX.out.2; omega⟩
        case round =>
          clear HX
          clear N
          obtain ⟨k, N, hk, rfl, hx, hN⟩ := hrel
          have HX := Lib.hid (And.intro hx hN)
          clear hx hN
          by_cases hkt : k < i + 1
          · have hsz1 := HX.out.1.1.size
            go_wp2_with (at_builtin; refine wpList_append_own _ rfl _ _ 33 rfl wr.heap.size tStr i0 (.string { data := #[] }) 1 16 Tryz.underlying33 HI.out.1 HI.out.2.1 HI.out.2.2.1 HI.out.2.2.2 rfl (by decide) _ _ _ rfl (World.ownsRow_nil _ _ _ _) ⟨g1, o1, none⟩ m c1 ((wholeL nn l).map strV) rfl (by rw [List.length_map, H4.out.2.2.1, Nat.mul_one]) ?c1 ?c2 ?c3 ?c4 ?c5 ?_)
            case c1 =>
              intro j u hj
              rw [List.getElem?_map, Option.map_eq_some_iff] at hj
              obtain ⟨x, hx, rfl⟩ := hj
              rw [addr_add]
              have h1 := H4.out.2.1 j x hx
              exact (HX.out.1.1.cell (p := ⟨g1, o1 + j, none⟩) (block_lt_of_cell h1)).trans h1
            case c2 => intro u hu; obtain ⟨x, _, rfl⟩ := List.mem_map.1 hu; rfl
            case c3 => unfold maxLen; omega
            case c4 => omega
            case c5 => exact Nat.le_refl _
            intro v' w4 ho4 hg4 _
            obtain ⟨g, cap, rfl, hgB, hgl, hcap, _, hcs, hfz⟩ := (own_form ho4).resolve_left (by rintro ⟨_, h⟩; omega)
            have b4 : Below wr.heap.size wr w4 := (Below.refl _ _).grown hg4 (Nat.le_refl _) (by intro k hk; cases hk)
            have H5 := Lib.hid (And.intro b4 ho4)
            have ci := hcs i _ (by rw [List.getElem?_map, List.getElem?_eq_getElem (by rw [← H4.out.2.2.1]; exact hlt)]; rfl)
            have ck := hcs k _ (by rw [List.getElem?_map, List.getElem?_eq_getElem (by rw [← H4.out.2.2.1]; omega)]; rfl)
            clear b4 ho4 hg4 hcs
            by_cases hik : k = i
            · have hik' : i = k := hik.symm
              subst hik'
              go_upto_region 13 with fail
              obtain ⟨w5, hw5⟩ : ∃ w5, w5 = (w4.setCell ⟨g, i, none⟩ (.string sz)).setCell ⟨g, i, none⟩ (.string sz) := ⟨_, rfl⟩
              have hwr := H5.out.1.size
              have b5 : Below wr.heap.size wr w5 := by rw [hw5]; exact (H5.out.1.setCell hgB _).setCell hgB _
              have o5 : w5.ownsRow wr.heap.size tStr 1 (.slice (some ⟨g, 0, none⟩) m cap) m ((((wholeL nn l).set i nz).set i nz).map strV) := by
                rw [hw5, List.map_set, List.map_set, show strV nz = .string sz by rw [H0.out.2.2.2.2]]
                exact (World.ownsRow.stored (World.ownsRow.stored H5.out.2 i _).1 i _).1
              rw [← hw5]
              have H6 := Lib.hid (And.intro b5 o5)
              clear b5 o5 hw5 ci ck hfz
              go_wp2_with fail
              obtain ⟨w6, hw6⟩ : ∃ w6, w6 = w5.alloc (.cells #[Value.int .i64 (i : Int), Value.int .i64 (i : Int)] tI) := ⟨_, rfl⟩
              have b6 : Below w5.heap.size w5 w6 := by rw [hw6]; exact (Below.refl _ _).alloc (Nat.le_refl _) _
              have r6 : w6.row w5.heap.size (iV [(i : Int), (i : Int)]) tI := by rw [hw6]; exact World.row.new w5 (iV [(i : Int), (i : Int)]) tI
              rw [← hw6]
              have hX6 := (HX.out.1.below H6.out.1).below b6
              have o6 := H6.out.2.below b6
              have hlen : (((wholeL nn l).set i nz).set i nz).length = m := by rw [List.length_set, List.length_set, H4.out.2.2.1]
              have hF := Fix_back w6 hX6 H4.out.2.2.2.2.2.2.2.2 (by have := HX.out.2; omega) (RS.of_own o6) (lit_rdI (c := 2) _ r6) (by simp) (by
                  intro x hx
                  rcases List.mem_or_eq_of_mem_set hx with hx | rfl
                  · rcases List.mem_or_eq_of_mem_set hx with hx | rfl
                    · exact (PL_one H4.out.2.2.2.2.1).all x hx
                    · exact H0.out.2.2.2.1
                  · exact H0.out.2.2.2.1) H4.out.2.2.2.2.1 (by have := H4.out.2.2.2.2.2.1; omega) (by rw [hlen]; exact H4.out.2.2.2.1) (fun t ht hh => by
                  have h3 : t ≠ i ∧ t ≠ i := by
                    constructor
                    · rintro rfl; rw [hasI_iff.2 (List.mem_cons_self ..)] at hh; cases hh
                    · rintro rfl; rw [hasI_iff.2 (List.mem_cons_of_mem _ (List.mem_cons_self ..))] at hh; cases hh
                  rw [set_ne (fun h => h3.2 h.symm), set_ne (fun h => h3.1 h.symm)]) (loss_two (i := i) (k := i) H4.out.2.2.2.2.2.2.1 H4.out.2.2.2.2.2.2.2.1 (by have := H4.out.2.2.2.1; omega) (by have := H4.out.2.2.2.1; omega) (fun x hx => by simpa using hx) (by simp) (by simp))
              have e0 : (((wholeL nn l).set i nz).set i nz)[i]? = some nz := by
                rw [List.getElem?_set]
                split
                · next h => rw [if_pos (by rw [List.length_set, ← H4.out.2.2.1]; omega)]
                · rw [List.getElem?_set, if_pos rfl, if_pos (by rw [← H4.out.2.2.1]; exact hlt)]
              have c6 : w6.cell? ⟨g, i, none⟩ = some (.string sz) := by
                rw [World.ownsRow.cellAt o6 i (by omega), List.getElem?_map, e0, H0.out.2.2.2.2]; rfl
              have rs6 := (H4.out.1.below (hX6.1 : Below w1.heap.size w1 w6))
              have HF := Lib.hid (And.intro hF (And.intro hX6 (And.intro c6 (And.intro rs6 (And.intro (World.ownsRow.lt o6 g rfl).1 (b6.size))))))
              clear hF hX6 c6 b6 r6 o6 hw6 rs6 e0 hlen
              refine HF.out.1.mono ?_
              rintro e w7 ⟨v7, rfl, rs7, fx7, k7⟩
              have b7 := fx7.1
              have hFw : b < F ∧ F < wr.heap.size := by
                obtain ⟨_, d, hd, _⟩ := HX.out.1
                exact ⟨hd.o1, hd.fx.lt⟩
              have c7 : w7.cell? ⟨g, i, none⟩ = some (.string sz) := by
                rw [cell_block (k7.block g (block_lt_of_cell HF.out.2.2.1) (by rintro (h | h) <;> omega))]
                exact HF.out.2.2.1
              have hE := equal_ok w7 rs7 (by have := H4.out.1.below b7; exact this) (by rw [← H4.out.2.2.1]; omega)
              have HE := Lib.hid (And.intro hE (And.intro c7 fx7))
              clear hE c7 fx7 k7 b7 rs7
              go_wp2_with fail
              refine HE.out.1.mono ?_
              rintro e w8 ⟨rfl, b8⟩
              have c8 := (b8.cell (p := ⟨g, i, none⟩) (block_lt_of_cell HE.out.2.1)).trans HE.out.2.1
              have H8 := Lib.hid (HE.out.2.2.below b8)
              clear b8
              go_wp2_with fail
              go_roundw
              case rel => exact ⟨i + 1, N + 1, by omega, by go_num, H8.out, by have := HX.out.2; omega⟩
              case measure => simp [intOf] <;> omega
            · go_upto_region 13 with fail
              obtain ⟨w5, hw5⟩ : ∃ w5, w5 = (w4.setCell ⟨g, i, none⟩ (.string sz)).setCell ⟨g, k, none⟩ (.string sz) := ⟨_, rfl⟩
              have hwr := H5.out.1.size
              have b5 : Below wr.heap.size wr w5 := by rw [hw5]; exact (H5.out.1.setCell hgB _).setCell hgB _
              have o5 : w5.ownsRow wr.heap.size tStr 1 (.slice (some ⟨g, 0, none⟩) m cap) m ((((wholeL nn l).set i nz).set k nz).map strV) := by
                rw [hw5, List.map_set, List.map_set, show strV nz = .string sz by rw [H0.out.2.2.2.2]]
                exact (World.ownsRow.stored (World.ownsRow.stored H5.out.2 i _).1 k _).1
              rw [← hw5]
              have H6 := Lib.hid (And.intro b5 o5)
              clear b5 o5 hw5 ci ck hfz
              go_wp2_with fail
              obtain ⟨w6, hw6⟩ : ∃ w6, w6 = w5.alloc (.cells #[Value.int .i64 (i : Int), Value.int .i64 (k : Int)] tI) := ⟨_, rfl⟩
              have b6 : Below w5.heap.size w5 w6 := by rw [hw6]; exact (Below.refl _ _).alloc (Nat.le_refl _) _
              have r6 : w6.row w5.heap.size (iV [(i : Int), (k : Int)]) tI := by rw [hw6]; exact World.row.new w5 (iV [(i : Int), (k : Int)]) tI
              rw [← hw6]
              have hX6 := (HX.out.1.below H6.out.1).below b6
              have o6 := H6.out.2.below b6
              have hlen : (((wholeL nn l).set i nz).set k nz).length = m := by rw [List.length_set, List.length_set, H4.out.2.2.1]
              have hF := Fix_back w6 hX6 H4.out.2.2.2.2.2.2.2.2 (by have := HX.out.2; omega) (RS.of_own o6) (lit_rdI (c := 2) _ r6) (by simp) (by
                  intro x hx
                  rcases List.mem_or_eq_of_mem_set hx with hx | rfl
                  · rcases List.mem_or_eq_of_mem_set hx with hx | rfl
                    · exact (PL_one H4.out.2.2.2.2.1).all x hx
                    · exact H0.out.2.2.2.1
                  · exact H0.out.2.2.2.1) H4.out.2.2.2.2.1 (by have := H4.out.2.2.2.2.2.1; omega) (by rw [hlen]; exact H4.out.2.2.2.1) (fun t ht hh => by
                  have h3 : t ≠ i ∧ t ≠ k := by
                    constructor
                    · rintro rfl; rw [hasI_iff.2 (List.mem_cons_self ..)] at hh; cases hh
                    · rintro rfl; rw [hasI_iff.2 (List.mem_cons_of_mem _ (List.mem_cons_self ..))] at hh; cases hh
                  rw [set_ne (fun h => h3.2 h.symm), set_ne (fun h => h3.1 h.symm)]) (loss_two (i := i) (k := k) H4.out.2.2.2.2.2.2.1 H4.out.2.2.2.2.2.2.2.1 (by have := H4.out.2.2.2.1; omega) (by have := H4.out.2.2.2.1; omega) (fun x hx => by simpa using hx) (by simp) (by simp))
              have e0 : (((wholeL nn l).set i nz).set k nz)[i]? = some nz := by
                rw [List.getElem?_set]
                split
                · next h => rw [if_pos (by rw [List.length_set, ← H4.out.2.2.1]; omega)]
                · rw [List.getElem?_set, if_pos rfl, if_pos (by rw [← H4.out.2.2.1]; exact hlt)]
              have c6 : w6.cell? ⟨g, i, none⟩ = some (.string sz) := by
                rw [World.ownsRow.cellAt o6 i (by omega), List.getElem?_map, e0, H0.out.2.2.2.2]; rfl
              have rs6 := (H4.out.1.below (hX6.1 : Below w1.heap.size w1 w6))
              have HF := Lib.hid (And.intro hF (And.intro hX6 (And.intro c6 (And.intro rs6 (And.intro (World.ownsRow.lt o6 g rfl).1 (b6.size))))))
              clear hF hX6 c6 b6 r6 o6 hw6 rs6 e0 hlen
              refine HF.out.1.mono ?_
              rintro e w7 ⟨v7, rfl, rs7, fx7, k7⟩
              have b7 := fx7.1
              have hFw : b < F ∧ F < wr.heap.size := by
                obtain ⟨_, d, hd, _⟩ := HX.out.1
                exact ⟨hd.o1, hd.fx.lt⟩
              have c7 : w7.cell? ⟨g, i, none⟩ = some (.string sz) := by
                rw [cell_block (k7.block g (block_lt_of_cell HF.out.2.2.1) (by rintro (h | h) <;> omega))]
                exact HF.out.2.2.1
              have hE := equal_ok w7 rs7 (by have := H4.out.1.below b7; exact this) (by rw [← H4.out.2.2.1]; omega)
              have HE := Lib.hid (And.intro hE (And.intro c7 fx7))
              clear hE c7 fx7 k7 b7 rs7
              go_wp2_with fail
              refine HE.out.1.mono ?_
              rintro e w8 ⟨rfl, b8⟩
              have c8 := (b8.cell (p := ⟨g, i, none⟩) (block_lt_of_cell HE.out.2.1)).trans HE.out.2.1
              have H8 := Lib.hid (HE.out.2.2.below b8)
              clear b8
              go_wp2_with fail
              go_roundw
              case rel => exact ⟨k + 1, N + 1, by omega, by go_num, H8.out, by have := HX.out.2; omega⟩
              case measure => simp [intOf] <;> omega
          · obtain rfl : k = i + 1 := by omega
            go_wp2_with fail
            go_roundw
            case rel => exact ⟨i + 1, N, by omega, by go_num, HX.out.1, by have := HX.out.2; omega⟩
            case measure => simp [intOf] <;> omega
      · obtain rfl : i = m := by omega
        go_wp2_with fail
        go_returns
        exact ⟨rfl, H1.out.2.trans (HX.out.1.1.mono H1.out.2.size)⟩
end Go.Proofs.YtjoipibldahbhaaGreatDoor
/- RepairThree: with three columns lost nothing is told: the walk. -/
namespace Go.Proofs.YtjoipibldahbhaaGreatDoor
open Go Go.RowKit
set_option maxRecDepth 100000
variable {w w' : World} {ls ds : List (List Nat)}
theorem tmod_nat {x : Int} {m : Nat} (hm : 0 < m) : ∃ A : Nat, (max 0 x).tmod (m : Int) = (A : Int) ∧ A < m :=
  ⟨((max 0 x).tmod (m : Int)).toNat, by rw [Int.tmod_eq_emod_of_nonneg (by omega)]; have := Int.emod_nonneg (max 0 x) (show (m : Int) ≠ 0 by omega); omega, by rw [Int.tmod_eq_emod_of_nonneg (by omega)]; have := Int.emod_lt_of_pos (max 0 x) (show (0 : Int) < m by omega); omega⟩
theorem tmod_other {x : Int} {m A : Nat} (hm : 4 ≤ m) (hm32 : m ≤ 32) (hA : A < m) : ∃ B : Nat, (wrap64 ((A : Int) + 1 + max 0 x % ((m : Int) - 1))).tmod (m : Int) = (B : Int) ∧ B < m ∧ A ≠ B := by
  obtain ⟨R, hR⟩ : ∃ R, R = max 0 x % ((m : Int) - 1) := ⟨_, rfl⟩
  have h1 := Int.emod_nonneg (max 0 x) (show (m : Int) - 1 ≠ 0 by omega)
  have h2 := Int.emod_lt_of_pos (max 0 x) (show (0 : Int) < (m : Int) - 1 by omega)
  rw [← hR] at h1 h2 ⊢
  rw [show wrap64 ((A : Int) + 1 + R) = (A : Int) + 1 + R by unfold wrap64; omega, Int.tmod_eq_emod_of_nonneg (by omega)]
  by_cases h3 : (A : Int) + 1 + R < m
  · rw [Int.emod_eq_of_lt (by omega) h3]
    exact ⟨(A + 1 + R).toNat, by omega, by omega, by omega⟩
  · have e : ((A : Int) + 1 + R) % (m : Int) = A + 1 + R - m := by
      rw [← Int.sub_emod_right, Int.emod_eq_of_lt (by omega) (by omega)]
    rw [e]
    exact ⟨(A + 1 + R - m).toNat, by omega, by omega, by omega⟩
set_option maxHeartbeats 4000000 in
theorem three_walk {a : Option Addr} {n c : Nat} {x0 x1 x2 : Int} (W : World) (hN : Nam W) (hs : RS W (.slice a n c) ds) (hall : AllC ds) :
    Calls Tryz.prog 7 #[.slice a n c, .agg #[.int .i64 x0, .int .i64 x1, .int .i64 x2]] W fun e W' => e = .returned (.bool true) ∧ Below W.heap.size W W' := by
  obtain ⟨m2, hm2⟩ : ∃ m2, m2 = min n 12 := ⟨_, rfl⟩
  have hmin : min (n : Int) 12 = (m2 : Int) := by omega
  have hm2n : m2 ≤ n := by omega
  have hnc : n ≤ c := by obtain ⟨a', c', hv, hc, _⟩ := hs; cases hv; exact hc
  have hR := fun (w : World) (hb : Below W.heap.size W w) => row_any w ((hs.take hm2n).below hb) (hall.take m2)
  have hcs := rowL_cases (ds.take m2) (hall.take m2)
  obtain ⟨all, ha⟩ : ∃ all, all = rowL (ds.take m2) := ⟨_, rfl⟩
  rw [← ha] at hcs
  simp only [← ha] at hR
  have H0 := Lib.hid (And.intro hN (And.intro hR hcs))
  clear hN hR hcs ha hall hm2
  go_enter Tryz.func7, Tryz.ntmps7
  go_wp2_with fail
  obtain ⟨gx, hgx⟩ : ∃ g, g = W.heap.size := ⟨_, rfl⟩
  obtain ⟨W0, hW0⟩ : ∃ w, w = W.alloc (.cells #[.int .i64 x0, .int .i64 x1, .int .i64 x2] 47) := ⟨_, rfl⟩
  have B0 : Below W.heap.size W W0 := by rw [hW0]; exact (Below.refl _ _).alloc (Nat.le_refl _) _
  have rx : W0.row gx [.int .i64 x0, .int .i64 x1, .int .i64 x2] 47 := by rw [hW0, hgx]; exact World.row.new W [.int .i64 x0, .int .i64 x1, .int .i64 x2] 47
  have hR := H0.out.2.1 W0 B0
  rw [← hW0, ← hgx]
  have HB := Lib.hid (And.intro B0 (And.intro rx hR))
  clear B0 rx hR hW0 hgx
  refine HB.out.2.2.mono ?_
  rintro e w1 ⟨v1, rfl, rs1, b1⟩
  have B1 : Below W.heap.size W w1 := HB.out.1.trans (b1.mono HB.out.1.size)
  have H1 := Lib.hid (And.intro rs1 (And.intro B1 (HB.out.2.1.below b1 HB.out.2.1.lt)))
  have hN1 := H0.out.1.below B1 H0.out.1.lt
  have HN := Lib.hid hN1
  clear rs1 b1 B1 hN1
  rcases H0.out.2.2 with hnil | ⟨nn, l, hn4, hl2, hl30, _, ho, hwh⟩
  · have hr := H1.out.1
    rw [hnil] at hr
    obtain ⟨a1, c1, rfl⟩ := hr.len
    clear hr
    go_wp2_with fail
    refine (wakes_any w1 HN.out).mono ?_
    rintro e w2 ⟨rfl, b2⟩
    have B2 := Lib.hid (H1.out.2.1.trans (b2.mono H1.out.2.1.size))
    clear b2
    go_wp2_with fail
    go_returns
    exact ⟨rfl, B2.out⟩
  · have hr := H1.out.1
    rw [hwh] at hr
    obtain ⟨_, g1, o1, c1, rfl, hc1, hcell⟩ := hr.cases.resolve_left (by rintro ⟨h, _⟩; have := congrArg List.length h; rw [wholeL_len] at this; simp at this)
    obtain ⟨m, hm⟩ : ∃ m, m = (wholeL nn l).length := ⟨_, rfl⟩
    rw [← hm] at hc1 hr
    rw [← hm]
    have hml : m = l.length + 2 := by rw [hm, wholeL_len]
    have hm32 : m ≤ 32 := by omega
    have hm4 : 4 ≤ m := by omega
    obtain ⟨A, hA, hAm⟩ := tmod_nat (x := x0) (m := m) (by omega)
    obtain ⟨B, hB, hBm, hAB⟩ := tmod_other (x := x1) hm4 hm32 hAm
    obtain ⟨C, hC, hCm⟩ := tmod_nat (x := x2) (m := m) (by omega)
    have d0 := H1.out.2.2.cell 0 rfl
    have d1 := H1.out.2.2.cell 1 rfl
    have d2 := H1.out.2.2.cell 2 rfl
    have H4 := Lib.hid (And.intro hr (And.intro hcell (And.intro hm (And.intro hml (And.intro ho (And.intro hwh (And.intro hl2 hl30)))))))
    clear hr hcell hm hml ho hwh hl2 hl30
    have HAB := Lib.hid hAB
    clear hAB
    go_upto_region 7 with fail
    have hX3 : ((C : Int) = (A : Int)) = (C = A) ∧ ((C : Int) = (B : Int)) = (C = B) := by constructor <;> (apply propext; omega)
    clear hX3 d0 d1 d2 hA hB hC hmin
    go_wp2_with fail
    refine (NewF_any w1).mono ?_
    rintro e w2 ⟨b, F, rfl, hb, hf, b2⟩
    have HF := Lib.hid (And.intro hb (And.intro hf b2))
    clear hb hf b2
    go_wp2_with fail
    obtain ⟨w3, hw3⟩ : ∃ w3, w3 = w2.alloc (.cells #[Value.int .i64 (A : Int), Value.int .i64 (B : Int), Value.int .i64 (C : Int)] tI) := ⟨_, rfl⟩
    have b3 : Below w2.heap.size w2 w3 := by rw [hw3]; exact (Below.refl _ _).alloc (Nat.le_refl _) _
    have r3 : w3.row w2.heap.size (iV [(A : Int), (B : Int), (C : Int)]) tI := by rw [hw3]; exact World.row.new w2 (iV [(A : Int), (B : Int), (C : Int)]) tI
    rw [← hw3]
    have rs3 : RS w3 (.slice (some ⟨g1, o1, none⟩) m c1) (wholeL nn l) := (H4.out.1.below HF.out.2.2).below b3
    have H5 := Lib.hid (And.intro r3 (And.intro rs3 ((H1.out.2.1.trans (HF.out.2.2.mono H1.out.2.1.size)).trans (b3.mono (Nat.le_trans H1.out.2.1.size HF.out.2.2.size)))))
    have hX : Fx w1 w3 b F 0 := Fx.below ⟨HF.out.2.2, _, HF.out.2.1, fun i => ⟨Int.le_refl _, Int.le_refl _⟩⟩ b3
    have HX := Lib.hid hX
    clear r3 rs3 b3 hX hw3
    by_cases hC3 : C = A ∨ C = B
    · have hLE : lossE l.length [(A : Int), (B : Int), (C : Int)] = 0 := loss_two (i := A) (k := B) H4.out.2.2.2.2.2.2.1 H4.out.2.2.2.2.2.2.2 (by have := H4.out.2.2.2.1; omega) (by have := H4.out.2.2.2.1; omega) (fun x hx => by simp at hx; omega) (by simp) (by simp)
      have hF := Fix_back w3 HX.out HF.out.1 (by omega) H5.out.2.1 (lit_rdI (c := 3) _ H5.out.1) (by simp) (PL_one H4.out.2.2.2.2.1).all H4.out.2.2.2.2.1 (by omega) (wholeL_len) (fun t _ _ => rfl) hLE
      refine hF.mono ?_
      rintro e w4 ⟨v4, rfl, rs4, fx4, k4⟩
      have hE := fun w5 (hb : Below w4.heap.size w4 w5) => equal_ok w5 (rs4.below hb) ((H4.out.1.below fx4.1).below hb) (by rw [← H4.out.2.2.1]; omega)
      have H6 := Lib.hid (And.intro hE fx4.1)
      clear hE fx4 k4 rs4 hF hLE
      obtain ⟨b1, hb1⟩ : ∃ x, x = ((C : Int) == (A : Int)) := ⟨_, rfl⟩
      obtain ⟨b2, hb2⟩ : ∃ x, x = ((C : Int) == (B : Int)) := ⟨_, rfl⟩
      have hor : (b1 || b2) = true := by rw [hb1, hb2]; simp; omega
      have hb1' := hb1.symm
      have hb2' := hb2.symm
      clear hb1 hb2 hC3
      cases b1 <;> cases b2 <;> (first | (exfalso; revert hor; simp; done) | skip)
      all_goals
        clear hor
        go_wp2_with fail
        refine (wakes_any w4 (HN.out.below H6.out.2 (Nat.lt_of_lt_of_le H0.out.1.lt H1.out.2.1.size))).mono ?_
        rintro e w5 ⟨rfl, b5⟩
        have hE := H6.out.1 w5 b5
        have H7 := Lib.hid (And.intro hE (H6.out.2.trans (b5.mono H6.out.2.size)))
        clear hE b5
        go_wp2_with fail
        refine H7.out.1.mono ?_
        rintro e w6 ⟨rfl, b6⟩
        have H8 := Lib.hid (H1.out.2.1.trans ((H7.out.2.trans (b6.mono H7.out.2.size)).mono H1.out.2.1.size))
        clear b6
        go_wp2_with fail
        go_returns
        exact ⟨rfl, H8.out⟩
    · have hLE : lossE (((wholeL nn l).length : Int) - 2) [(A : Int), (B : Int), (C : Int)] = 20 := by
        rw [wholeL_len, show ((l.length + 2 : Nat) : Int) - 2 = (l.length : Int) by omega]
        exact loss_three H4.out.2.2.2.2.2.2.1 H4.out.2.2.2.2.2.2.2 (by have := H4.out.2.2.2.1; omega) (by have := H4.out.2.2.2.1; omega) (by have := H4.out.2.2.2.1; omega) HAB.out (by omega) (by omega)
      have hfE : fixE (wholeL nn l) [(A : Int), (B : Int), (C : Int)] = 20 := by unfold fixE; rw [hLE, if_pos (by decide)]
      have hF := Fix_loss w3 ⟨F, 0, none⟩ H5.out.2.1 (lit_rdI (c := 3) _ H5.out.1) (by simp) (by rw [hLE]; decide) (by rw [← H4.out.2.2.1]; omega)
      rw [hfE] at hF
      refine hF.mono ?_
      rintro e w4 ⟨rfl, b4⟩
      have H6 := Lib.hid (HX.out.1.trans (b4.mono HX.out.1.size))
      clear b4 hF hLE hfE
      obtain ⟨b1, hb1⟩ : ∃ x, x = ((C : Int) == (A : Int)) := ⟨_, rfl⟩
      obtain ⟨b2, hb2⟩ : ∃ x, x = ((C : Int) == (B : Int)) := ⟨_, rfl⟩
      obtain rfl : b1 = false := by rw [hb1]; simp; omega
      obtain rfl : b2 = false := by rw [hb2]; simp; omega
      have hb1' := hb1.symm
      have hb2' := hb2.symm
      clear hb1 hb2 hC3
      go_wp2_with fail
      refine (wakes_any w4 (HN.out.below H6.out (Nat.lt_of_lt_of_le H0.out.1.lt H1.out.2.1.size))).mono ?_
      rintro e w5 ⟨rfl, b5⟩
      have H7 := Lib.hid (H1.out.2.1.trans ((H6.out.trans (b5.mono H6.out.size)).mono H1.out.2.1.size))
      clear b5
      go_wp2_with fail
      go_returns
      exact ⟨rfl, H7.out⟩
theorem open_three {H : Type} {enc : TypeId × Value → H} {W : World} {base : Nat} {sp : Nat → Bool} {held : Bool} {v : Value} {d : DataW H} {p : List MemPlace} {r : Reach}
    (hv : Value.okWide Tryz.prog W r base 47 v) (h : DataW.Trod enc Tryz.prog W 0 sp held 47 v d p) : ∃ a b c : Int, v = .agg #[.int .i64 a, .int .i64 b, .int .i64 c] := by
  obtain ⟨zs, hl, rfl, _⟩ := open_array_ints Tryz.underlying47 Tryz.underlying3 (by kernel_rfl) (by kernel_rfl) hv h
  match zs, hl with
  | [a, b, c], _ => exact ⟨a, b, c, rfl⟩
theorem open_two {H : Type} {enc : TypeId × Value → H} {W : World} {base : Nat} {sp : Nat → Bool} {held : Bool} {v : Value} {d : DataW H} {p : List MemPlace} {r : Reach}
    (hv : Value.okWide Tryz.prog W r base 45 v) (h : DataW.Trod enc Tryz.prog W 0 sp held 45 v d p) : ∃ a b : Int, v = .agg #[.int .i64 a, .int .i64 b] := by
  obtain ⟨zs, hl, rfl, _⟩ := open_array_ints Tryz.underlying45 Tryz.underlying3 (by kernel_rfl) (by kernel_rfl) hv h
  match zs, hl with
  | [a, b], _ => exact ⟨a, b, rfl⟩
end Go.Proofs.YtjoipibldahbhaaGreatDoor
/- RepairWide: so of a row as wide as may be: the walk. -/
namespace Go.Proofs.YtjoipibldahbhaaGreatDoor
open Go Go.RowKit
set_option maxRecDepth 100000
variable {w w' : World} {ls ds : List (List Nat)}
theorem rowL_30 (h : ds.length = 30) (hall : AllC ds) : ∃ n l, n ≤ 40 ∧ l.length = 30 ∧ One n l ∧ rowL ds = wholeL n l := by
  unfold rowL
  rw [if_pos (by omega)]
  exact ⟨_, _, evenN_le 40, by rw [cutL_len]; omega, cutL_one 40 hall, rfl⟩
def sliceLen : Value → Nat
  | .slice _ n _ => n
  | _ => 0
set_option maxHeartbeats 4000000 in
theorem wide_walk {a : Option Addr} {n c : Nat} {x0 x1 : Int} (W : World) (hN : Nam W) (hs : RS W (.slice a n c) ds) (hall : AllC ds) :
    Calls Tryz.prog 6 #[.slice a n c, .agg #[.int .i64 x0, .int .i64 x1]] W fun e W' => e = .returned (.bool true) ∧ Below W.heap.size W W' := by
  have hR := fun (w : World) (hb : Below W.heap.size W w) => cut_ok 8 true w (hs.below hb) (by omega)
  have hA := cutL_all (ds := ds) 8 true hall
  have hL := cutL_len (ds := ds) 8 true
  obtain ⟨i0, hi0, hz0, hz1, hz2⟩ := info_str
  have HI : Hid (Tryz.prog.info? tStr = some i0 ∧ i0.zero = some (.string { data := #[] }) ∧ i0.size = 1 ∧ i0.bytes = 16) := ⟨hi0, hz0, hz1, hz2⟩
  have H0 := Lib.hid (And.intro hN (And.intro hR (And.intro hA hL)))
  clear hN hR hA hL hs hall hi0 hz0 hz1 hz2
  go_enter Tryz.func6, Tryz.ntmps6
  go_wp2_with fail
  obtain ⟨gx, hgx⟩ : ∃ g, g = W.heap.size := ⟨_, rfl⟩
  obtain ⟨W0, hW0⟩ : ∃ w, w = W.alloc (.cells #[.int .i64 x0, .int .i64 x1] 45) := ⟨_, rfl⟩
  have B0 : Below W.heap.size W W0 := by rw [hW0]; exact (Below.refl _ _).alloc (Nat.le_refl _) _
  have rx : W0.row gx [.int .i64 x0, .int .i64 x1] 45 := by rw [hW0, hgx]; exact World.row.new W [.int .i64 x0, .int .i64 x1] 45
  have hR := H0.out.2.1 W0 B0
  rw [← hW0, ← hgx]
  have HB := Lib.hid (And.intro B0 (And.intro rx hR))
  clear B0 rx hR hW0 hgx
  refine HB.out.2.2.mono ?_
  rintro e w1 ⟨v1, rfl, ow1, b1⟩
  have H1 := Lib.hid (And.intro ow1 b1)
  clear ow1 b1
  go_wp2_with fail
  go_loopw [5] (fun x wr => ∃ (os : List (List Nat)), os.length ≤ 36 ∧ AllC os ∧ wr.ownsRow W0.heap.size tStr 1 x os.length (os.map strV) ∧ Below W0.heap.size W0 wr) (fun x _ => 30 - sliceLen x)
  case atStart => exact ⟨_, by have := H0.out.2.2.2; omega, H0.out.2.2.1, H1.out.1, H1.out.2⟩
  case round =>
    obtain ⟨os, hol, hoA, ho, hB⟩ := hrel
    obtain ⟨p, hp⟩ : ∃ p, p = os.length := ⟨_, rfl⟩
    rw [← hp] at hol ho
    obtain ⟨ao, co, rfl⟩ := own_shape1 ho
    have HX := Lib.hid (And.intro hoA (And.intro ho hB))
    have HP := Lib.hid hp
    clear hoA ho hB hp
    by_cases hlt : p < 30
    · by_cases h0 : p = 0
      · have e0 : (0 < p) = False := eq_false (by omega)
        clear h0
        go_wp2_with (at_builtin; refine wpList_append_own _ rfl _ _ 33 rfl W0.heap.size tStr i0 (.string { data := #[] }) 1 16 Tryz.underlying33 HI.out.1 HI.out.2.1 HI.out.2.2.1 HI.out.2.2.2 rfl (by decide) _ _ _ rfl (HX.out.2.1.alloc _) ⟨wr.heap.size, 0, none⟩ 1 1 [(Value.string { data := #[] })] rfl rfl ?c1 ?c2 ?c3 ?c4 ?c5 ?_)
        case c1 => exact one_cell _ _ _
        case c2 => simp [Value.oneCell']
        case c3 => unfold maxLen; omega
        case c4 => omega
        case c5 => have := HX.out.2.2.size; simp; omega
        intro v' w3 ho3 hg3 _
        have B3 : Below W0.heap.size W0 w3 := (HX.out.2.2.alloc HX.out.2.2.size _).grown hg3 (by have := HX.out.2.2.size; simp; omega) (fun k hk => by have := (HX.out.2.1.lt k hk).1; have := HX.out.2.2.size; omega)
        rw [show (Value.string { data := #[] }) = strV ([]) from rfl, HP.out] at ho3
        have ho4 := strs_snoc ho3
        obtain ⟨av, cv, rfl⟩ := own_shape1 ho4
        have H3 := Lib.hid (And.intro B3 ho4)
        clear B3 ho4 ho3 hg3
        go_wp2_with fail
        go_roundw
        case rel => exact ⟨os ++ [[]], by have := HP.out; rw [List.length_append, List.length_singleton]; omega, fun x hx => (List.mem_append.1 hx).elim (HX.out.1 x) (fun h => by rw [List.mem_singleton.1 h]; exact (fun b hb => by cases hb)), H3.out.2, H3.out.1⟩
        case measure => have := HP.out; simp [sliceLen]; omega
      · have e0 : (0 < p) = True := eq_true (by omega)
        obtain ⟨g, cap, hv, _, _, _, _, hcs, hfz⟩ := (own_form HX.out.2.1).resolve_left (by rintro ⟨_, h⟩; exact h0 h)
        obtain ⟨rfl, rfl⟩ : ao = some ⟨g, 0, none⟩ ∧ co = cap := by simpa using hv
        obtain ⟨s0, hs0⟩ : ∃ s0, os[0]? = some s0 := ⟨_, List.getElem?_eq_getElem (by have := HP.out; omega)⟩
        have d0 := hcs 0 (strV s0) (by rw [List.getElem?_map, hs0]; rfl)
        obtain ⟨sx, hsx⟩ : ∃ s, s = mk s0 := ⟨_, rfl⟩
        unfold strV at d0
        rw [← hsx] at d0
        have HS := Lib.hid (And.intro hsx (HX.out.1 s0 (List.mem_of_getElem? hs0)))
        clear hsx hs0 hcs hv h0
        go_wp2_with (at_builtin; refine wpList_append_own _ rfl _ _ 33 rfl W0.heap.size tStr i0 (.string { data := #[] }) 1 16 Tryz.underlying33 HI.out.1 HI.out.2.1 HI.out.2.2.1 HI.out.2.2.2 rfl (by decide) _ _ _ rfl (HX.out.2.1.alloc _) ⟨wr.heap.size, 0, none⟩ 1 1 [(Value.string sx)] rfl rfl ?c1 ?c2 ?c3 ?c4 ?c5 ?_)
        case c1 => exact one_cell _ _ _
        case c2 => simp [Value.oneCell']
        case c3 => unfold maxLen; omega
        case c4 => omega
        case c5 => have := HX.out.2.2.size; simp; omega
        intro v' w3 ho3 hg3 _
        have B3 : Below W0.heap.size W0 w3 := (HX.out.2.2.alloc HX.out.2.2.size _).grown hg3 (by have := HX.out.2.2.size; simp; omega) (fun k hk => by have := (HX.out.2.1.lt k hk).1; have := HX.out.2.2.size; omega)
        rw [show (Value.string sx) = strV (s0) from (by rw [HS.out.1]), HP.out] at ho3
        have ho4 := strs_snoc ho3
        obtain ⟨av, cv, rfl⟩ := own_shape1 ho4
        have H3 := Lib.hid (And.intro B3 ho4)
        clear B3 ho4 ho3 hg3
        go_wp2_with fail
        go_roundw
        case rel => exact ⟨os ++ [s0], by have := HP.out; rw [List.length_append, List.length_singleton]; omega, fun x hx => (List.mem_append.1 hx).elim (HX.out.1 x) (fun h => by rw [List.mem_singleton.1 h]; exact HS.out.2), H3.out.2, H3.out.1⟩
        case measure => have := HP.out; simp [sliceLen]; omega
    · have hrs := RS.of_own HX.out.2.1
      have hpc : p ≤ co := by obtain ⟨a', c', hv, hc, _⟩ := hrs; cases hv; have := HP.out; omega
      have hR2 := row_any wr (hrs.take (m := 30) (by omega)) (HX.out.1.take 30)
      obtain ⟨nn, l, hn4, hl30, ho, hwh⟩ := rowL_30 (ds := os.take 30) (by rw [List.length_take]; have := HP.out; omega) (HX.out.1.take 30)
      rw [hwh] at hR2
      have H2 := Lib.hid (And.intro hR2 (And.intro ho hl30))
      have h30 : 30 ≤ p := by omega
      clear hrs hR2 ho hl30 hwh
      go_wp2_with fail
      refine H2.out.1.mono ?_
      rintro e w2 ⟨v2, rfl, rs2, b2⟩
      have B2 : Below W.heap.size W w2 := HB.out.1.trans ((HX.out.2.2.trans (b2.mono HX.out.2.2.size)).mono HB.out.1.size)
      have rx2 := (HB.out.2.1.below (HX.out.2.2.trans (b2.mono HX.out.2.2.size)) HB.out.2.1.lt)
      have hN2 := H0.out.1.below B2 H0.out.1.lt
      obtain ⟨_, g1, o1, c1, rfl, hc1, hcell⟩ := rs2.cases.resolve_left (by rintro ⟨h, _⟩; have := congrArg List.length h; rw [wholeL_len] at this; simp at this)
      have hm : (wholeL nn l).length = 32 := by rw [wholeL_len, H2.out.2.2]
      rw [hm] at rs2 hc1 ⊢
      have H4 := Lib.hid (And.intro rs2 (And.intro hcell (And.intro B2 (And.intro rx2 hN2))))
      clear rs2 hcell B2 rx2 hN2 b2 hm
      go_wp2_with fail
      refine (wakes_any w2 H4.out.2.2.2.2).mono ?_
      rintro e w3 ⟨rfl, b3⟩
      have rx3 := H4.out.2.2.2.1.below b3 H4.out.2.2.2.1.lt
      have d0 := rx3.cell 0 rfl
      have d1 := rx3.cell 1 rfl
      obtain ⟨A, hA, hAm⟩ := tmod_nat (x := x0) (m := 32) (by omega)
      obtain ⟨B, hB, hBm⟩ := tmod_nat (x := x1) (m := 32) (by omega)
      have hA' : (max 0 x0).tmod 32 = (A : Int) := hA
      have hB' : (max 0 x1).tmod 32 = (B : Int) := hB
      have H5 := Lib.hid (And.intro (H4.out.1.below b3) (And.intro (H4.out.2.2.1.trans (b3.mono H4.out.2.2.1.size)) (H4.out.2.2.2.2.below b3 H4.out.2.2.2.2.lt)))
      clear b3 rx3 hA hB
      go_upto_region 10 with fail
      go_quiet (fail)
      go_upto_region 11 with fail
      refine wp_world (fun wz => RS wz (.slice (some ⟨g1, o1, none⟩) 32 c1) (wholeL nn l) ∧ Below W.heap.size W wz ∧ Nam wz) ⟨H5.out.1.below ((Below.refl _ _).drewN _), H5.out.2.1.drewN _, H5.out.2.2.below ((Below.refl w3.heap.size _).drewN _) H5.out.2.2.lt⟩ ?_
      rintro wr3 ⟨rs3, B3, N3⟩
      obtain ⟨_, g2, o2, c2, hv2, hc2, hcell2⟩ := rs3.cases.resolve_left (by rintro ⟨h, _⟩; have := congrArg List.length h; rw [wholeL_len] at this; simp at this)
      obtain ⟨rfl, rfl, rfl⟩ : g1 = g2 ∧ o1 = o2 ∧ c1 = c2 := by
        simp only [Value.slice.injEq, Option.some.injEq, Addr.mk.injEq] at hv2
        omega
      have H5 := Lib.hid (And.intro rs3 (And.intro B3 (And.intro hcell2 N3)))
      clear rs3 B3 N3 hv2 hc2 hcell2
      go_wp2_with (at_builtin; refine wpList_append_own _ rfl _ _ 33 rfl wr3.heap.size tStr i0 (.string { data := #[] }) 1 16 Tryz.underlying33 HI.out.1 HI.out.2.1 HI.out.2.2.1 HI.out.2.2.2 rfl (by decide) _ _ _ rfl (World.ownsRow_nil _ _ _ _) ⟨g1, o1, none⟩ 32 c1 ((wholeL nn l).map strV) rfl (by rw [List.length_map, wholeL_len, H2.out.2.2]) ?c1 ?c2 ?c3 ?c4 ?c5 ?_)
      case c1 =>
        intro j u hj
        rw [List.getElem?_map, Option.map_eq_some_iff] at hj
        obtain ⟨x, hx, rfl⟩ := hj
        rw [addr_add]
        exact H5.out.2.2.1 j x hx
      case c2 => intro u hu; obtain ⟨x, _, rfl⟩ := List.mem_map.1 hu; rfl
      case c3 => unfold maxLen; omega
      case c4 => omega
      case c5 => exact Nat.le_refl _
      intro v' w4 ho4 hg4 _
      obtain ⟨g, cap4, rfl, hgB, hgl, hcap4, _, hcs4, hfz4⟩ := (own_form ho4).resolve_left (by rintro ⟨_, h⟩; omega)
      have b4 : Below wr3.heap.size wr3 w4 := (Below.refl _ _).grown hg4 (Nat.le_refl _) (by intro k hk; cases hk)
      have H6 := Lib.hid (And.intro b4 ho4)
      have hwl : (wholeL nn l).length = 32 := by rw [wholeL_len, H2.out.2.2]
      obtain ⟨ui, ci⟩ : ∃ u, w4.cell? ⟨g, A, none⟩ = some u := ⟨_, hcs4 A _ (by rw [List.getElem?_map, List.getElem?_eq_getElem (by rw [hwl]; exact hAm)]; rfl)⟩
      obtain ⟨uk, ck⟩ : ∃ u, w4.cell? ⟨g, B, none⟩ = some u := ⟨_, hcs4 B _ (by rw [List.getElem?_map, List.getElem?_eq_getElem (by rw [hwl]; exact hBm)]; rfl)⟩
      clear b4 ho4 hg4 hcs4 hwl
      by_cases hik : A = B
      · subst hik
        go_upto_region 13 with fail
        obtain ⟨w5, hw5⟩ : ∃ w5, w5 = (w4.setCell ⟨g, A, none⟩ (.string { data := #[120] })).setCell ⟨g, A, none⟩ (.string { data := #[121, 122] }) := ⟨_, rfl⟩
        have hwr := H6.out.1.size
        have b5 : Below wr3.heap.size wr3 w5 := by rw [hw5]; exact (H6.out.1.setCell hgB _).setCell hgB _
        have o5 : w5.ownsRow wr3.heap.size tStr 1 (.slice (some ⟨g, 0, none⟩) 32 cap4) 32 ((((wholeL nn l).set A [120]).set A [121, 122]).map strV) := by
          rw [hw5, List.map_set, List.map_set]
          exact (World.ownsRow.stored (World.ownsRow.stored H6.out.2 A _).1 A _).1
        rw [← hw5]
        have H7 := Lib.hid (And.intro b5 o5)
        clear b5 o5 hw5 ci ck hfz4
        go_wp2_with fail
        refine (NewF_any w5).mono ?_
        rintro e w6 ⟨b, F, rfl, hb, hf, b6⟩
        have HF := Lib.hid (And.intro hb (And.intro hf b6))
        clear hb hf b6
        go_wp2_with fail
        obtain ⟨w7, hw7⟩ : ∃ w7, w7 = w6.alloc (.cells #[Value.int .i64 (A : Int), Value.int .i64 (A : Int), Value.int .i64 (A : Int)] tI) := ⟨_, rfl⟩
        have b7 : Below w6.heap.size w6 w7 := by rw [hw7]; exact (Below.refl _ _).alloc (Nat.le_refl _) _
        have r7 : w7.row w6.heap.size (iV [(A : Int), (A : Int), (A : Int)]) tI := by rw [hw7]; exact World.row.new w6 (iV [(A : Int), (A : Int), (A : Int)]) tI
        rw [← hw7]
        have B57 : Below w5.heap.size w5 w7 := HF.out.2.2.trans (b7.mono HF.out.2.2.size)
        have o7 := H7.out.2.below B57
        have hX : Fx w5 w7 b F 0 := ⟨B57, _, HF.out.2.1.below b7, fun i => ⟨Int.le_refl _, Int.le_refl _⟩⟩
        have hlen : (((wholeL nn l).set A [120]).set A [121, 122]).length = 32 := by rw [List.length_set, List.length_set, wholeL_len, H2.out.2.2]
        have hF := Fix_back w7 hX HF.out.1 (by omega) (RS.of_own o7) (lit_rdI (c := 3) _ r7) (by simp) (by
            intro x hx
            rcases List.mem_or_eq_of_mem_set hx with hx | rfl
            · rcases List.mem_or_eq_of_mem_set hx with hx | rfl
              · exact (PL_one H2.out.2.1).all x hx
              · intro z hz; simp at hz; omega
            · intro z hz; simp at hz; omega) H2.out.2.1 (by omega) (by rw [hlen, H2.out.2.2]) (fun t ht hh => by
            have h3 : t ≠ A ∧ t ≠ A := by
              constructor
              · rintro rfl; rw [hasI_iff.2 (by simp)] at hh; cases hh
              · rintro rfl; rw [hasI_iff.2 (by simp)] at hh; cases hh
            rw [set_ne (fun h => h3.2 h.symm), set_ne (fun h => h3.1 h.symm)]) (loss_two (i := A) (k := A) (by rw [H2.out.2.2]; decide) (by rw [H2.out.2.2]; decide) (by rw [H2.out.2.2]; exact hAm) (by rw [H2.out.2.2]; assumption) (fun x hx => by simp at hx; omega) (by simp) (by simp))
        have HF2 := Lib.hid (And.intro hF (And.intro B57 (H5.out.1.below (H7.out.1.trans (B57.mono H7.out.1.size)))))
        clear hF hX b7 r7 o7 hw7 B57 hlen
        refine HF2.out.1.mono ?_
        rintro e w8 ⟨v8, rfl, rs8, fx8, k8⟩
        have B58 : Below wr3.heap.size wr3 w8 := H7.out.1.trans (fx8.1.mono H7.out.1.size)
        have hE := equal_ok w8 rs8 (by have h := H5.out.1.below B58; exact h) (by rw [wholeL_len, H2.out.2.2]; decide)
        have HE := Lib.hid (And.intro hE (H5.out.2.1.trans (B58.mono H5.out.2.1.size)))
        clear hE B58 fx8 k8 rs8
        go_wp2_with fail
        refine HE.out.1.mono ?_
        rintro e w9 ⟨rfl, b9⟩
        have H9 := Lib.hid (HE.out.2.trans (b9.mono HE.out.2.size))
        clear b9
        go_wp2_with fail
        go_returns
        exact ⟨rfl, H9.out⟩
      · go_upto_region 13 with fail
        obtain ⟨w5, hw5⟩ : ∃ w5, w5 = (w4.setCell ⟨g, A, none⟩ (.string { data := #[120] })).setCell ⟨g, B, none⟩ (.string { data := #[121, 122] }) := ⟨_, rfl⟩
        have hwr := H6.out.1.size
        have b5 : Below wr3.heap.size wr3 w5 := by rw [hw5]; exact (H6.out.1.setCell hgB _).setCell hgB _
        have o5 : w5.ownsRow wr3.heap.size tStr 1 (.slice (some ⟨g, 0, none⟩) 32 cap4) 32 ((((wholeL nn l).set A [120]).set B [121, 122]).map strV) := by
          rw [hw5, List.map_set, List.map_set]
          exact (World.ownsRow.stored (World.ownsRow.stored H6.out.2 A _).1 B _).1
        rw [← hw5]
        have H7 := Lib.hid (And.intro b5 o5)
        clear b5 o5 hw5 ci ck hfz4
        go_wp2_with fail
        refine (NewF_any w5).mono ?_
        rintro e w6 ⟨b, F, rfl, hb, hf, b6⟩
        have HF := Lib.hid (And.intro hb (And.intro hf b6))
        clear hb hf b6
        go_wp2_with fail
        obtain ⟨w7, hw7⟩ : ∃ w7, w7 = w6.alloc (.cells #[Value.int .i64 (B : Int), Value.int .i64 (A : Int), Value.int .i64 (B : Int)] tI) := ⟨_, rfl⟩
        have b7 : Below w6.heap.size w6 w7 := by rw [hw7]; exact (Below.refl _ _).alloc (Nat.le_refl _) _
        have r7 : w7.row w6.heap.size (iV [(B : Int), (A : Int), (B : Int)]) tI := by rw [hw7]; exact World.row.new w6 (iV [(B : Int), (A : Int), (B : Int)]) tI
        rw [← hw7]
        have B57 : Below w5.heap.size w5 w7 := HF.out.2.2.trans (b7.mono HF.out.2.2.size)
        have o7 := H7.out.2.below B57
        have hX : Fx w5 w7 b F 0 := ⟨B57, _, HF.out.2.1.below b7, fun i => ⟨Int.le_refl _, Int.le_refl _⟩⟩
        have hlen : (((wholeL nn l).set A [120]).set B [121, 122]).length = 32 := by rw [List.length_set, List.length_set, wholeL_len, H2.out.2.2]
        have hF := Fix_back w7 hX HF.out.1 (by omega) (RS.of_own o7) (lit_rdI (c := 3) _ r7) (by simp) (by
            intro x hx
            rcases List.mem_or_eq_of_mem_set hx with hx | rfl
            · rcases List.mem_or_eq_of_mem_set hx with hx | rfl
              · exact (PL_one H2.out.2.1).all x hx
              · intro z hz; simp at hz; omega
            · intro z hz; simp at hz; omega) H2.out.2.1 (by omega) (by rw [hlen, H2.out.2.2]) (fun t ht hh => by
            have h3 : t ≠ A ∧ t ≠ B := by
              constructor
              · rintro rfl; rw [hasI_iff.2 (by simp)] at hh; cases hh
              · rintro rfl; rw [hasI_iff.2 (by simp)] at hh; cases hh
            rw [set_ne (fun h => h3.2 h.symm), set_ne (fun h => h3.1 h.symm)]) (loss_two (i := A) (k := B) (by rw [H2.out.2.2]; decide) (by rw [H2.out.2.2]; decide) (by rw [H2.out.2.2]; exact hAm) (by rw [H2.out.2.2]; assumption) (fun x hx => by simp at hx; omega) (by simp) (by simp))
        have HF2 := Lib.hid (And.intro hF (And.intro B57 (H5.out.1.below (H7.out.1.trans (B57.mono H7.out.1.size)))))
        clear hF hX b7 r7 o7 hw7 B57 hlen
        refine HF2.out.1.mono ?_
        rintro e w8 ⟨v8, rfl, rs8, fx8, k8⟩
        have B58 : Below wr3.heap.size wr3 w8 := H7.out.1.trans (fx8.1.mono H7.out.1.size)
        have hE := equal_ok w8 rs8 (by have h := H5.out.1.below B58; exact h) (by rw [wholeL_len, H2.out.2.2]; decide)
        have HE := Lib.hid (And.intro hE (H5.out.2.1.trans (B58.mono H5.out.2.1.size)))
        clear hE B58 fx8 k8 rs8
        go_wp2_with fail
        refine HE.out.1.mono ?_
        rintro e w9 ⟨rfl, b9⟩
        have H9 := Lib.hid (HE.out.2.trans (b9.mono HE.out.2.size))
        clear b9
        go_wp2_with fail
        go_returns
        exact ⟨rfl, H9.out⟩
end Go.Proofs.YtjoipibldahbhaaGreatDoor
/- RepairCounts: each row that is brought back is counted once: the walk. -/
namespace Go.Proofs.YtjoipibldahbhaaGreatDoor
open Go Go.ChangeShapes Go.WideShapes Go.ChangeAt Go.RowKit
set_option maxRecDepth 100000
variable {w w' : World} {ls ds : List (List Nat)}
def IntsAt (W : World) (v : Value) : Prop := ∃ a n c xs, v = .slice a n c ∧ W.rd (.slice a n c) (iV xs) ∧ xs.length = n ∧ n ≤ c
theorem one_rows {Q : Value → Prop} : ∀ rs : List (List Value), (∀ r ∈ rs, ∃ v, r = [v] ∧ Q v) → ∃ vs : List Value, (∀ v ∈ vs, Q v) ∧ rs = vs.map fun v => [v]
  | [], _ => ⟨[], (fun v h => by cases h), rfl⟩
  | r :: rs, h => by
    obtain ⟨v, rfl, hv⟩ := h r (List.mem_cons_self ..)
    obtain ⟨vs, h1, rfl⟩ := one_rows rs fun x hx => h x (List.mem_cons_of_mem _ hx)
    exact ⟨v :: vs, (fun x hx => (List.mem_cons.1 hx).elim (fun e => e ▸ hv) (h1 x)), rfl⟩
theorem open_lists {H : Type} {enc : TypeId × Value → H} {W : World} {held : Bool} {a : Option Addr} {len cap : Nat} {d : DataW H} {p : List MemPlace}
    (h : DataW.Trod enc Tryz.prog W 0 (fun _ => true) held 49 (.slice a len cap) d p) :
    ∃ vs : List Value, vs.length = len ∧ len ≤ cap ∧ (∀ v ∈ vs, IntsAt W v) ∧ (vs = [] ∨ ∃ b o, a = some ⟨b, o, none⟩ ∧ ∀ i v, vs[i]? = some v → W.cell? ⟨b, o + i, none⟩ = some v) := by
  obtain ⟨rs, h1, h2, _, _, h5, h6⟩ := open_slice_rows (m := 1) (fun r => ∃ v, r = [v] ∧ IntsAt W v) Tryz.underlying49 (by kernel_rfl) (by omega) (fun n cs x hx => by
    have hs : ∃ a n c, cs = [.slice a n c] := by
      rcases open_ints Tryz.underlying22 Tryz.underlying3 (by kernel_rfl) hx with ⟨hcs, _⟩ | ⟨_, _, _, _, hcs, _⟩
      · exact ⟨_, _, _, hcs⟩
      · exact ⟨_, _, _, hcs⟩
    obtain ⟨a, m, c, rfl⟩ := hs
    obtain ⟨xs, q1, q2, q3, _⟩ := open_slice_ints (a := a) (len := m) (cap := c) (d := x.1) (p := x.2) Tryz.underlying22 Tryz.underlying3 (by kernel_rfl) ⟨n, hx⟩
    exact ⟨_, rfl, a, m, c, xs, rfl, q1, q2, q3⟩) h
  obtain ⟨vs, hA, rfl⟩ := one_rows rs h5
  rw [List.length_map] at h1
  refine ⟨vs, h1, h2, hA, ?_⟩
  rcases h6 with h6 | ⟨b, o, rfl, hc⟩
  · exact .inl (List.map_eq_nil_iff.1 h6)
  · exact .inr ⟨b, o, rfl, fun j v hj => by
      have := hc j [v] (by rw [List.getElem?_map, hj]; rfl) 0 v rfl
      rwa [Nat.mul_one, Nat.add_zero] at this⟩
theorem rd_take {a : Option Addr} {n c m : Nat} {xs : List Int} (h : w.rd (.slice a n c) (iV xs)) (hm : m ≤ n) : w.rd (.slice a m c) (iV (xs.take m)) := by
  obtain ⟨a', c', hv, h⟩ := h
  rw [iV_len] at hv
  obtain ⟨rfl, rfl, rfl⟩ : a = a' ∧ n = xs.length ∧ c = c' := by simpa using hv
  refine ⟨a, c, by rw [iV_len, List.length_take]; congr 1; omega, ?_⟩
  rcases h with h | ⟨b, o, rfl, hcell⟩
  · left
    have : xs = [] := by unfold iV at h; exact List.map_eq_nil_iff.1 h
    subst this; simp [iV]
  · exact .inr ⟨b, o, rfl, fun j u hj => hcell j u (by
      unfold iV at hj ⊢
      rw [List.map_take, List.getElem?_take] at hj
      split at hj
      · exact hj
      · cases hj)⟩
theorem FixerAt.other {b F : Nat} {d : Nat → Int} (h : FixerAt w b F d) {a : Addr} {v : Value} (h1 : a.block ≠ b) (h2 : a.block ≠ F) : FixerAt (w.setCell a v) b F d :=
  ⟨h.fld.imp (fun h => h.other _ _ (fun e => h1 e)) fun h => h.other _ _ (fun e => h1 e), h.fx.other _ _ (fun e => h2 e), h.o1⟩
def wcs (d : Nat → Int) : List Value := (List.range 8).map fun i => .int .i64 (d i)
theorem wcs_cell (d : Nat → Int) {i : Nat} (hi : i < 8) : (wcs d)[i]? = some (.int .i64 (d i)) := by unfold wcs; simp [hi]
theorem wcs_bump (d : Nat → Int) (i : Nat) : (wcs d).set i (.int .i64 (d i + 1)) = wcs (bump d i) := by
  unfold wcs
  apply List.ext_getElem
  · simp
  · intro t h1 h2
    simp only [List.getElem_set, List.getElem_map, List.getElem_range, bump]
    by_cases e : i = t
    · subst e; simp
    · rw [if_neg e, if_neg fun h => e h.symm]
set_option maxHeartbeats 8000000 in
theorem counts_walk {a : Option Addr} {n c : Nat} {a2 : Option Addr} {n2 c2 : Nat} {vs : List Value} (W : World) (hN : Nam W) (hs : RS W (.slice a n c) ds) (hall : AllC ds)
    (hv1 : vs.length = n2) (hv2 : n2 ≤ c2) (hv3 : ∀ v ∈ vs, IntsAt W v) (hv4 : vs = [] ∨ ∃ b o, a2 = some ⟨b, o, none⟩ ∧ ∀ i v, vs[i]? = some v → W.cell? ⟨b, o + i, none⟩ = some v) :
    Calls Tryz.prog 8 #[.slice a n c, .slice a2 n2 c2] W fun e W' => e = .returned (.bool true) ∧ Below W.heap.size W W' := by
  obtain ⟨m2, hm2⟩ : ∃ m2, m2 = min n 10 := ⟨_, rfl⟩
  have hmin : min (n : Int) 10 = (m2 : Int) := by omega
  have hm2n : m2 ≤ n := by omega
  obtain ⟨m3, hm3⟩ : ∃ m3, m3 = min n2 30 := ⟨_, rfl⟩
  have hmin3 : min (n2 : Int) 30 = (m3 : Int) := by omega
  have hm3n : m3 ≤ n2 := by omega
  have hm30 : m3 ≤ 30 := by omega
  have hnc : n ≤ c := by obtain ⟨a', c', hv, hc, _⟩ := hs; cases hv; exact hc
  have hR := row_any W (hs.take hm2n) (hall.take m2)
  have hcs := rowL_cases (ds.take m2) (hall.take m2)
  have hrl := RowL_len (ds.take m2)
  obtain ⟨all, ha⟩ : ∃ all, all = rowL (ds.take m2) := ⟨_, rfl⟩
  rw [← ha] at hR hcs hrl
  have H0 := Lib.hid (And.intro hN (And.intro hR (And.intro hcs (And.intro hv1 (And.intro hv3 hv4)))))
  clear hN hR hcs hall hm2 hm3 ha hv1 hv3 hv4
  go_enter Tryz.func8, Tryz.ntmps8
  go_wp2_with fail
  refine H0.out.2.1.mono ?_
  rintro e w1 ⟨v1, rfl, rs1, b1⟩
  obtain ⟨a1, c1, rfl⟩ := rs1.len
  obtain ⟨L, hL⟩ : ∃ L, L = all.length := ⟨_, rfl⟩
  rw [← hL] at hrl rs1 ⊢
  have H1 := Lib.hid (And.intro rs1 (And.intro b1 hL))
  clear rs1 b1 hL
  go_wp2_with fail
  refine (NewF_any w1).mono ?_
  rintro e w2 ⟨b, F, rfl, hb, hf, b2⟩
  have H2 := Lib.hid (And.intro hf (And.intro b2 hb))
  clear hf b2 hb
  go_wp2_with fail
  obtain ⟨gw, hgw⟩ : ∃ g, g = w2.heap.size := ⟨_, rfl⟩
  refine wp_world (fun w3 => FixerAt w3 b F (fun _ => 0) ∧ w3.row gw (wcs fun _ => 0) 50 ∧ Below w1.heap.size w1 w3) ⟨H2.out.1.below ((Below.refl _ _).alloc (Nat.le_refl _) _), World.row.new' (cs := wcs fun _ => 0) hgw.symm, H2.out.2.1.alloc H2.out.2.1.size _⟩ ?_
  have hFg : F < gw := by rw [hgw]; exact H2.out.1.fx.lt
  have hbg : w1.heap.size ≤ b := H2.out.2.2
  have hbF : b < F := H2.out.1.o1
  rintro w3 ⟨f3, r3, b3⟩
  rw [← hgw]
  have H3 := Lib.hid (And.intro f3 (And.intro r3 b3))
  clear f3 r3 b3 hgw
  go_loopw [31] (fun x wr => ∃ (i : Nat) (d : Nat → Int), i ≤ m3 ∧ x = .int .i64 (i : Int) ∧ FixerAt wr b F d ∧ (∀ j, 0 ≤ d j ∧ d j ≤ (i : Int)) ∧ wr.row gw (wcs d) 50 ∧ Below w1.heap.size w1 wr) (fun x _ => m3 - (intOf x).toNat)
  case atStart => exact ⟨0, _, by omega, rfl, H3.out.1, fun _ => ⟨Int.le_refl _, Int.le_refl _⟩, H3.out.2.1, H3.out.2.2⟩
  case round =>
    obtain ⟨i, d, hi, rfl, hf, hd, hr, hB⟩ := hrel
    by_cases hlt : i < m3
    · obtain ⟨vi, hvi⟩ : ∃ v, vs[i]? = some v := ⟨_, List.getElem?_eq_getElem (by rw [H0.out.2.2.2.1]; omega)⟩
      obtain ⟨bv, ov, rfl, hcell⟩ := H0.out.2.2.2.2.2.resolve_left (by rintro rfl; simp at hvi)
      obtain ⟨ai, ni, ci, xs, rfl, hrd, hxl, hnic⟩ := H0.out.2.2.2.2.1 vi (List.mem_of_getElem? hvi)
      have hcv := hcell i _ hvi
      have hBW : Below W.heap.size W wr := H1.out.2.1.trans (hB.mono H1.out.2.1.size)
      have d0 := (hBW.cell (p := ⟨bv, ov + i, none⟩) (block_lt_of_cell hcv)).trans hcv
      obtain ⟨m5, hm5⟩ : ∃ m, m = min ni 5 := ⟨_, rfl⟩
      have hmin5 : min (ni : Int) 5 = (m5 : Int) := by omega
      have hm5n : m5 ≤ ni := by omega
      have hrd5 := rd_take (hrd.below hBW (Nat.le_refl _)) hm5n
      obtain ⟨lost, hlost⟩ : ∃ l, l = xs.take m5 := ⟨_, rfl⟩
      have hll : lost.length ≤ 5 := by rw [hlost, List.length_take]; omega
      rw [← hlost] at hrd5
      have hS := Sort_any ((L : Int) - 2) lost wr hrd5 (by omega)
      obtain ⟨E, hE⟩ : ∃ E, E = lossE ((L : Int) - 2) lost := ⟨_, rfl⟩
      rw [← hE] at hS
      have HX := Lib.hid (And.intro hf (And.intro hd (And.intro hr (And.intro hB (And.intro hrd5 (And.intro hS hE))))))
      clear hf hd hr hB hrd5 hS hE hlost hm5 hrd hxl hcell hvi hcv hBW
      go_wp2_with fail
      refine HX.out.2.2.2.2.2.1.mono ?_
      rintro e w4 ⟨rfl, b4⟩
      have rs4 := H1.out.1.below (HX.out.2.2.2.1.trans (b4.mono HX.out.2.2.2.1.size))
      have rd4 := HX.out.2.2.2.2.1.below b4 (Nat.le_refl _)
      have H4 := Lib.hid (And.intro rs4 (And.intro rd4 (And.intro b4 (And.intro (HX.out.1.below b4) (HX.out.2.2.1.below b4 HX.out.2.2.1.lt)))))
      clear rs4 rd4 b4
      by_cases hE0 : E = 0
      · have hLE : lossE ((L : Int) - 2) lost = 0 := by rw [← HX.out.2.2.2.2.2.2]; exact hE0
        rcases H0.out.2.2.1 with hnil | ⟨nn, l, hn4, hl2, hl30, _, ho, hwh⟩
        · exfalso
          have h1 := lossE_zero hLE
          have h2 := H1.out.2.2
          rw [hnil] at h2
          simp at h2
          omega
        have hLl : L = l.length + 2 := by rw [H1.out.2.2, hwh, wholeL_len]
        obtain ⟨hfE, hfD⟩ := fix_back (cols := all) ho (by omega) (by rw [hwh, wholeL_len]) (fun t _ _ => by rw [hwh]) (by rw [← hLE]; congr 1; omega)
        obtain ⟨t, ht8, hkt⟩ := kindL_nat (L - 2) lost
        have hF := Fix_ok w4 H4.out.2.2.2.1 H4.out.1 H4.out.2.1 (by omega) hfE (by rw [hwh]; exact (PL_one ho).all) (fun j => ⟨(HX.out.2.1 j).1, by have := (HX.out.2.1 j).2; omega⟩)
        rw [← H1.out.2.2, hkt, Int.toNat_natCast] at hF
        have hkS : (if E = 0 then kindL ((L : Int) - 2).toNat lost else 0) = (t : Int) := by rw [if_pos hE0, ← hkt]; congr 1; omega
        rw [hkS]
        have HF := Lib.hid hF
        clear hF hfE hfD hLl hkS hkt hLE hwh ho
        subst hE0
        go_wp2_with fail
        refine HF.out.mono ?_
        rintro e w5 ⟨v5, rfl, rs5, k5, f5⟩
        have hgk : ¬ FS b F gw := by rintro (h | h) <;> omega
        have r5 := k5.row H4.out.2.2.2.2 hgk
        have B5 : Below w1.heap.size w1 w5 := (HX.out.2.2.2.1.trans (H4.out.2.2.1.mono HX.out.2.2.2.1.size)).trans (k5.below (Nat.le_trans HX.out.2.2.2.1.size H4.out.2.2.1.size) (by rintro k (rfl | rfl) <;> omega))
        have hgl := r5.lt
        have ck := r5.cell t (wcs_cell d ht8)
        have hfz := r5.free
        obtain ⟨dt, hdt⟩ : ∃ x, x = d t := ⟨_, rfl⟩
        rw [← hdt] at ck
        have hd1 : 0 ≤ dt ∧ dt ≤ 30 := by have := HX.out.2.1 t; rw [hdt]; omega
        have H5 := Lib.hid (And.intro f5 (And.intro r5 (And.intro B5 hdt)))
        clear f5 r5 B5 k5 rs5 hdt hgk
        go_wp2_with fail
        go_roundw
        case rel => exact ⟨i + 1, bump d t, by omega, by go_num, H5.out.1.other (by dsimp only; omega) (by dsimp only; omega), by have := bump_le HX.out.2.1 t; intro j; have := this j; omega, by rw [← wcs_bump, ← H5.out.2.2.2]; exact H5.out.2.1.set t _, H5.out.2.2.1.setCell (by dsimp only; omega) _⟩
        case measure => simp [intOf] <;> omega
      · have hLE : lossE ((all.length : Int) - 2) lost ≠ 0 := by rw [← H1.out.2.2, ← HX.out.2.2.2.2.2.2]; exact hE0
        have hfE : fixE all lost = E := by unfold fixE; rw [if_pos hLE, ← H1.out.2.2, ← HX.out.2.2.2.2.2.2]
        have rs4 := H4.out.1
        have hF := Fix_loss w4 ⟨F, 0, none⟩ rs4 H4.out.2.1 (by omega) hLE (by rw [← H1.out.2.2]; omega)
        rw [hfE] at hF
        have HF := Lib.hid hF
        clear hF hfE hLE rs4
        go_wp2_with fail
        refine HF.out.mono ?_
        rintro e w5 ⟨rfl, b5⟩
        have H5 := Lib.hid (And.intro (H4.out.2.2.2.1.below b5) (And.intro (H4.out.2.2.2.2.below b5 H4.out.2.2.2.2.lt) ((HX.out.2.2.2.1.trans (H4.out.2.2.1.mono HX.out.2.2.2.1.size)).trans (b5.mono (Nat.le_trans HX.out.2.2.2.1.size H4.out.2.2.1.size)))))
        clear b5
        go_wp2_with fail
        go_roundw
        case rel => exact ⟨i + 1, d, by omega, by go_num, H5.out.1, fun j => ⟨(HX.out.2.1 j).1, by have := (HX.out.2.1 j).2; omega⟩, H5.out.2.1, H5.out.2.2⟩
        case measure => simp [intOf] <;> omega
    · obtain rfl : i = m3 := by omega
      have HX := Lib.hid (And.intro hf (And.intro hd (And.intro hr hB)))
      clear hf hd hr hB
      go_wp2_with fail
      go_loopw [14] (fun x wr => ∃ t : Nat, t ≤ 8 ∧ x = .int .i64 (t : Int) ∧ FixerAt wr b F d ∧ wr.row gw (wcs d) 50 ∧ Below w1.heap.size w1 wr) (fun x _ => 8 - (intOf x).toNat)
      case atStart => exact ⟨0, by omega, rfl, HX.out.1, HX.out.2.2.1, HX.out.2.2.2⟩
      case round =>
        clear HX
        obtain ⟨t, ht, rfl, hf, hr, hB⟩ := hrel
        by_cases ht8 : t < 8
        · have ck := hr.cell t (wcs_cell d ht8)
          have hgl := hr.lt
          have hD := Done_in wr.drew (hf.below (Below.refl _ _).drew) t ht8
          have HX := Lib.hid (And.intro hf (And.intro hr (And.intro hB hD)))
          clear hf hr hB hD
          go_upto_region 18 with fail
          refine wp_region_mix_ext wr.heap.size [] false (Nat.le_refl _) (by kernel_rfl) (by kernel_rfl) ?_
          intro _
          repeat ((with_reducible refine wpMix_light ?hh ?_); (case hh => rfl); go_big_quiet_step (fail); (with_reducible refine wpQuiet_nil ?_))
          (with_reducible refine wpMix_heavy ?hh ?hw (fun K hK => ?_)); (case hh => rfl); (case hw => rfl)
          go_simp
          refine HX.out.2.2.2.mono ?_
          rintro e w6 ⟨rfl, rfl⟩
          refine hK.out _ _ (Below.toExt ((Below.refl _ _).drew) (Nat.le_refl _)) ?_
          clear hK K
          try simp only [Act.put, List.setIfInBounds_toArray, List.set_cons_zero, List.set_cons_succ]
          repeat ((with_reducible refine wpMix_light ?hh ?_); (case hh => rfl); go_big_quiet_step (fail); (with_reducible refine wpQuiet_nil ?_))
          refine wpMix_nil ?_
          go_wp2_with fail
          go_roundw
          case rel => exact ⟨t + 1, by omega, by go_num, HX.out.1.below (Below.refl _ _).drew, HX.out.2.1.drew, HX.out.2.2.1.drew⟩
          case measure => simp [intOf] <;> omega
        · obtain rfl : t = 8 := by omega
          have HX := Lib.hid (And.intro hf hB)
          clear hf hr hB
          go_wp2_with fail
          refine (Fix_nil wr).mono ?_
          rintro e w5 ⟨rfl, rfl⟩
          go_wp2_with fail
          have hBW : Below W.heap.size W wr := H1.out.2.1.trans (HX.out.2.mono H1.out.2.1.size)
          refine (wakes_any wr (H0.out.1.below hBW H0.out.1.lt)).mono ?_
          rintro e w6 ⟨rfl, b6⟩
          have H6 := Lib.hid (hBW.trans (b6.mono hBW.size))
          clear b6 hBW
          go_wp2_with fail
          refine (Done_nil w6 0).mono ?_
          rintro e w7 ⟨rfl, rfl⟩
          go_wp2_with fail
          refine (Done_out w6 (some ⟨F, 0, none⟩) (-1) (by omega)).mono ?_
          rintro e w7 ⟨rfl, rfl⟩
          go_wp2_with fail
          refine (Done_out w6 (some ⟨F, 0, none⟩) 8 (by omega)).mono ?_
          rintro e w7 ⟨rfl, rfl⟩
          go_wp2_with fail
          go_returns
          exact ⟨rfl, H6.out⟩
end Go.Proofs.YtjoipibldahbhaaGreatDoor
