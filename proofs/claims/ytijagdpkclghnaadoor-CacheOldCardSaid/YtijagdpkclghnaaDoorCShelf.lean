/- get, put of a shelf: contracts. -/
import Derived.Test.YtijagdpkclghnaaDoorCGet
namespace Go.Proofs.YtijagdpkclghnaaDoor
open Go Go.RowKit
set_option maxRecDepth 100000
variable {B n data : Nat} {w w' : World} {C : CM} {T : TS} {L : List Int} {f : Int → Option Ent} {E : Ent}
abbrev noB : ByteArray := { data := #[] }
/-- What a call on a stripe leaves. -/
structure EStep (E : Ent) (w w' : World) : Prop where
  os : w'.os = w.os
  tape : w'.tape = w.tape
  output : w'.output = w.output
  size : w.heap.size ≤ w'.heap.size
  block : ∀ k, k < w.heap.size → ¬ E.foot k → w'.heap[k]? = w.heap[k]?
theorem EStep.of_below {w w' : World} (E : Ent) (h : Below w.heap.size w w') : EStep E w w' := ⟨h.os, h.tape, h.output, h.size, fun k hk _ => h.block k hk⟩
theorem EStep.trans {w w' w'' : World} (h : EStep E w w') (h2 : EStep E w' w'') : EStep E w w'' :=
  ⟨h2.os.trans h.os, h2.tape.trans h.tape, h2.output.trans h.output, Nat.le_trans h.size h2.size, fun k hk hn => (h2.block k (Nat.lt_of_lt_of_le hk h.size) hn).trans (h.block k hk hn)⟩
theorem EStep.setCell {w w' : World} (h : EStep E w w') (a : Addr) (v : Value) (ha : E.foot a.block) : EStep E w (w'.setCell a v) :=
  ⟨h.os, h.tape, h.output, by simpa using h.size, fun k hk hn => by
    have hne : a.block ≠ k := fun e => hn (e ▸ ha)
    have : (w'.setCell a v).heap[k]? = w'.heap[k]? := by simp [World.setCell, Array.getElem?_modify, hne]
    rw [this]; exact h.block k hk hn⟩
theorem Set4.with_has (s : Set4) (i j : Nat) : (s.with' i).has j = true → j = i ∨ s.has j = true := by
  unfold Set4.with'
  rw [Set4.has_of]
  simp
def atB (l : List ByteArray) (c : Nat) : ByteArray := l.getD c noB
theorem atB_get {l : List ByteArray} {c : Nat} (h : c < l.length) : l[c]? = some (atB l c) := by unfold atB; simp [List.getD, h]
theorem get_now (c : Nat) (w : World) (h : EntAt B data w E) (hc : c < data) (hd : data ≤ 30) :
    Calls Tryd.prog 33 #[.pointer (some ⟨E.g, 0, none⟩), .int .i64 (c : Int)] w fun e w' => e = .returned (.tuple #[.string (if E.nt.has c = true then atB E.nb c else noB), .bool (E.nt.has c)]) ∧ Below w.heap.size w w' := by
  have k0 := h.row.cell 0 rfl
  have k1 := h.row.cell 1 rfl
  have k2 := h.row.cell 2 rfl
  have k3 := h.row.cell 3 rfl
  have hH := Lib.hid (Has_yes E.nt c w (by omega))
  have HC := Lib.hid h
  cases e : E.nt.has c
  · rw [e] at hH
    simp only [Bool.false_eq_true, if_false]
    go_enter Tryd.func33, Tryd.ntmps33
    go_wp2_with fail
    refine Calls.pure_to hH.out ?_
    intro w1 b1
    clear k0 k1 k2 k3
    go_wp2_with fail
    go_ret2
    exact ⟨rfl, b1⟩
  · rw [e] at hH
    simp only [if_true]
    go_enter Tryd.func33, Tryd.ntmps33
    go_wp2_with fail
    refine Calls.pure_to hH.out ?_
    intro w1 b1
    clear k0 k1 k2 k3
    have h1 := HC.out.below b1
    have k4 := h1.row.cell 4 rfl
    have k5 := h1.r1.cell c (v := .string (atB E.nb c)) (by rw [List.getElem?_map, atB_get (by rw [h1.l1]; exact hc)]; rfl)
    have hcI : (c : Int) < (data : Int) := by omega
    have HS := Lib.hid b1
    clear b1 h1
    go_wp2_with fail
    go_ret2
    exact ⟨rfl, HS.out⟩
theorem put_now (c : Nat) (s : ByteArray) (w : World) (h : EntAt B data w E) (hc : c < data) (hd : data ≤ 30) :
    Calls Tryd.prog 27 #[.pointer (some ⟨E.g, 0, none⟩), .int .i64 (c : Int), .string s] w fun e w' => e = .returned (.tuple #[]) ∧ EntAt B data w' { E with nt := E.nt.with' c, nb := E.nb.set c s } ∧ EStep E w w' := by
  have k0 := h.row.cell 0 rfl
  have k1 := h.row.cell 1 rfl
  have k2 := h.row.cell 2 rfl
  have k3 := h.row.cell 3 rfl
  have hH := Lib.hid (With_yes E.nt c w (by omega))
  have HC := Lib.hid h
  go_enter Tryd.func27, Tryd.ntmps27
  go_wp2_with fail
  refine Calls.pure_to hH.out ?_
  intro w1 b1
  clear k0 k1 k2 k3
  have h1 := HC.out.below b1
  have k0 := h1.row.cell 0 rfl
  have k1 := h1.row.cell 1 rfl
  have k2 := h1.row.cell 2 rfl
  have k3 := h1.row.cell 3 rfl
  have k4 := h1.row.cell 4 rfl
  have k5 := h1.r1.cell c (v := .string (atB E.nb c)) (by rw [List.getElem?_map, atB_get (by rw [h1.l1]; exact hc)]; rfl)
  have z0 := h1.row.free
  have z1 := h1.r1.free
  have hcI : (c : Int) < (data : Int) := by omega
  have hne := h1.g1
  have HS := Lib.hid (And.intro b1 h1)
  clear b1 h1
  go_wp2_with fail
  go_returns
  obtain ⟨b1, h1⟩ := HS.out
  have hs := b1.size
  refine ⟨rfl, ⟨?_, ?_, ?_, h1.g1, h1.g2, h1.b12, h1.bg, h1.bb1, h1.bb2, (List.length_set).trans h1.l1, h1.l2, fun i hi => (Set4.with_has _ _ _ hi).elim (fun e => e ▸ hc) (h1.i1 i), h1.i2⟩, ?_⟩
  · exact (((((h1.row.set 0 _).set 1 _).set 2 _).set 3 _).other _ _ (Ne.symm hne))
  · have := ((((h1.r1.other ⟨E.g, 0, none⟩ (.int .u64 ((E.nt.with' c).a : Int)) h1.g1).other ⟨E.g, 1, none⟩ (.int .u64 ((E.nt.with' c).b : Int)) h1.g1).other ⟨E.g, 2, none⟩ (.int .u64 ((E.nt.with' c).c : Int)) h1.g1).other ⟨E.g, 3, none⟩ (.int .u64 ((E.nt.with' c).d : Int)) h1.g1).set c (.string s)
    rw [List.map_set]
    exact this
  · exact (((((h1.r2.other _ _ h1.g2).other _ _ h1.g2).other _ _ h1.g2).other _ _ h1.g2).other _ _ h1.b12)
  · exact (((((EStep.of_below E b1).setCell _ _ (.inl rfl)).setCell _ _ (.inl rfl)).setCell _ _ (.inl rfl)).setCell _ _ (.inl rfl)).setCell _ _ (.inr (.inl rfl))
theorem get_old (c : Nat) (w : World) (h : EntAt B data w E) (hc : c < data) (hd : data ≤ 30) :
    Calls Tryd.prog 33 #[.pointer (some ⟨E.g, 5, none⟩), .int .i64 (c : Int)] w fun e w' => e = .returned (.tuple #[.string (if E.ot.has c = true then atB E.ob c else noB), .bool (E.ot.has c)]) ∧ Below w.heap.size w w' := by
  have k0 := h.row.cell 5 rfl
  have k1 := h.row.cell 6 rfl
  have k2 := h.row.cell 7 rfl
  have k3 := h.row.cell 8 rfl
  have hH := Lib.hid (Has_yes E.ot c w (by omega))
  have HC := Lib.hid h
  cases e : E.ot.has c
  · rw [e] at hH
    simp only [Bool.false_eq_true, if_false]
    go_enter Tryd.func33, Tryd.ntmps33
    go_wp2_with fail
    refine Calls.pure_to hH.out ?_
    intro w1 b1
    clear k0 k1 k2 k3
    go_wp2_with fail
    go_ret2
    exact ⟨rfl, b1⟩
  · rw [e] at hH
    simp only [if_true]
    go_enter Tryd.func33, Tryd.ntmps33
    go_wp2_with fail
    refine Calls.pure_to hH.out ?_
    intro w1 b1
    clear k0 k1 k2 k3
    have h1 := HC.out.below b1
    have k4 := h1.row.cell 9 rfl
    have k5 := h1.r2.cell c (v := .string (atB E.ob c)) (by rw [List.getElem?_map, atB_get (by rw [h1.l2]; exact hc)]; rfl)
    have hcI : (c : Int) < (data : Int) := by omega
    have HS := Lib.hid b1
    clear b1 h1
    go_wp2_with fail
    go_ret2
    exact ⟨rfl, HS.out⟩
theorem put_old (c : Nat) (s : ByteArray) (w : World) (h : EntAt B data w E) (hc : c < data) (hd : data ≤ 30) :
    Calls Tryd.prog 27 #[.pointer (some ⟨E.g, 5, none⟩), .int .i64 (c : Int), .string s] w fun e w' => e = .returned (.tuple #[]) ∧ EntAt B data w' { E with ot := E.ot.with' c, ob := E.ob.set c s } ∧ EStep E w w' := by
  have k0 := h.row.cell 5 rfl
  have k1 := h.row.cell 6 rfl
  have k2 := h.row.cell 7 rfl
  have k3 := h.row.cell 8 rfl
  have hH := Lib.hid (With_yes E.ot c w (by omega))
  have HC := Lib.hid h
  go_enter Tryd.func27, Tryd.ntmps27
  go_wp2_with fail
  refine Calls.pure_to hH.out ?_
  intro w1 b1
  clear k0 k1 k2 k3
  have h1 := HC.out.below b1
  have k0 := h1.row.cell 5 rfl
  have k1 := h1.row.cell 6 rfl
  have k2 := h1.row.cell 7 rfl
  have k3 := h1.row.cell 8 rfl
  have k4 := h1.row.cell 9 rfl
  have k5 := h1.r2.cell c (v := .string (atB E.ob c)) (by rw [List.getElem?_map, atB_get (by rw [h1.l2]; exact hc)]; rfl)
  have z0 := h1.row.free
  have z1 := h1.r2.free
  have hcI : (c : Int) < (data : Int) := by omega
  have hne := h1.g2
  have HS := Lib.hid (And.intro b1 h1)
  clear b1 h1
  go_wp2_with fail
  go_returns
  obtain ⟨b1, h1⟩ := HS.out
  have hs := b1.size
  refine ⟨rfl, ⟨?_, ?_, ?_, h1.g1, h1.g2, h1.b12, h1.bg, h1.bb1, h1.bb2, h1.l1, (List.length_set).trans h1.l2, h1.i1, fun i hi => (Set4.with_has _ _ _ hi).elim (fun e => e ▸ hc) (h1.i2 i)⟩, ?_⟩
  · exact (((((h1.row.set 5 _).set 6 _).set 7 _).set 8 _).other _ _ (Ne.symm hne))
  · exact (((((h1.r1.other _ _ h1.g1).other _ _ h1.g1).other _ _ h1.g1).other _ _ h1.g1).other _ _ (Ne.symm h1.b12))
  · have := ((((h1.r2.other ⟨E.g, 5, none⟩ (.int .u64 ((E.ot.with' c).a : Int)) h1.g2).other ⟨E.g, 6, none⟩ (.int .u64 ((E.ot.with' c).b : Int)) h1.g2).other ⟨E.g, 7, none⟩ (.int .u64 ((E.ot.with' c).c : Int)) h1.g2).other ⟨E.g, 8, none⟩ (.int .u64 ((E.ot.with' c).d : Int)) h1.g2).set c (.string s)
    rw [List.map_set]
    exact this
  · exact (((((EStep.of_below E b1).setCell _ _ (.inl rfl)).setCell _ _ (.inl rfl)).setCell _ _ (.inl rfl)).setCell _ _ (.inl rfl)).setCell _ _ (.inr (.inr rfl))
end Go.Proofs.YtijagdpkclghnaaDoor
