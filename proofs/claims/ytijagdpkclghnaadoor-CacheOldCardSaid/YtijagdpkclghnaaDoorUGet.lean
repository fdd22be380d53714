/- New, Has, Len, Full of a turn: contracts. -/
import Derived.Test.YtijagdpkclghnaaDoorUState
import Derived.Test.YtijagdpkclghnaaDoorArr
import Derived.Deep.DeepCutAuto
import Derived.Deep.LoopGhost
namespace Go.Proofs.YtijagdpkclghnaaDoor
open Go Go.RowKit
set_option maxRecDepth 100000
abbrev pt (g : Nat) : Value := .pointer (some ⟨g, 0, none⟩)
variable {B n : Nat} {w : World} {M : TM} {T : TS}
theorem irow_shape {v : Value} {xs : List Int} (h : w.irow B tI v xs) : ∃ a c, v = .slice a xs.length c := by
  rcases h.form with ⟨rfl, rfl⟩ | ⟨g, cap, rfl, _⟩
  · exact ⟨none, 0, rfl⟩
  · exact ⟨_, _, rfl⟩
theorem New_ok (most limit : Nat) (w : World) (hB : B ≤ w.heap.size) (h1 : 1 ≤ most) (h2 : most ≤ 64) (h3 : limit < most) :
    Calls Tryd.prog 25 #[.int .i64 (most : Int), .int .i64 (limit : Int)] w fun e w' => ∃ M : TM, e = .returned (.tuple #[pt M.g, .int .i64 0]) ∧ TurnAt B 0 w' M ⟨most, limit, [], [], []⟩ ∧ Below w.heap.size w w' ∧ ∀ k, M.foot k → w.heap.size ≤ k := by
  have hmm := @run_makeMap Tryd.prog
  go_enter Tryd.func25, Tryd.ntmps25
  go_wp2_with fail
  go_ret2
  have hr := World.row.new (w.alloc (.map #[] 0)) [.int .i64 (most : Int), .int .i64 (limit : Int), .slice none 0 0, .slice none 0 0, .map (some w.heap.size)] tT
  refine ⟨⟨(w.alloc (.map #[] 0)).heap.size, w.heap.size, .slice none 0 0, .slice none 0 0⟩, by simp, ⟨hr, World.irow.nil _ _ _, World.irow.nil _ _ _, (World.bmap_made w Tryd.prog tI 4).alloc _, by simp, by simp [Value.ownBlock], by simp [Value.ownBlock], by simp [Value.ownBlock], by simp [Value.ownBlock], .inl rfl, by simp; omega, hB⟩, ?_, ?_⟩
  · exact ((Below.refl _ _).alloc (Nat.le_refl _) _).alloc (by simp) _
  · intro k hk
    rcases hk with hk | hk | hk | hk
    · simp at hk; omega
    · simp at hk; omega
    · cases hk
    · cases hk
theorem Has_any (x : Int) (w : World) (h : TurnAt B n w M T) :
    Calls Tryd.prog 54 #[pt M.g, .int .i64 x] w fun e w' => e = .returned (.tuple #[.bool (T.dear.contains x || T.plain.contains x), .bool (T.dear.contains x)]) ∧ w = w' := by
  obtain ⟨c0, c1, c2, c3, c4, z⟩ := h.five
  go_enter Tryd.func54, Tryd.ntmps54
  go_wp2_with fail
  refine (con_any x h.o2).mono ?_
  rintro e w' ⟨rfl, rfl⟩
  cases hd : T.dear.contains x with
  | true =>
    go_wp2_with fail
    go_ret2
    exact ⟨by rw [hd]; rfl, rfl⟩
  | false =>
    go_wp2_with fail
    refine (con_any x h.o1).mono ?_
    rintro e w' ⟨rfl, rfl⟩
    obtain ⟨p, hp⟩ : ∃ p, p = T.plain.contains x := ⟨_, rfl⟩
    rw [← hp]
    have HP := Lib.hid hp
    clear hp
    go_wp2_with fail
    go_ret2
    exact ⟨by rw [hd, ← HP.out]; rfl, rfl⟩
theorem Len_any (w : World) (h : TurnAt B n w M T) (hg : Good T) :
    Calls Tryd.prog 74 #[pt M.g] w fun e w' => e = .returned (.tuple #[.int .i64 ((T.plain.length + T.dear.length : Nat) : Int), .int .i64 (T.dear.length : Int)]) ∧ Below w.heap.size w w' := by
  obtain ⟨c0, c1, c2, c3, c4, z⟩ := h.five
  obtain ⟨a1, k1, e1⟩ := irow_shape h.o1
  obtain ⟨a2, k2, e2⟩ := irow_shape h.o2
  rw [e1] at c2
  rw [e2] at c3
  obtain ⟨p, hp⟩ : ∃ p, p = T.plain.length := ⟨_, rfl⟩
  obtain ⟨d, hd⟩ : ∃ d, d = T.dear.length := ⟨_, rfl⟩
  have hl := hg.len
  have h64 := hg.m64
  rw [← hp, ← hd] at hl
  rw [← hp] at c2 ⊢
  rw [← hd] at c3 ⊢
  have hlt := h.row.lt
  clear hp hd e1 e2 hg h
  go_enter Tryd.func74, Tryd.ntmps74
  go_wp2_with fail
  go_quiet (fail)
  go_wp2_with fail
  go_ret2
  exact ⟨rfl, (by repeat' (first | (with_reducible exact Below.refl _ _) | (with_reducible assumption) | (with_reducible refine Below.setCell ?_ ?_ _) | (with_reducible refine Below.ext ?_ _ ?_) | (with_reducible refine Below.alloc ?_ ?_ _) | (with_reducible refine Below.drew ?_) | (with_reducible refine Below.drewN ?_ _) | (with_reducible exact Nat.le_refl _) | (dsimp only; omega) | (simp <;> omega)))⟩
theorem Full_any (w : World) (h : TurnAt B n w M T) (hg : Good T) :
    Calls Tryd.prog 66 #[pt M.g] w fun e w' => e = .returned (.bool (decide (T.most ≤ T.plain.length + T.dear.length))) ∧ Below w.heap.size w w' := by
  have hl := hg.len
  have h64 := hg.m64
  go_enter Tryd.func66, Tryd.ntmps66
  go_wp2_with fail
  refine Calls.pure_to (Len_any w h hg) ?_
  intro w1 hb1
  have h1 := h.below' hb1
  obtain ⟨c0, c1, c2, c3, c4, z⟩ := h1.five
  obtain ⟨p, hp⟩ : ∃ p, p = T.plain.length + T.dear.length := ⟨_, rfl⟩
  rw [← hp] at hl
  have HP := Lib.hid hp
  rw [← hp]
  clear hp
  go_wp2_with fail
  go_returns
  refine ⟨?_, hb1⟩
  rw [← HP.out]
  simp
end Go.Proofs.YtijagdpkclghnaaDoor
