/- Fill, Old, Get of a cache: contracts. -/
import Derived.Test.YtijagdpkclghnaaDoorCOpenA
namespace Go.Proofs.YtijagdpkclghnaaDoor
open Go Go.RowKit
set_option maxRecDepth 100000
variable {B n data : Nat} {w w' : World} {C C' : CM} {T T' : TS} {L L' : List Int} {f f' : Int → Option Ent} {E : Ent}
def Ent.fill (E : Ent) (c : Nat) (s : ByteArray) : Ent := if E.dt.has c = true then { E with ot := E.ot.with' c, ob := E.ob.set c s } else { E with ot := E.ot.with' c, ob := E.ob.set c s, nt := E.nt.with' c, nb := E.nb.set c s }
set_option maxHeartbeats 1000000 in
theorem Fill_any (i : Int) (c : Nat) (s : ByteArray) (w : World) (h : CacheAt B n data w C T L f) (hi : 0 ≤ i) (hi2 : i < 64) (hc : c < data) (hs : s.size = 64) (hr : f i ≠ none ∨ T.full = false) (hnn : n < 90000) :
    Calls Tryd.prog 11 #[pt C.g, .int .i64 i, .int .i64 (c : Int), .string s] w fun e w' => e = .returned (.int .i64 0) ∧ ∃ (w1 : World) (C1 : CM) (E : Ent) (T1 : TS) (L1 : List Int) (f1 : Int → Option Ent), Opened B n data w C T L f i w1 C1 E T1 L1 f1 ∧ CacheAt B (n + 1) data w' C1 T1 L1 (upd f1 i (some (E.fill c s))) ∧ CStep C f C1 (upd f1 i (some (E.fill c s))) w w' := by
  have hO := open_any i c s w h hi hi2 hc hs hr (by omega)
  have hc256 : c < 256 := by have := h.d30; omega
  have HO := Lib.hid hO
  clear hO h hi hi2 hs hr hnn
  go_enter Tryd.func11, Tryd.ntmps11
  go_wp2_with fail
  refine HO.out.mono ?_
  rintro e w1 ⟨C1, E, T1, L1, f1, rfl, hop⟩
  have HP := Lib.hid hop
  have hE1 := hop.at_.ent i E hop.here
  clear hop
  go_wp2_with fail
  refine (put_old c s w1 hE1 hc HP.out.at_.d30).mono ?_
  rintro e w2 ⟨rfl, hE2, hS2⟩
  have hA2 := HP.out.at_.entPut (E' := { E with ot := E.ot.with' c, ob := E.ob.set c s }) HP.out.here rfl rfl rfl hE2 hS2.os hS2.tape hS2.output hS2.size hS2.block
  have k0 := hE2.row.cell 10 rfl
  have k1 := hE2.row.cell 11 rfl
  have k2 := hE2.row.cell 12 rfl
  have k3 := hE2.row.cell 13 rfl
  have H2 := Lib.hid (And.intro hE2 hA2)
  clear hE1 hE2 hS2 hA2
  have hH := Lib.hid (Has_yes E.dt c w2 hc256)
  cases e : E.dt.has c
  · rw [e] at hH
    go_wp2_with fail
    refine Calls.pure_to hH.out ?_
    intro w3 b3
    have hE3 := H2.out.1.below b3
    have hA3 := H2.out.2.1.below b3
    have H3 := Lib.hid (And.intro hA3 b3)
    clear k0 k1 k2 k3 hA3 b3
    go_wp2_with fail
    have hP := put_now c s w3 hE3 hc HP.out.at_.d30
    refine hP.mono ?_
    rintro e w4 ⟨rfl, hE4, hS4⟩
    have hA4 := H3.out.1.entPut (E' := { E with ot := E.ot.with' c, ob := E.ob.set c s, nt := E.nt.with' c, nb := E.nb.set c s }) (upd_same f1 i (some { E with ot := E.ot.with' c, ob := E.ob.set c s })) rfl rfl rfl hE4 hS4.os hS4.tape hS4.output hS4.size hS4.block
    rw [upd_upd] at hA4
    have H4 := Lib.hid hA4
    clear hA4 hE4 hS4 hE3 hP
    go_wp2_with fail
    go_returns
    have hfl : E.fill c s = { E with ot := E.ot.with' c, ob := E.ob.set c s, nt := E.nt.with' c, nb := E.nb.set c s } := by unfold Ent.fill; rw [e]; rfl
    rw [← hfl] at H4
    exact ⟨rfl, w1, C1, E, T1, L1, f1, HP.out, H4.out.1, HP.out.step.trans (H2.out.2.2.trans ((CStep.of_below _ _ H3.out.2).trans H4.out.2))⟩
  · rw [e] at hH
    go_wp2_with fail
    refine Calls.pure_to hH.out ?_
    intro w3 b3
    have hA3 := H2.out.2.1.below b3
    have H3 := Lib.hid (And.intro hA3 b3)
    clear k0 k1 k2 k3 hA3 b3
    go_wp2_with fail
    go_returns
    have hfl : E.fill c s = { E with ot := E.ot.with' c, ob := E.ob.set c s } := by unfold Ent.fill; rw [e]; rfl
    rw [← hfl] at H3
    have hS := H2.out.2.2
    rw [← hfl] at hS
    exact ⟨rfl, w1, C1, E, T1, L1, f1, HP.out, H3.out.1, HP.out.step.trans (hS.trans (CStep.of_below _ _ H3.out.2))⟩
def oldB (f : Int → Option Ent) (i : Int) (c : Nat) : ByteArray := match f i with
  | none => noB
  | some E => if E.ot.has c = true then atB E.ob c else noB
def oldH (f : Int → Option Ent) (i : Int) (c : Nat) : Bool := match f i with
  | none => false
  | some E => E.ot.has c
def nowB (f : Int → Option Ent) (i : Int) (c : Nat) : ByteArray := match f i with
  | none => noB
  | some E => if E.nt.has c = true then atB E.nb c else noB
def nowH (f : Int → Option Ent) (i : Int) (c : Nat) : Bool := match f i with
  | none => false
  | some E => E.nt.has c
theorem Old_any (i : Int) (c : Nat) (w : World) (h : CacheAt B n data w C T L f) (hi : In64 i) (hc : c < data) :
    Calls Tryd.prog 13 #[pt C.g, .int .i64 i, .int .i64 (c : Int)] w fun e w' => e = .returned (.tuple #[.string (oldB f i c), .bool (oldH f i c)]) ∧ Below w.heap.size w w' := by
  have hR := row_any i w h hi
  have hd := h.d30
  unfold oldB oldH
  cases hf : f i with
  | none =>
    rw [hf] at hR
    simp only [Option.map_none, ptrV] at hR
    have HR := Lib.hid hR
    clear hR h
    go_enter Tryd.func13, Tryd.ntmps13
    go_wp2_with fail
    refine HR.out.mono ?_
    rintro e w1 ⟨rfl, rfl⟩
    go_wp2_with fail
    go_ret2
    exact ⟨rfl, Below.refl _ _⟩
  | some E =>
    rw [hf] at hR
    simp only [Option.map_some, ptrV] at hR
    have HR := Lib.hid (And.intro hR (get_old c w (h.ent i E hf) hc hd))
    simp only
    generalize (if E.ot.has c = true then atB E.ob c else noB) = s at *
    generalize E.ot.has c = b at *
    clear hR h
    go_enter Tryd.func13, Tryd.ntmps13
    go_wp2_with fail
    refine HR.out.1.mono ?_
    rintro e w1 ⟨rfl, rfl⟩
    go_wp2_with fail
    refine Calls.pure_to HR.out.2 ?_
    intro w2 b2
    go_wp2_with fail
    go_ret2
    exact ⟨rfl, b2⟩
theorem Get_any (i : Int) (c : Nat) (w : World) (h : CacheAt B n data w C T L f) (hi : In64 i) (hc : c < data) :
    Calls Tryd.prog 14 #[pt C.g, .int .i64 i, .int .i64 (c : Int)] w fun e w' => e = .returned (.tuple #[.string (nowB f i c), .bool (nowH f i c)]) ∧ ∃ M', CacheAt B n data w' { C with M := M' } (if nowH f i c = true then T.touchT i else T) L f ∧ CStep C f { C with M := M' } f w w' := by
  have hR := row_any i w h hi
  have hd := h.d30
  have HC := Lib.hid h
  unfold nowB nowH
  cases hf : f i with
  | none =>
    rw [hf] at hR
    simp only [Option.map_none, ptrV] at hR
    have HR := Lib.hid hR
    clear hR h
    simp only [Bool.false_eq_true, if_false]
    go_enter Tryd.func14, Tryd.ntmps14
    go_wp2_with fail
    refine HR.out.mono ?_
    rintro e w1 ⟨rfl, rfl⟩
    go_wp2_with fail
    go_ret2
    exact ⟨rfl, C.M, HC.out, CStep.refl _ _ _⟩
  | some E =>
    rw [hf] at hR
    simp only [Option.map_some, ptrV] at hR
    have HR := Lib.hid (And.intro hR (get_now c w (h.ent i E hf) hc hd))
    clear hR h
    simp only
    generalize (if E.nt.has c = true then atB E.nb c else noB) = s at *
    rcases Bool.eq_false_or_eq_true (E.nt.has c) with e | e
    rotate_left
    · rw [e] at HR
      simp only [e, Bool.false_eq_true, if_false]
      go_enter Tryd.func14, Tryd.ntmps14
      go_wp2_with fail
      refine HR.out.1.mono ?_
      rintro e w1 ⟨rfl, rfl⟩
      go_wp2_with fail
      refine Calls.pure_to HR.out.2 ?_
      intro w2 b2
      go_wp2_with fail
      go_ret2
      exact ⟨rfl, C.M, HC.out.below b2, CStep.of_below _ _ b2⟩
    · rw [e] at HR
      simp only [e, if_true]
      go_enter Tryd.func14, Tryd.ntmps14
      go_wp2_with fail
      refine HR.out.1.mono ?_
      rintro e w1 ⟨rfl, rfl⟩
      go_wp2_with fail
      refine Calls.pure_to HR.out.2 ?_
      intro w2 b2
      have h2 := HC.out.below b2
      obtain ⟨c0, c1, c2⟩ := h2.three
      have H2 := Lib.hid (And.intro h2 b2)
      clear h2 b2
      go_wp2_with fail
      refine (Touch_any i w2 H2.out.1.turn H2.out.1.good).mono ?_
      rintro e w3 ⟨rfl, M', hT3, hS3⟩
      have HT := Lib.hid (And.intro hT3 hS3)
      clear hT3 hS3 c0 c1 c2
      go_wp2_with fail
      go_ret2
      obtain ⟨A1, A2⟩ := H2.out.1.turned HT.out.2 HT.out.1 (Nat.le_refl _) (H2.out.1.good.touch i) (touch_has H2.out.1.good i)
      exact ⟨rfl, M', A1, (CStep.of_below C f H2.out.2).trans A2⟩
end Go.Proofs.YtijagdpkclghnaaDoor
