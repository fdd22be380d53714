/- open of a cache, Put, Fill: contracts. -/
import Derived.Test.YtijagdpkclghnaaDoorCOpen
namespace Go.Proofs.YtijagdpkclghnaaDoor
open Go Go.RowKit
set_option maxRecDepth 100000
variable {B n data : Nat} {w w' : World} {C C' : CM} {T T' : TS} {L L' : List Int} {f f' : Int → Option Ent} {E : Ent}
theorem open_here (i : Int) (c : Nat) (s : ByteArray) (w : World) (h : CacheAt B n data w C T L f) (hi : 0 ≤ i) (hi2 : i < 64) (hc : c < data) (hs : s.size = 64) (hf : f i = some E) :
    Calls Tryd.prog 26 #[pt C.g, .int .i64 i, .int .i64 (c : Int), .string s] w fun e w' => ∃ M', e = .returned (.tuple #[pt E.g, .int .i64 0]) ∧ CacheAt B n data w' { C with M := M' } (T.touchT i) L f ∧ CStep C f { C with M := M' } f w w' := by
  obtain ⟨c0, c1, c2⟩ := h.three
  have hi64 : In64 i := ⟨by omega, by omega⟩
  have hcI : (c : Int) < (data : Int) := by omega
  have hsI : (s.size : Int) = 64 := by omega
  have hR := row_any i w h hi64
  rw [hf] at hR
  simp only [Option.map_some, ptrV] at hR
  have HR := Lib.hid hR
  have HC := Lib.hid h
  clear hR hi64
  go_enter Tryd.func26, Tryd.ntmps26
  go_wp2_with fail
  refine HR.out.mono ?_
  rintro e w1 ⟨rfl, rfl⟩
  go_wp2_with fail
  refine (Touch_any i w HC.out.turn HC.out.good).mono ?_
  rintro e w2 ⟨rfl, M', hT2, hS2⟩
  have HT := Lib.hid (And.intro hT2 hS2)
  clear hT2 hS2 c0 c1 c2
  go_wp2_with fail
  go_ret2
  obtain ⟨A1, A2⟩ := h.turned HT.out.2 HT.out.1 (Nat.le_refl _) (h.good.touch i) (touch_has h.good i)
  exact ⟨M', rfl, A1, A2⟩
/-- Behind an open: the stripe is there, as it was, or new. -/
structure Opened (B n data : Nat) (w : World) (C : CM) (T : TS) (L : List Int) (f : Int → Option Ent) (i : Int) (w' : World) (C' : CM) (E : Ent) (T' : TS) (L' : List Int) (f' : Int → Option Ent) : Prop where
  at_ : CacheAt B (n + 1) data w' C' T' L' f'
  here : f' i = some E
  step : CStep C f C' f' w w'
  how : (f i = some E ∧ f' = f ∧ L' = L ∧ T' = T.touchT i) ∨ (f i = none ∧ T' = T.addT i ∧ L' = addTo L i ∧ f' = upd f i (some E) ∧ E.nt = Set4.zero ∧ E.ot = Set4.zero ∧ E.dt = Set4.zero ∧ E.nb = List.replicate data noB ∧ E.ob = List.replicate data noB)
theorem open_any (i : Int) (c : Nat) (s : ByteArray) (w : World) (h : CacheAt B n data w C T L f) (hi : 0 ≤ i) (hi2 : i < 64) (hc : c < data) (hs : s.size = 64) (hr : f i ≠ none ∨ T.full = false) (hnn : n < 100000) :
    Calls Tryd.prog 26 #[pt C.g, .int .i64 i, .int .i64 (c : Int), .string s] w fun e w' => ∃ C' E T' L' f', e = .returned (.tuple #[pt E.g, .int .i64 0]) ∧ Opened B n data w C T L f i w' C' E T' L' f' := by
  cases hf : f i with
  | some E =>
    refine (open_here i c s w h hi hi2 hc hs hf).mono ?_
    rintro e w' ⟨M', rfl, A1, A2⟩
    exact ⟨_, E, _, _, _, rfl, A1.mono (by omega), hf, A2, .inl ⟨hf, rfl, rfl, rfl⟩⟩
  | none =>
    refine (open_new i c s w h hi hi2 hc hs hf (hr.elim (fun e => absurd hf e) id) hnn).mono ?_
    rintro e w' ⟨C', E, rfl, A1, A2, z1, z2, z3, z4, z5⟩
    exact ⟨C', E, _, _, _, rfl, A1, upd_same _ _ _, A2, .inr ⟨hf, rfl, rfl, rfl, z1, z2, z3, z4, z5⟩⟩
theorem upd_upd (f : Int → Option Ent) (k : Int) (a b : Option Ent) : upd (upd f k a) k b = upd f k b := by
  funext j
  by_cases e : j = k
  · subst e; rw [upd_same, upd_same]
  · rw [upd_other _ _ e, upd_other _ _ e, upd_other _ _ e]
/-- A stripe's dirty columns are other ones. -/
theorem EntAt.dirty {t : Set4} (h1 : EntAt B data w E) : EntAt B data ((((w.setCell ⟨E.g, 10, none⟩ (.int .u64 (t.a : Int))).setCell ⟨E.g, 11, none⟩ (.int .u64 (t.b : Int))).setCell ⟨E.g, 12, none⟩ (.int .u64 (t.c : Int))).setCell ⟨E.g, 13, none⟩ (.int .u64 (t.d : Int))) { E with dt := t } :=
  ⟨(((h1.row.set 10 _).set 11 _).set 12 _).set 13 _, (((h1.r1.other _ _ h1.g1).other _ _ h1.g1).other _ _ h1.g1).other _ _ h1.g1, (((h1.r2.other _ _ h1.g2).other _ _ h1.g2).other _ _ h1.g2).other _ _ h1.g2, h1.g1, h1.g2, h1.b12, h1.bg, h1.bb1, h1.bb2, h1.l1, h1.l2, h1.i1, h1.i2⟩
theorem EStep.dirty (E : Ent) (w : World) (t : Set4) : EStep E w ((((w.setCell ⟨E.g, 10, none⟩ (.int .u64 (t.a : Int))).setCell ⟨E.g, 11, none⟩ (.int .u64 (t.b : Int))).setCell ⟨E.g, 12, none⟩ (.int .u64 (t.c : Int))).setCell ⟨E.g, 13, none⟩ (.int .u64 (t.d : Int))) :=
  ((((EStep.of_below E (Below.refl _ _)).setCell _ _ (.inl rfl)).setCell _ _ (.inl rfl)).setCell _ _ (.inl rfl)).setCell _ _ (.inl rfl)
theorem EStep.like {E E' : Ent} (h : EStep E w w') (hg : E'.g = E.g) (h1 : E'.b1 = E.b1) (h2 : E'.b2 = E.b2) : EStep E' w w' :=
  ⟨h.os, h.tape, h.output, h.size, fun x hx hn => h.block x hx fun hf => hn (by unfold Ent.foot at *; rw [hg, h1, h2]; exact hf)⟩
def Ent.put (E : Ent) (c : Nat) (s : ByteArray) : Ent := { E with nt := E.nt.with' c, nb := E.nb.set c s, dt := E.dt.with' c }
set_option maxHeartbeats 1000000 in
theorem Put_any (i : Int) (c : Nat) (s : ByteArray) (w : World) (h : CacheAt B n data w C T L f) (hi : 0 ≤ i) (hi2 : i < 64) (hc : c < data) (hs : s.size = 64) (hr : f i ≠ none ∨ T.full = false) (hnn : n < 90000) :
    Calls Tryd.prog 10 #[pt C.g, .int .i64 i, .int .i64 (c : Int), .string s] w fun e w' => e = .returned (.int .i64 0) ∧ ∃ (w1 : World) (C1 : CM) (E : Ent) (T1 : TS) (L1 : List Int) (f1 : Int → Option Ent) (C' : CM), Opened B n data w C T L f i w1 C1 E T1 L1 f1 ∧ CacheAt B (n + 2) data w' C' (T1.pinT i true) L1 (upd f1 i (some (E.put c s))) ∧ CStep C f C' (upd f1 i (some (E.put c s))) w w' := by
  have hO := open_any i c s w h hi hi2 hc hs hr (by omega)
  have hc256 : c < 256 := by have := h.d30; omega
  have HO := Lib.hid hO
  have HC := Lib.hid (And.intro h (And.intro hi (And.intro hi2 (And.intro hc (And.intro hs hnn)))))
  clear hO h hi hi2 hs hr hnn
  go_enter Tryd.func10, Tryd.ntmps10
  go_wp2_with fail
  refine HO.out.mono ?_
  rintro e w1 ⟨C1, E, T1, L1, f1, rfl, hop⟩
  have HP := Lib.hid hop
  have hE1 := hop.at_.ent i E hop.here
  clear hop
  go_wp2_with fail
  refine (put_now c s w1 hE1 hc HP.out.at_.d30).mono ?_
  rintro e w2 ⟨rfl, hE2, hS2⟩
  have hA2 := HP.out.at_.entPut (E' := { E with nt := E.nt.with' c, nb := E.nb.set c s }) HP.out.here rfl rfl rfl hE2 hS2.os hS2.tape hS2.output hS2.size hS2.block
  have k0 := hE2.row.cell 10 rfl
  have k1 := hE2.row.cell 11 rfl
  have k2 := hE2.row.cell 12 rfl
  have k3 := hE2.row.cell 13 rfl
  have H2 := Lib.hid (And.intro hE2 hA2)
  clear hE1 hE2 hS2 hA2
  go_wp2_with fail
  refine Calls.pure_to (With_yes E.dt c w2 hc256) ?_
  intro w3 b3
  have hE3 := H2.out.1.below b3
  have hA3 := H2.out.2.1.below b3
  clear k0 k1 k2 k3
  have k0 := hE3.row.cell 10 rfl
  have k1 := hE3.row.cell 11 rfl
  have k2 := hE3.row.cell 12 rfl
  have k3 := hE3.row.cell 13 rfl
  have z0 := hE3.row.free
  have H3 := Lib.hid (And.intro hA3 b3)
  go_upto_region 6 with fail
  have hD := EntAt.dirty (t := E.dt.with' c) hE3
  refine wp_world (fun w4 => EntAt B data w4 { E with nt := E.nt.with' c, nb := E.nb.set c s, dt := E.dt.with' c } ∧ EStep E w3 w4) ⟨hD, EStep.dirty E w3 (E.dt.with' c)⟩ ?_
  clear hE3 hA3 b3 k0 k1 k2 k3 z0 hD
  rintro w4 ⟨hE4, hS4⟩
  replace hS4 := hS4.like (E' := { E with nt := E.nt.with' c, nb := E.nb.set c s }) rfl rfl rfl
  have hA4 := H3.out.1.entPut (E' := { E with nt := E.nt.with' c, nb := E.nb.set c s, dt := E.dt.with' c }) (upd_same f1 i (some { E with nt := E.nt.with' c, nb := E.nb.set c s })) rfl rfl rfl hE4 hS4.os hS4.tape hS4.output hS4.size hS4.block
  rw [upd_upd] at hA4
  obtain ⟨c0, c1, c2⟩ := hA4.1.three
  rw [HP.out.step.g] at c0 c1 c2
  have H4 := Lib.hid hA4
  clear hA4 hE4 hS4
  go_wp2_with fail
  refine (Pin_any i true w4 H4.out.1.turn (by have := HC.out.2.2.2.2.2; omega) ⟨by have := HC.out.2.1; omega, by have := HC.out.2.2.1; omega⟩).mono ?_
  rintro e w5 ⟨rfl, hT5, hS5⟩
  have H5 := Lib.hid (And.intro hT5 hS5)
  clear hT5 hS5 c0 c1 c2
  go_wp2_with fail
  go_returns
  obtain ⟨A1, A2⟩ := H4.out.1.turned H5.out.2 H5.out.1 (by omega) (H4.out.1.good.pin i true) (pin_has T1 i true)
  exact ⟨rfl, w1, C1, E, T1, L1, f1, _, HP.out, A1, HP.out.step.trans (H2.out.2.2.trans ((CStep.of_below _ _ H3.out.2).trans (H4.out.2.trans A2)))⟩
end Go.Proofs.YtijagdpkclghnaaDoor
