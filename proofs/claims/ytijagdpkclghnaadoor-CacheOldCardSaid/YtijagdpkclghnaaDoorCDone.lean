/- Done of a cache: contract. -/
import Derived.Test.YtijagdpkclghnaaDoorCFill
import Derived.Test.YtijagdpkclghnaaDoorElems
namespace Go.Proofs.YtijagdpkclghnaaDoor
open Go Go.RowKit
set_option maxRecDepth 100000
variable {B n data : Nat} {w w' : World} {C C' : CM} {T T' : TS} {L L' : List Int} {f f' : Int → Option Ent} {E : Ent}
theorem Done_no (i : Int) (w : World) (h : CacheAt B n data w C T L f) (hi : In64 i) (hf : f i = none) :
    Calls Tryd.prog 12 #[pt C.g, .int .i64 i] w fun e w' => e = .returned (.bool false) ∧ w = w' := by
  have hR := row_any i w h hi
  rw [hf] at hR
  simp only [Option.map_none, ptrV] at hR
  have HR := Lib.hid hR
  clear hR h
  go_enter Tryd.func12, Tryd.ntmps12
  go_wp2_with fail
  refine HR.out.mono ?_
  rintro e w1 ⟨rfl, rfl⟩
  go_wp2_with fail
  go_returns
  exact ⟨rfl, rfl⟩
/-- What Done makes of a stripe, column by column. -/
def doneS (N : List ByteArray) (F : Ent) (c : Nat) : Ent := { F with ot := F.ot.with' c, ob := F.ob.set c (atB N c) }
def doneF (E : Ent) (l : List Nat) : Ent := l.foldl (doneS E.nb) E
theorem doneF_snoc (E : Ent) (l : List Nat) (c : Nat) : doneF E (l ++ [c]) = doneS E.nb (doneF E l) c := by
  unfold doneF
  rw [List.foldl_append]; rfl
structure Like (E F : Ent) : Prop where
  g : F.g = E.g
  b1 : F.b1 = E.b1
  b2 : F.b2 = E.b2
  nt : F.nt = E.nt
  nb : F.nb = E.nb
  dt : F.dt = E.dt
theorem doneS_like {E F : Ent} (N : List ByteArray) (c : Nat) (h : Like E F) : Like E (doneS N F c) := by
  obtain ⟨h1, h2, h3, h4, h5, h6⟩ := h
  constructor
  · simp only [doneS]; exact h1
  · simp only [doneS]; exact h2
  · simp only [doneS]; exact h3
  · simp only [doneS]; exact h4
  · simp only [doneS]; exact h5
  · simp only [doneS]; exact h6
theorem doneF_same (E : Ent) (l : List Nat) : Like E (doneF E l) := by
  unfold doneF
  suffices h : ∀ (l : List Nat) (F : Ent), Like E F → Like E (l.foldl (doneS E.nb) F) from h l E ⟨rfl, rfl, rfl, rfl, rfl, rfl⟩
  intro l
  induction l with
  | nil => intro F h; exact h
  | cons c l ih => intro F h; rw [List.foldl_cons]; exact ih _ (doneS_like _ _ h)
def Ent.done (E : Ent) : Ent := { doneF E E.nt.list with dt := Set4.zero }
theorem upd_self (f : Int → Option Ent) {k : Int} {E : Option Ent} (h : f k = E) : upd f k E = f := by
  funext j
  by_cases e : j = k
  · subst e; rw [upd_same, h]
  · rw [upd_other _ _ e]
theorem nt_list {s : Set4} {c : Nat} (h : c ∈ s.list) : s.has c = true := by
  unfold Set4.list at h
  exact (List.mem_filter.1 h).2
set_option maxHeartbeats 2000000 in
theorem Done_yes (i : Int) (w : World) (h : CacheAt B n data w C T L f) (hi : In64 i) (hf : f i = some E) (hT : Tab w) (hnn : n < 90000) :
    Calls Tryd.prog 12 #[pt C.g, .int .i64 i] w fun e w' => e = .returned (.bool true) ∧ ∃ C', CacheAt B (n + 1) data w' C' (T.pinT i false) L (upd f i (some E.done)) ∧ CStep C f C' (upd f i (some E.done)) w w' := by
  have hR := row_any i w h hi
  rw [hf] at hR
  simp only [Option.map_some, ptrV] at hR
  have HR := Lib.hid (And.intro hR (And.intro hi (And.intro hT (And.intro hf hnn))))
  have hE := h.ent i E hf
  have HC := Lib.hid h
  have k0 := hE.row.cell 0 rfl
  have k1 := hE.row.cell 1 rfl
  have k2 := hE.row.cell 2 rfl
  have k3 := hE.row.cell 3 rfl
  clear hR hi hT hf hnn
  go_enter Tryd.func12, Tryd.ntmps12
  go_wp2_with fail
  refine HR.out.1.mono ?_
  rintro e w1 ⟨rfl, rfl⟩
  go_wp2_with fail
  refine (List_any E.nt w HR.out.2.2.1).mono ?_
  rintro e w2 ⟨⟨v, rfl, ho⟩, b2⟩
  obtain ⟨m, hm⟩ : ∃ m, m = E.nt.list.length := ⟨_, rfl⟩
  have hm2 : m ≤ 256 := by rw [hm]; unfold Set4.list; exact Nat.le_trans (List.length_filter_le _ _) (by simp)
  rw [← hm] at ho
  obtain ⟨a2, c2, hv⟩ : ∃ a c, v = .slice a m c := by
    rcases own_form ho with ⟨h1, h2⟩ | ⟨g, cap, h1, _⟩
    · exact ⟨none, 0, by rw [h1, h2]⟩
    · exact ⟨_, _, h1⟩
  subst hv
  have H2 := Lib.hid (And.intro ho (And.intro b2 hm))
  clear ho b2 hm k0 k1 k2 k3 hE h
  go_wp2_with fail
  go_loopw [20] (fun j wr => ∃ (k : Nat), k ≤ m ∧ j = .int .i64 k ∧ CacheAt B n data wr C T L (upd f i (some (doneF E (E.nt.list.take k)))) ∧ CStep C f C (upd f i (some (doneF E (E.nt.list.take k)))) w2 wr ∧ EStep E w2 wr) (fun j _ => m - (intOf j).toNat)
  case atStart =>
    have e0 : doneF E (E.nt.list.take 0) = E := rfl
    refine ⟨0, Nat.zero_le _, rfl, ?_⟩
    rw [e0, upd_self f HR.out.2.2.2.1]
    exact ⟨HC.out.below H2.out.2.1, CStep.refl _ _ _, EStep.of_below _ (Below.refl _ _)⟩
  case round =>
    obtain ⟨k, hk, rfl, hA, hS, hES⟩ := hrel
    by_cases hlt : k < m
    · obtain ⟨c, hc⟩ : ∃ c, E.nt.list[k]? = some c := ⟨_, List.getElem?_eq_getElem (by rw [← H2.out.2.2]; exact hlt)⟩
      have hch := nt_list (List.mem_of_getElem? hc)
      have hcd := (HC.out.ent i E HR.out.2.2.2.1).i1 c hch
      have hnl := (HC.out.ent i E HR.out.2.2.2.1).l1
      have hcI : (c : Int) < (data : Int) := by omega
      obtain ⟨F, hF⟩ : ∃ F, F = doneF E (E.nt.list.take k) := ⟨_, rfl⟩
      have hsame := doneF_same E (E.nt.list.take k)
      have hnext : doneF E (E.nt.list.take (k + 1)) = doneS E.nb F c := by rw [List.take_add_one, hc, hF]; exact doneF_snoc E _ c
      rw [← hF] at hA hS hsame
      clear hF
      obtain ⟨s1, s2, s3, s4, s5, s6⟩ := hsame
      have hE := hA.ent i F (upd_same _ _ _)
      rcases own_form H2.out.1 with ⟨_, h2⟩ | ⟨gl, cap, hv, hgl, hgs, h1, h2, hcell, _⟩
      · omega
      obtain ⟨e1, e2, e3⟩ := Value.slice.inj hv
      subst e1
      clear e2 e3 hv
      have ck : wr.cell? ⟨gl, k, none⟩ = some (.int .i64 (c : Int)) := by
        have h9 := hcell k (.int .i64 (c : Int)) (by unfold nats; rw [List.getElem?_map, hc]; rfl)
        have hnf : ¬ E.foot gl := fun hx => by have := ((HC.out.ent i E HR.out.2.2.2.1).lts gl hx).2; omega
        unfold World.cell? at *
        rw [hES.block gl hgs hnf]; exact h9
      have k4 := hE.row.cell 4 rfl
      rw [s1, s2] at k4
      have k5 := hE.r1.cell c (v := .string (atB F.nb c)) (by rw [List.getElem?_map, atB_get (by rw [s5, hnl]; exact hcd)]; rfl)
      rw [s2, s5] at k5
      have hEd : EntAt B data wr.drew F := hE.same fun _ _ => rfl
      have hput : Calls Tryd.prog 27 #[.pointer (some ⟨E.g, 5, none⟩), .int .i64 (c : Int), .string (atB E.nb c)] wr.drew (fun e w' => e = .returned (.tuple #[]) ∧ EntAt B data w' (doneS E.nb F c) ∧ EStep F wr.drew w') := by rw [← s1]; exact put_old c (atB E.nb c) wr.drew hEd hcd HC.out.d30
      have HX := Lib.hid (And.intro hput (And.intro hA (And.intro hS (And.intro hES (And.intro hnext (And.intro s1 (And.intro s2 s3)))))))
      clear hput hA hS hES hnext hE hcell hEd
      go_wp2_with fail
      refine wp_region_mix_exts (fun x => x = E.g ∨ x = E.b1) [] true (by kernel_rfl) (by kernel_rfl) ?_
      intro _
      repeat ((with_reducible refine wpMix_light ?hh ?_); (case hh => rfl); go_big_quiet_step (fail); (with_reducible refine wpQuiet_nil ?_))
      refine wpMix_last (by rfl) (by rfl) (fun K hK => ?_)
      go_simp
      refine HX.out.1.mono ?_
      rintro e w5 ⟨rfl, hE5, hS5⟩
      obtain ⟨_, hA, hS, hES, hnext, s1, s2, s3⟩ := HX.out
      have hL : (doneS E.nb F c).g = F.g ∧ (doneS E.nb F c).b1 = F.b1 ∧ (doneS E.nb F c).b2 = F.b2 := by simp only [doneS]; exact ⟨trivial, trivial, trivial⟩
      replace hS5 := (EStep.of_below F ((Below.refl wr.heap.size wr).drew)).trans hS5
      have hA5 := hA.entPut (E' := doneS E.nb F c) (upd_same f i (some F)) hL.1 hL.2.1 hL.2.2 hE5 hS5.os hS5.tape hS5.output hS5.size hS5.block
      rw [upd_upd] at hA5
      have hES5 := hES.trans (hS5.like (E' := E) s1.symm s2.symm s3.symm)
      have H5 := Lib.hid (And.intro hA5.1 (And.intro (hS.trans hA5.2) hES5))
      clear hA hS hES hA5 hES5 hE5 hS5
      refine hK.out _ _ ?_
      clear hK K
      go_wp2_with fail
      go_roundw
      case rel => exact ⟨k + 1, by omega, by go_num, by rw [hnext]; exact H5.out.1, by rw [hnext]; exact H5.out.2.1, H5.out.2.2⟩
      case measure => simp [intOf] <;> omega
    · obtain rfl : k = m := by omega
      obtain ⟨F, hF⟩ : ∃ F, F = doneF E E.nt.list := ⟨_, rfl⟩
      rw [H2.out.2.2, List.take_length, ← hF] at hA hS
      have hsame := doneF_same E E.nt.list
      rw [← hF] at hsame
      have hdone : E.done = { F with dt := Set4.zero } := by rw [hF]; rfl
      clear hF
      obtain ⟨s1, s2, s3, s4, s5, s6⟩ := hsame
      have hE := hA.ent i F (upd_same _ _ _)
      have k0 := hE.row.cell 10 rfl
      have k1 := hE.row.cell 11 rfl
      have k2 := hE.row.cell 12 rfl
      have k3 := hE.row.cell 13 rfl
      have z0 := hE.row.free
      rw [s1] at k0 k1 k2 k3 z0
      have hD : EntAt B data ((((wr.setCell ⟨E.g, 10, none⟩ (.int .u64 0)).setCell ⟨E.g, 11, none⟩ (.int .u64 0)).setCell ⟨E.g, 12, none⟩ (.int .u64 0)).setCell ⟨E.g, 13, none⟩ (.int .u64 0)) { F with dt := Set4.zero } := by rw [← s1]; exact EntAt.dirty (t := Set4.zero) hE
      have hDS : EStep F wr ((((wr.setCell ⟨E.g, 10, none⟩ (.int .u64 0)).setCell ⟨E.g, 11, none⟩ (.int .u64 0)).setCell ⟨E.g, 12, none⟩ (.int .u64 0)).setCell ⟨E.g, 13, none⟩ (.int .u64 0)) := by rw [← s1]; exact EStep.dirty F wr Set4.zero
      have HX := Lib.hid (And.intro hA (And.intro hS (And.intro hdone s1)))
      clear hA hS hdone hES hE s1 s2 s3 s4 s5 s6
      go_upto_region 10 with fail
      refine wp_world (fun w7 => EntAt B data w7 { F with dt := Set4.zero } ∧ EStep F wr w7) ⟨hD, hDS⟩ ?_
      clear hD hDS k0 k1 k2 k3 z0
      rintro w7 ⟨hE7, hS7⟩
      have hA7 := HX.out.1.entPut (E' := { F with dt := Set4.zero }) (upd_same f i (some F)) rfl rfl rfl hE7 hS7.os hS7.tape hS7.output hS7.size hS7.block
      rw [upd_upd, ← HX.out.2.2.1] at hA7
      obtain ⟨c0, c1, c2⟩ := hA7.1.three
      have H7 := Lib.hid (And.intro hA7.1 (HX.out.2.1.trans hA7.2))
      clear hA7 hE7 hS7
      go_wp2_with fail
      refine (Pin_any i false w7 H7.out.1.turn (by have := HR.out.2.2.2.2; omega) HR.out.2.1).mono ?_
      rintro e w8 ⟨rfl, hT8, hS8⟩
      have H8 := Lib.hid (And.intro hT8 hS8)
      clear hT8 hS8 c0 c1 c2
      go_wp2_with fail
      go_returns
      obtain ⟨A1, A2⟩ := H7.out.1.turned H8.out.2 H8.out.1 (by omega) (H7.out.1.good.pin i false) (pin_has T i false)
      exact ⟨rfl, _, A1, (CStep.of_below C f H2.out.2.1).trans (H7.out.2.trans A2)⟩
end Go.Proofs.YtijagdpkclghnaaDoor
