/- Several texts in one: Open LaidStr Gf Word Ext3 Buf La Bw. -/
import Derived.Test.YtjoipibldahbhaaGreatDoorKrb
import Derived.WalkKit
import Derived.ProofKit
import Derived.OpenShut
import Derived.Lib.LaidTab
import Derived.ShutString
import Derived.ChangeOld
import Derived.SizedLaws
import Derived.ChangeVars
import Derived.Lib.AppendStr
import Derived.Room.AppendFits
import Derived.Laws.BytesArg
import Derived.Test.YtjoipibldahbhaaGreatDoorProg
import Derived.Handy
import Derived.Deep.DeepCutAuto
import Derived.Deep.CutBlock
import Derived.StillTailTactics
import Derived.Lib.Hide
/- Arguments laid open: laws of my own, no program in them. -/
namespace Go
open Go.ChangeShapes Go.WideShapes Go.ChangeAt Go.RowKit
section
variable {H : Type} {enc : TypeId × Value → H} {P : Program} {W : World} {base : Nat} {sp : Nat → Bool} {held : Bool}
theorem open_array_ints {t e : TypeId} {n : Nat} {k : IntKind} {v : Value} {d : DataW H} {p : List MemPlace} {r : Reach} (ht : P.underlying t = some (.array n e)) (he : P.underlying e = some (.int k)) (hce : P.cellsOf e = 1) (hct : P.cellsOf t = n)
    (hv : Value.okWide P W r base t v) (h : DataW.Trod enc P W 0 sp held t v d p) : ∃ zs : List Int, zs.length = n ∧ v = .agg (zs.map (Value.int k)).toArray ∧ ∀ z ∈ zs, (Lit.int k z).wf = true := by
  obtain ⟨cs, rfl, hs⟩ : ∃ cs, v = .agg cs ∧ cs.size = P.cellsOf t := by
    simp only [Value.okWide, ht] at hv
    obtain ⟨cs, h1, h2, _⟩ := hv
    exact ⟨cs, h1, h2⟩
  obtain ⟨fuel, hf⟩ := h
  obtain ⟨xs, m, _, _, hl, hx, hat⟩ := DataW.trod_array ht hf
  obtain ⟨l⟩ := cs
  simp only [Value.cells] at hl hat
  have hn : ∀ i, i < n → ∃ z, l[i]? = some (.int k z) ∧ (Lit.int k z).wf = true := fun i hi => by
    have h1 := hat i hi
    rw [hce, Nat.mul_one, List.getElem?_eq_getElem (by omega)] at h1
    cases hd : l.drop i with
    | nil => rw [hd] at h1; cases m <;> simp [DataW.trod, he] at h1
    | cons c rest =>
      rw [hd] at h1
      simp only [List.take_succ_cons, List.take_zero] at h1
      obtain ⟨z, hc, _, hw⟩ := DataW.trod_int he h1
      refine ⟨z, ?_, hw⟩
      have : l[i]? = (l.drop i)[0]? := by simp
      rw [this, hd]
      simpa using hc
  have hlen : l.length = n := by simpa [hct] using hs
  let f : Value → Int := fun v => match v with | .int _ z => z | _ => 0
  refine ⟨l.map f, by simp [hlen], ?_, ?_⟩
  · congr 1
    rw [List.map_map]
    have e : l = l.map (Value.int k ∘ f) := List.ext_getElem? fun i => by
      by_cases hi : i < n
      · obtain ⟨z, hz, _⟩ := hn i hi
        rw [List.getElem?_map, hz]; rfl
      · rw [List.getElem?_eq_none (by omega), List.getElem?_eq_none (by simp; omega)]
    exact congrArg List.toArray e
  · intro z hz
    obtain ⟨c, hc, rfl⟩ := List.mem_map.1 hz
    obtain ⟨i, hi, rfl⟩ := List.getElem_of_mem hc
    obtain ⟨z, h1, h2⟩ := hn i (by omega)
    rw [List.getElem?_eq_getElem hi] at h1
    rw [Option.some.inj h1]
    exact h2
/-- What was read of all arguments is read again behind a call that left all old blocks as they were. -/
theorem trodAll_below {ts : List TypeId} (hl : laidOutB P = true) (hr : ∀ t ∈ ts, P.readableRec t = true ∧ t < P.types.size) {W' : World} (hb : Below W.heap.size W W') :
    ∀ {vs : List Value} {ds : List (DataW H)} {ps : List MemPlace}, DataW.TrodAll enc P W 0 (fun _ => true) true ts vs ds ps → DataW.TrodAll enc P W' 0 (fun b => decide (b < W.heap.size)) true ts vs ds ps := by
  induction ts with
  | nil => intro vs ds ps h; obtain ⟨rfl, rfl, rfl⟩ := trodAll_nil h; exact trodAll_mk0
  | cons t ts ih =>
    intro vs ds ps h
    obtain ⟨v, vs', d, ds', p, q, rfl, rfl, rfl, h1, h2⟩ := trodAll_cons h
    have hlt : ∀ x ∈ p, x.block < W.heap.size := by obtain ⟨m, hm⟩ := h1; exact DataW.trod_lt m _ _ _ hm
    exact trodAll_cons_mk (Below.trod hl (hr t (by simp)).1 (hr t (by simp)).2 h1 hb hlt) (ih (fun t' ht' => hr t' (by simp [ht'])) h2)
/-- The end of a law's row: it returned true, and all old blocks are as they were. -/
theorem law_post {s : ChangeSpec} {fn : Func} {W' : World} {args : Array Value} {ds gs : List (DataW H)} {before : List MemPlace} {tb : TypeId} (hl : laidOutB P = true)
    (hr : ∀ t ∈ fn.params.toList, P.readableRec t = true ∧ t < P.types.size) (hW : DataW.Whole enc P fn.params.toList s.vars false W args.toList ds gs before) (hvars : s.vars = []) (hres : fn.resultTypes = #[tb]) (hb : P.underlying tb = some .bool)
    (hfn : s.fn H (ds ++ gs) = { results := [.lit (.bool true)], args := ds }) (bel : Below W.heap.size W W') :
    s.post enc P fn false true false false W args (.bool true) W' := by
  obtain ⟨p, q, hA, hV, rfl, hfz, hnd⟩ := hW
  refine ⟨ds, gs, p ++ q, [], p, [], ⟨p, q, hA, hV, rfl, hfz, hnd⟩, ?_, ?_, ?_, bel.frame _, fun h => by cases h⟩
  · rw [hfn, hres]; exact trodAll_mk1 (shut_bool hb true)
  · rw [hfn]; exact trodAll_below hl hr bel hA
  · rw [hfn, hvars]; rfl
end
end Go
/- A package variable that is an array of strings, as a row lists it: laws of my own, no program in them. -/
namespace Go
open Go.ChangeShapes Go.WideShapes Go.RowKit
def strData {H : Type} (ss : List (List UInt8)) : DataW H := .agg (ss.map fun s => .lit (.string s))
abbrev strV (s : List UInt8) : Value := .string { data := s.toArray }
theorem cells_of_strs {H : Type} {enc : TypeId × Value → H} {P : Program} {w : World} {base : Nat} {sp : Nat → Bool} {held : Bool} {fuel : Nat} {t e : TypeId} {n : Nat} {cs : List Value} {ss : List (List UInt8)} {p : List MemPlace}
    (ht : P.underlying t = some (.array n e)) (he : P.underlying e = some .string) (hce : P.cellsOf e = 1) (hct : P.cellsOf t = n)
    (h : DataW.trod enc P w base sp held fuel t cs = some (strData ss, p)) : cs = ss.map strV := by
  cases fuel with
  | zero => simp [DataW.trod] at h
  | succ fuel =>
    simp only [DataW.trod, ht, hce, hct, Nat.mul_one] at h
    split at h
    · rename_i hl
      obtain ⟨xs, hm, hx⟩ := Option.map_eq_some_iff.1 h
      have hxs : xs.map (·.1) = ss.map fun s => (DataW.lit (.string s) : DataW H) := by
        have := congrArg Prod.fst hx
        simpa [strData] using this
      have hxl : xs.length = n := by simpa using Lib.mapM_length hm
      have hzl : ss.length = n := by
        have := congrArg List.length hxs
        simp at this
        omega
      apply List.ext_getElem?
      intro i
      by_cases hi : i < n
      · obtain ⟨b, hb, hf⟩ := Lib.mapM_at hm i i (by simp [hi])
        obtain ⟨s, hc, rfl, _⟩ := DataW.trod_string he hf
        have h1 : cs[i]? = some (.string s) := by
          have := congrArg (·[0]?) hc
          simpa [List.getElem?_take, List.getElem?_drop] using this
        have h2 : (xs.map (·.1))[i]? = some (DataW.lit (.string s.data.toList) : DataW H) := by simp [hb]
        rw [hxs] at h2
        simp only [List.getElem?_map, Option.map_eq_some_iff, DataW.lit.injEq, Lit.string.injEq] at h2
        obtain ⟨z', hz', e2⟩ := h2
        rw [h1, List.getElem?_map, hz', Option.map_some, e2]
      · rw [List.getElem?_eq_none (by omega), List.getElem?_eq_none (by simp; omega)]
    · cases h
/-- What the cells of a variable listed first are. -/
theorem strs_of_head {P : Program} {W : World} {name : String} {ss : List (List UInt8)} {rest : List (String × DataW Unit)} {g : Nat} {t e : TypeId} {n : Nat}
    (hg : P.globalNamed name = some g) (hty : (P.globals[g]?).map (·.type) = some t) (ht : P.underlying t = some (.array n e)) (he : P.underlying e = some .string) (hce : P.cellsOf e = 1) (hct : P.cellsOf t = n)
    (h : laidMet P ((name, strData ss) :: rest) W) : ∀ j s, ss[j]? = some s → W.cell? ⟨g, j, none⟩ = some (strV s) := by
  obtain ⟨ps, ⟨g', t', cs, fuel, p, q, hg', ht', hvar, hd, _, _⟩, _⟩ := h
  obtain rfl := Option.some.inj (hg.symm.trans hg')
  obtain rfl := Option.some.inj (hty.symm.trans ht')
  intro j s hj
  rw [World.var?_cell hg hvar j]
  have e := cells_of_strs ht he hce hct hd
  have e2 : cs[j]? = cs.toList[j]? := by simp
  rw [e2, e]
  simp [hj]
end Go
/- The field of 256 elements, by doubling: plain laws. No program in it. -/
namespace Go.Proofs.YtjoipibldahbhaaGreatDoor
/-- An element doubled. -/
def dbl (x : Nat) : Nat := (x <<< 1) ^^^ (if x.testBit 7 then 285 else 0)
theorem dbl_lt : ∀ x, x < 256 → dbl x < 256 := by decide +kernel
theorem dbl_zero : dbl 0 = 0 := rfl
theorem dbl_xor (x y : Nat) : dbl (x ^^^ y) = dbl x ^^^ dbl y := by
  have h : ∀ a b c d : Nat, (a ^^^ b) ^^^ (c ^^^ d) = (a ^^^ c) ^^^ (b ^^^ d) := fun a b c d => by
    rw [Nat.xor_assoc, Nat.xor_assoc, ← Nat.xor_assoc b c d, Nat.xor_comm b c, Nat.xor_assoc c b d]
  have g : ∀ a b : Bool, (if (a ^^ b) = true then 285 else 0) = (if a = true then 285 else 0) ^^^ (if b = true then 285 else 0) := by decide
  unfold dbl
  rw [Nat.shiftLeft_xor_distrib, Nat.testBit_xor, g, h]
/-- The product: doublings of x, as the bits of c say. -/
def gmF : Nat → Nat → Nat → Nat
  | 0, _, _ => 0
  | n + 1, x, c => (if c % 2 = 1 then x else 0) ^^^ gmF n (dbl x) (c / 2)
def gm (x c : Nat) : Nat := gmF 8 x c
theorem xor4 (a b c d : Nat) : (a ^^^ b) ^^^ (c ^^^ d) = (a ^^^ c) ^^^ (b ^^^ d) := by
  rw [Nat.xor_assoc, Nat.xor_assoc, ← Nat.xor_assoc b c d, Nat.xor_comm b c, Nat.xor_assoc c b d]
theorem gmF_zero : ∀ n c, gmF n 0 c = 0
  | 0, _ => rfl
  | n + 1, c => by unfold gmF; rw [dbl_zero, gmF_zero n]; split <;> rfl
theorem gmF_lt : ∀ n x c, x < 256 → gmF n x c < 256
  | 0, _, _, _ => by unfold gmF; omega
  | n + 1, x, c, h => by
    unfold gmF
    have := gmF_lt n (dbl x) (c / 2) (dbl_lt x h)
    split
    · exact Nat.xor_lt_two_pow (n := 8) h this
    · rw [Nat.zero_xor]; exact this
theorem gmF_left : ∀ n x y c, gmF n (x ^^^ y) c = gmF n x c ^^^ gmF n y c
  | 0, _, _, _ => by simp [gmF]
  | n + 1, x, y, c => by
    unfold gmF
    rw [dbl_xor, gmF_left n, xor4]
    split <;> simp
theorem mod_xor (c d : Nat) : ((c ^^^ d) % 2 = 1) ↔ ¬ ((c % 2 = 1) ↔ (d % 2 = 1)) := by
  have h : ∀ n : Nat, (n % 2 = 1) ↔ n.testBit 0 = true := fun n => by rw [Nat.testBit_zero]; simp
  rw [h, h, h, Nat.testBit_xor]
  cases c.testBit 0 <;> cases d.testBit 0 <;> simp
theorem gmF_right : ∀ n x c d, gmF n x (c ^^^ d) = gmF n x c ^^^ gmF n x d
  | 0, _, _, _ => by simp [gmF]
  | n + 1, x, c, d => by
    unfold gmF
    have e : (c ^^^ d) / 2 = c / 2 ^^^ d / 2 := Nat.eq_of_testBit_eq fun i => by rw [Nat.testBit_xor, Nat.testBit_div_two, Nat.testBit_div_two, Nat.testBit_div_two, Nat.testBit_xor]
    rw [e, gmF_right n, xor4]
    congr 1
    have := mod_xor c d
    by_cases h1 : c % 2 = 1 <;> by_cases h2 : d % 2 = 1 <;> simp [h1, h2] at this ⊢ <;> simp [this]
theorem gmF_dbl : ∀ n x c, gmF n (dbl x) c = dbl (gmF n x c)
  | 0, _, _ => by simp [gmF, dbl_zero]
  | n + 1, x, c => by
    unfold gmF
    rw [dbl_xor, gmF_dbl n (dbl x)]
    congr 1
    split <;> rfl
theorem gm_left (x y c : Nat) : gm (x ^^^ y) c = gm x c ^^^ gm y c := gmF_left 8 x y c
theorem gm_right (x c d : Nat) : gm x (c ^^^ d) = gm x c ^^^ gm x d := gmF_right 8 x c d
theorem gm_zero (c : Nat) : gm 0 c = 0 := gmF_zero 8 c
theorem gm_lt (x c : Nat) (h : x < 256) : gm x c < 256 := gmF_lt 8 x c h
theorem gm_dbl (x c : Nat) : gm (dbl x) c = dbl (gm x c) := gmF_dbl 8 x c
theorem gm_swapF (z : Nat) : ∀ n x v, gm (gmF n x v) z = gmF n (gm x z) v
  | 0, _, _ => gm_zero z
  | n + 1, x, v => by
    unfold gmF
    rw [gm_left, gm_swapF z n, gm_dbl]
    congr 1
    split
    · rfl
    · exact gm_zero z
theorem gm_swap (x v z : Nat) : gm (gm x v) z = gm (gm x z) v := gm_swapF z 8 x v
theorem gm_one : ∀ x, x < 256 → gm 1 x = x := by decide +kernel
theorem gm_comm {x y : Nat} (hx : x < 256) (hy : y < 256) : gm x y = gm y x := by
  have := gm_swap 1 x y
  rw [gm_one x hx, gm_one y hy] at this
  exact this
theorem gm_assoc {x y z : Nat} (hx : x < 256) (hy : y < 256) (_hz : z < 256) : gm (gm x y) z = gm x (gm y z) := by
  rw [gm_comm hx (gm_lt y z hy), gm_comm hx hy, gm_swap]
theorem gm_oneR {x : Nat} (hx : x < 256) : gm x 1 = x := by rw [gm_comm hx (by omega)]; exact gm_one x hx
theorem gm_zeroR (x : Nat) : gm x 0 = 0 := by
  have := gm_right x 0 0
  rw [Nat.xor_self] at this
  rw [this, Nat.xor_self]
/-- Powers of 2. -/
def pw : Nat → Nat
  | 0 => 1
  | n + 1 => dbl (pw n)
theorem pw_lt : ∀ n, pw n < 256
  | 0 => by decide
  | n + 1 => dbl_lt _ (pw_lt n)
def dbls : Nat → Nat → Nat
  | 0, x => x
  | n + 1, x => dbl (dbls n x)
theorem gm_pw : ∀ n c, c < 256 → gm (pw n) c = dbls n c
  | 0, c, h => gm_one c h
  | n + 1, c, h => by unfold pw dbls; rw [gm_dbl, gm_pw n c h]
theorem dbls_pw (m : Nat) : ∀ n, dbls n (pw m) = pw (n + m)
  | 0 => by rw [Nat.zero_add]; rfl
  | n + 1 => by rw [Nat.succ_add]; show dbl (dbls n (pw m)) = dbl (pw (n + m)); rw [dbls_pw m n]
theorem gm_pws (n m : Nat) : gm (pw n) (pw m) = pw (n + m) := by rw [gm_pw n _ (pw_lt m), dbls_pw]
theorem pw_255 : pw 255 = 1 := by decide +kernel
def pws : List Nat := (List.range 255).map pw
def lg (b : Nat) : Nat := ((List.range 255).find? fun i => pw i == b).getD 0
theorem lg_ok : ∀ b, b < 256 → b ≠ 0 → lg b < 255 ∧ pw (lg b) = b := by decide +kernel
theorem pw_ne : ∀ n, n < 255 → pw n ≠ 0 := by decide +kernel
theorem lg_pw : ∀ n, n < 255 → lg (pw n) = n := by decide +kernel
/-- What is 1 times an element. -/
def inv (b : Nat) : Nat := pw (255 - lg b)
theorem inv_lt (b : Nat) : inv b < 256 := pw_lt _
theorem gm_inv {b : Nat} (hb : b < 256) (h0 : b ≠ 0) : gm (inv b) b = 1 := by
  obtain ⟨h1, h2⟩ := lg_ok b hb h0
  have := gm_pws (255 - lg b) (lg b)
  rw [h2, show 255 - lg b + lg b = 255 by omega, pw_255] at this
  exact this
/-- No products of others than 0 are 0; quotients are told. -/
theorem gm_cancel {a x y : Nat} (ha : a < 256) (h0 : a ≠ 0) (hx : x < 256) (hy : y < 256) (h : gm x a = gm y a) : x = y := by
  have h1 : ∀ z, z < 256 → gm (gm z a) (inv a) = z := fun z hz => by
    rw [gm_assoc hz ha (inv_lt a), gm_comm ha (inv_lt a), gm_inv ha h0, gm_oneR hz]
  rw [← h1 x hx, h, h1 y hy]
theorem gm_div {a q : Nat} (ha : a < 256) (h0 : a ≠ 0) (hq : q < 256) : gm (gm q (inv a)) a = q := by
  rw [gm_assoc hq (inv_lt a) ha, gm_inv ha h0, gm_oneR hq]
theorem xor_eq_zero {x y : Nat} (h : x ^^^ y = 0) : x = y := by
  have := congrArg (· ^^^ y) h
  simpa [Nat.xor_assoc] using this
/-- Two columns of their sums: u + v = p, and a u + b v = q. -/
theorem two_cols {a b p q : Nat} (ha : a < 256) (hb : b < 256) (hab : a ≠ b) (hp : p < 256) (hq : q < 256) :
    gm a (p ^^^ gm (inv (a ^^^ b)) (q ^^^ gm p a)) ^^^ gm b (gm (inv (a ^^^ b)) (q ^^^ gm p a)) = q := by
  have hn : a ^^^ b ≠ 0 := fun h => hab (xor_eq_zero h)
  have hl : a ^^^ b < 256 := Nat.xor_lt_two_pow (n := 8) ha hb
  have hz : q ^^^ gm p a < 256 := Nat.xor_lt_two_pow (n := 8) hq (gm_lt p a hp)
  obtain ⟨v, hv⟩ : ∃ v, v = gm (inv (a ^^^ b)) (q ^^^ gm p a) := ⟨_, rfl⟩
  have hvl : v < 256 := by rw [hv]; exact gm_lt _ _ (inv_lt _)
  rw [← hv, gm_right, Nat.xor_assoc, ← gm_left, gm_comm hl hvl, hv, gm_comm (inv_lt _) hz, gm_assoc hz (inv_lt _) hl, gm_inv hl hn, gm_oneR hz, gm_comm ha hp]
  rw [Nat.xor_comm q, ← Nat.xor_assoc, Nat.xor_self, Nat.zero_xor]
theorem two_only {a b p x y : Nat} (ha : a < 256) (hb : b < 256) (hab : a ≠ b) (hx : x < 256) (hy : y < 256) (h : gm a x ^^^ gm b (p ^^^ x) = gm a y ^^^ gm b (p ^^^ y)) : x = y := by
  have hn : a ^^^ b ≠ 0 := fun h => hab (xor_eq_zero h)
  have hl : a ^^^ b < 256 := Nat.xor_lt_two_pow (n := 8) ha hb
  have e : ∀ z, gm a z ^^^ gm b (p ^^^ z) = gm b p ^^^ gm (a ^^^ b) z := fun z => by
    rw [gm_right, gm_left, ← Nat.xor_assoc, Nat.xor_comm (gm a z), Nat.xor_assoc]
  rw [e, e] at h
  have h2 : gm (a ^^^ b) x = gm (a ^^^ b) y := by
    have := congrArg (gm b p ^^^ ·) h
    simpa [← Nat.xor_assoc] using this
  rw [gm_comm hl hx, gm_comm hl hy] at h2
  exact gm_cancel hl hn hx hy h2
theorem pw_inj {i k : Nat} (hi : i < 255) (hk : k < 255) (h : pw i = pw k) : i = k := by rw [← lg_pw i hi, h, lg_pw k hk]
end Go.Proofs.YtjoipibldahbhaaGreatDoor
/- Words of eight bytes; the document's product: plain laws. No program in it. -/
namespace Go.Proofs.YtjoipibldahbhaaGreatDoor
/-- The number of bytes, the first one lowest. -/
def W : List Nat → Nat
  | [] => 0
  | b :: l => b + 256 * W l
def AllB (l : List Nat) : Prop := ∀ b ∈ l, b < 256
theorem AllB.head {b : Nat} {l : List Nat} (h : AllB (b :: l)) : b < 256 := h b (List.mem_cons_self ..)
theorem AllB.tail {b : Nat} {l : List Nat} (h : AllB (b :: l)) : AllB l := fun x hx => h x (List.mem_cons_of_mem _ hx)
theorem W_lt : ∀ {l : List Nat}, AllB l → W l < 256 ^ l.length
  | [], _ => by simp [W]
  | b :: l, h => by
    have := W_lt h.tail
    have := h.head
    unfold W
    rw [List.length_cons, Nat.pow_succ]
    omega
theorem cat_bit {b : Nat} (x : Nat) (hb : b < 256) (j : Nat) : (b + 256 * x).testBit j = if j < 8 then b.testBit j else x.testBit (j - 8) := by
  have := Nat.testBit_two_pow_mul_add x (i := 8) hb j
  rw [← this, Nat.add_comm]
theorem cat_xor {b c : Nat} (x y : Nat) (hb : b < 256) (hc : c < 256) : (b + 256 * x) ^^^ (c + 256 * y) = (b ^^^ c) + 256 * (x ^^^ y) :=
  Nat.eq_of_testBit_eq fun j => by
    rw [Nat.testBit_xor, cat_bit x hb, cat_bit y hc, cat_bit (x ^^^ y) (Nat.xor_lt_two_pow (n := 8) hb hc), Nat.testBit_xor, Nat.testBit_xor]
    split <;> rfl
theorem cat_and {b c : Nat} (x y : Nat) (hb : b < 256) (hc : c < 256) : (b + 256 * x) &&& (c + 256 * y) = (b &&& c) + 256 * (x &&& y) :=
  Nat.eq_of_testBit_eq fun j => by
    rw [Nat.testBit_and, cat_bit x hb, cat_bit y hc, cat_bit (x &&& y) (Nat.lt_of_le_of_lt Nat.and_le_left hb), Nat.testBit_and, Nat.testBit_and]
    split <;> rfl
theorem W_xor : ∀ {l m : List Nat}, AllB l → AllB m → l.length = m.length → W l ^^^ W m = W (List.zipWith (· ^^^ ·) l m)
  | [], [], _, _, _ => by simp [W]
  | [], _ :: _, _, _, h => by simp at h
  | _ :: _, [], _, _, h => by simp at h
  | b :: l, c :: m, hl, hm, h => by
    show (b + 256 * W l) ^^^ (c + 256 * W m) = (b ^^^ c) + 256 * W (List.zipWith (· ^^^ ·) l m)
    rw [cat_xor _ _ hl.head hm.head, W_xor hl.tail hm.tail (by simpa using h)]
def rep : Nat → Nat → Nat
  | 0, _ => 0
  | n + 1, b => b + 256 * rep n b
theorem W_and127 : ∀ {l : List Nat}, AllB l → W l &&& rep l.length 127 = W (l.map (· &&& 127))
  | [], _ => by simp [W]
  | b :: l, h => by
    show (b + 256 * W l) &&& (127 + 256 * rep l.length 127) = (b &&& 127) + 256 * W (l.map (· &&& 127))
    rw [cat_and _ _ h.head (by omega), W_and127 h.tail]
theorem W_high : ∀ {l : List Nat}, AllB l → (W l >>> 7) &&& rep l.length 1 = W (l.map (· / 128))
  | [], _ => by simp [W]
  | b :: l, h => by
    have hb := h.head
    have hd : b / 128 < 256 := by omega
    show ((b + 256 * W l) >>> 7) &&& (1 + 256 * rep l.length 1) = b / 128 + 256 * W (l.map (· / 128))
    rw [← W_high h.tail]
    refine Nat.eq_of_testBit_eq fun j => ?_
    rw [Nat.testBit_and, Nat.testBit_shiftRight, cat_bit _ hb, cat_bit _ (by omega : (1 : Nat) < 256), cat_bit _ hd, Nat.testBit_and, Nat.testBit_shiftRight]
    by_cases hj : j < 8
    · rw [if_pos hj, if_pos hj]
      by_cases h0 : j = 0
      · subst h0
        rw [if_pos (by omega)]
        have : b / 128 = b >>> 7 := by rw [Nat.shiftRight_eq_div_pow]
        rw [this, Nat.testBit_shiftRight]
        simp
      · have h1 : (1 : Nat).testBit j = false := by
          rw [show (1 : Nat) = 2 ^ 0 from rfl, Nat.testBit_two_pow]; simp; omega
        have h2 : (b / 128).testBit j = false := Nat.testBit_lt_two_pow (Nat.lt_of_lt_of_le (by omega : b / 128 < 2 ^ 1) (Nat.pow_le_pow_right (by omega) (by omega)))
        rw [h1, h2, Bool.and_false]
    · rw [if_neg hj, if_neg (by omega), if_neg hj]
      congr 2
      omega
theorem W_mul (k : Nat) : ∀ l : List Nat, W l * k = W (l.map (· * k))
  | [] => by simp [W]
  | b :: l => by
    show (b + 256 * W l) * k = b * k + 256 * W (l.map (· * k))
    rw [← W_mul k l, Nat.add_mul, Nat.mul_assoc]
theorem dbl_parts : ∀ b, b < 256 → dbl b = ((b &&& 127) * 2) ^^^ (b / 128 * 29) := by decide +kernel
theorem parts_lt : ∀ b, b < 256 → (b &&& 127) * 2 < 256 ∧ b / 128 * 29 < 256 := by decide +kernel
theorem zip_map (f g : Nat → Nat) : ∀ l : List Nat, List.zipWith (· ^^^ ·) (l.map f) (l.map g) = l.map fun b => f b ^^^ g b
  | [] => rfl
  | b :: l => by simp [zip_map f g l]
/-- All bytes of a word doubled. -/
theorem W_twice {l : List Nat} (h : AllB l) : ((W l &&& rep l.length 127) * 2) ^^^ (((W l >>> 7) &&& rep l.length 1) * 29) = W (l.map dbl) := by
  rw [W_and127 h, W_high h, W_mul, W_mul, List.map_map, List.map_map, W_xor, zip_map]
  · congr 1
    refine List.map_congr_left fun b hb => ?_
    exact (dbl_parts b (h b hb)).symm
  · intro x hx
    obtain ⟨b, hb, rfl⟩ := List.mem_map.1 hx
    exact (parts_lt b (h b hb)).1
  · intro x hx
    obtain ⟨b, hb, rfl⟩ := List.mem_map.1 hx
    exact (parts_lt b (h b hb)).2
  · simp
theorem AllB.map {l : List Nat} (h : AllB l) {f : Nat → Nat} (hf : ∀ b, b < 256 → f b < 256) : AllB (l.map f) := fun x hx => by
  obtain ⟨b, hb, rfl⟩ := List.mem_map.1 hx
  exact hf b (h b hb)
theorem AllB.zip {l m : List Nat} (hl : AllB l) (hm : AllB m) : AllB (List.zipWith (· ^^^ ·) l m) := fun x hx => by
  obtain ⟨i, hi, rfl⟩ := List.getElem_of_mem hx
  rw [List.getElem_zipWith]
  exact Nat.xor_lt_two_pow (n := 8) (hl _ (List.getElem_mem _)) (hm _ (List.getElem_mem _))
theorem W_snoc (b : Nat) : ∀ l : List Nat, W (l ++ [b]) = W l + b * 256 ^ l.length
  | [] => by simp [W]
  | c :: l => by
    show c + 256 * W (l ++ [b]) = c + 256 * W l + b * 256 ^ (l.length + 1)
    rw [W_snoc b l, Nat.pow_succ, Nat.mul_add, Nat.add_assoc, Nat.mul_left_comm, Nat.mul_comm (256 ^ l.length) 256]
theorem W_or {l : List Nat} (h : AllB l) (b : Nat) : W l ||| b <<< (8 * l.length) = W (l ++ [b]) := by
  have h1 : W l < 2 ^ (8 * l.length) := by
    have := W_lt h
    rw [show (256 : Nat) = 2 ^ 8 from rfl, ← Nat.pow_mul] at this
    exact this
  rw [W_snoc, Nat.or_comm, ← Nat.shiftLeft_add_eq_or_of_lt h1, Nat.shiftLeft_eq, Nat.add_comm, show (256 : Nat) = 2 ^ 8 from rfl, ← Nat.pow_mul]
theorem W_byte : ∀ {l : List Nat} (_ : AllB l) (i : Nat), (W l >>> (8 * i)) % 256 = l.getD i 0
  | [], _, i => by simp [W]
  | b :: l, h, 0 => by
    have := h.head
    show (b + 256 * W l) >>> (8 * 0) % 256 = b
    simp; omega
  | b :: l, h, i + 1 => by
    have := h.head
    show (b + 256 * W l) >>> (8 * (i + 1)) % 256 = l.getD i 0
    rw [← W_byte h.tail i, show 8 * (i + 1) = 8 + 8 * i by omega, Nat.shiftRight_add, show (b + 256 * W l) >>> 8 = W l by rw [Nat.shiftRight_eq_div_pow]; omega]
/-- The product of all bytes of a word and an element, step by step. -/
theorem W_step {l o : List Nat} (hl : AllB l) (ho : AllB o) (e : l.length = o.length) (c : Nat) : (if c % 2 = 1 then W o ^^^ W l else W o) = W (List.zipWith (· ^^^ ·) o (l.map fun b => if c % 2 = 1 then b else 0)) := by
  split
  · rw [W_xor ho hl e.symm]; congr 2; exact (List.map_id' l).symm
  · have : List.zipWith (· ^^^ ·) o (l.map fun _ => 0) = o := by
      apply List.ext_getElem
      · simp [e]
      · intro i h1 h2; simp
    rw [this]
/-- The document's product: all products of coefficients, then the remainder. -/
def clmF : Nat → Nat → Nat → Nat
  | 0, _, _ => 0
  | n + 1, a, B => (if a % 2 = 1 then B else 0) ^^^ clmF n (a / 2) (B <<< 1)
def redS (C i : Nat) : Nat := if C.testBit i then C ^^^ (285 <<< (i - 8)) else C
def red (C : Nat) : Nat := redS (redS (redS (redS (redS (redS (redS C 14) 13) 12) 11) 10) 9) 8
theorem redS_xor (C D i : Nat) : redS (C ^^^ D) i = redS C i ^^^ redS D i := by
  unfold redS
  rw [Nat.testBit_xor]
  obtain ⟨m, hm⟩ : ∃ m, m = 285 <<< (i - 8) := ⟨_, rfl⟩
  rw [← hm]
  cases C.testBit i <;> cases D.testBit i <;> simp
  · exact Nat.xor_assoc _ _ _
  · rw [Nat.xor_assoc, Nat.xor_comm D m, ← Nat.xor_assoc]
  · rw [xor4]; simp
theorem red_xor (C D : Nat) : red (C ^^^ D) = red C ^^^ red D := by
  unfold red
  simp only [redS_xor]
theorem red_zero : red 0 = 0 := by decide
theorem red_shift : ∀ b, b < 256 → ∀ i, i < 8 → red (b <<< i) = dbls i b := by decide +kernel
theorem red_clm (b : Nat) (hb : b < 256) : ∀ n i a, n + i ≤ 8 → red (clmF n a (b <<< i)) = gmF n (dbls i b) a
  | 0, _, _, _ => red_zero
  | n + 1, i, a, h => by
    unfold clmF gmF
    rw [red_xor, ← Nat.shiftLeft_add, red_clm b hb n (i + 1) (a / 2) (by omega)]
    congr 1
    split
    · exact red_shift b hb i (by omega)
    · exact red_zero
theorem red_mul {a b : Nat} (ha : a < 256) (hb : b < 256) : red (clmF 8 a b) = gm a b := by
  have := red_clm b hb 8 0 a (by omega)
  rw [Nat.shiftLeft_zero] at this
  rw [this, gm_comm ha hb]
  rfl
end Go.Proofs.YtjoipibldahbhaaGreatDoor
/- Slices that are read, with or without elements: laws of my own, no program in them. -/
namespace Go
open Go.RowKit
/-- The slice v reads as the list vs (elements of one cell). -/
def World.rd (w : World) (v : Value) (vs : List Value) : Prop :=
  ∃ a c, v = .slice a vs.length c ∧ (vs = [] ∨ ∃ b o, a = some ⟨b, o, none⟩ ∧ ∀ j u, vs[j]? = some u → w.cell? ⟨b, o + j, none⟩ = some u)
namespace World
variable {w w' : World} {v : Value} {vs : List Value}
theorem rd.below {B : Nat} (h : w.rd v vs) (hb : Below B w w') (hB : w.heap.size ≤ B) : w'.rd v vs := by
  obtain ⟨a, c, hv, h⟩ := h
  refine ⟨a, c, hv, ?_⟩
  rcases h with h | ⟨b, o, ha, hc⟩
  · exact .inl h
  · refine .inr ⟨b, o, ha, fun j u hj => ?_⟩
    have h1 := hc j u hj
    rw [hb.cell (p := ⟨b, o + j, none⟩) (Nat.lt_of_lt_of_le (block_lt_of_cell h1) hB)]
    exact h1
theorem rd.cases (h : w.rd v vs) : (vs = [] ∧ ∃ a c, v = .slice a 0 c) ∨ (vs ≠ [] ∧ ∃ b o c, v = .slice (some ⟨b, o, none⟩) vs.length c ∧ ∀ j u, vs[j]? = some u → w.cell? ⟨b, o + j, none⟩ = some u) := by
  obtain ⟨a, c, hv, h⟩ := h
  by_cases e : vs = []
  · subst e; exact .inl ⟨rfl, a, c, hv⟩
  · rcases h with h | ⟨b, o, ha, hc⟩
    · exact absurd h e
    · subst ha; exact .inr ⟨e, b, o, c, hv, hc⟩
theorem ownsRow.rd {base : Nat} {e : TypeId} {n : Nat} {xs : List Value} (h : w.ownsRow base e 1 v n xs) : w.rd v xs := by
  obtain ⟨hl, h⟩ := h
  have hn : n = xs.length := by omega
  rcases h with ⟨h1, h2⟩ | ⟨g, cap, cur, hv, _, hh, h1, _, hs, ht⟩
  · subst h2; exact ⟨none, 0, by rw [h1, ← hn], .inl (List.length_eq_zero_iff.1 hn.symm)⟩
  · refine ⟨_, cap, by rw [hv, hn], .inr ⟨g, 0, rfl, fun j u hj => ?_⟩⟩
    have h2 : cur[j]? = some u := by
      rw [← ht] at hj
      rw [List.getElem?_take] at hj
      split at hj
      · simpa using hj
      · cases hj
    simp [World.cell?, hh, h2]
/-- A slice cut off behind m elements. -/
theorem rd.cut (h : w.rd v vs) (m : Nat) (hm : m ≤ vs.length) {a : Option Addr} {n c : Nat} (hv : v = .slice a n c) : w.rd (.slice a m c) (vs.take m) := by
  obtain ⟨a', c', hv', h⟩ := h
  rw [hv] at hv'
  obtain ⟨rfl, _, rfl⟩ := Value.slice.inj hv'
  refine ⟨a, c, by rw [List.length_take]; congr 1; omega, ?_⟩
  rcases h with h | ⟨b, o, ha, hc⟩
  · left; rw [h]; simp
  · right
    refine ⟨b, o, ha, fun j u hj => hc j u ?_⟩
    rw [List.getElem?_take] at hj
    split at hj
    · exact hj
    · cases hj
end World
end Go
/- Texts as lists of bytes: laws of my own. No program in it. -/
namespace Go.Proofs.YtjoipibldahbhaaGreatDoor
open Go Go.RowKit
set_option maxRecDepth 100000
/-- The text of some bytes. -/
def mk (l : List Nat) : ByteArray := strOfNums (l.map fun n : Nat => (n : Int))
theorem mk_data (l : List Nat) : (mk l).data.toList = l.map UInt8.ofNat := by
  unfold mk
  rw [strOfNums_data, List.map_map]
  rfl
theorem mk_size (l : List Nat) : (mk l).size = l.length := by unfold mk; rw [strOfNums_size, List.length_map]
theorem ofNat_toNat {n : Nat} (h : n < 256) : (UInt8.ofNat n).toNat = n := by
  rw [UInt8.toNat_ofNat']; exact Nat.mod_eq_of_lt h
abbrev u8V (n : Nat) : Value := .int .u8 (n : Int)
theorem mk_cells {l : List Nat} (h : AllB l) : Lib.strCells (mk l) = l.map u8V := by
  unfold Lib.strCells
  rw [mk_data, List.map_map]
  refine List.map_congr_left fun n hn => ?_
  show Value.int .u8 ((UInt8.ofNat n).toNat : Int) = _
  rw [ofNat_toNat (h n hn)]
theorem of_text (s : ByteArray) : ∃ l, AllB l ∧ s = mk l := by
  refine ⟨s.data.toList.map UInt8.toNat, fun b hb => ?_, ?_⟩
  · obtain ⟨u, _, rfl⟩ := List.mem_map.1 hb
    exact u.toNat_lt
  · have h1 : ∀ l : List UInt8, (l.map UInt8.toNat).map UInt8.ofNat = l := fun l => by
      rw [List.map_map]
      conv => rhs; rw [← List.map_id l]
      refine List.map_congr_left fun u _ => ?_
      exact UInt8.ofNat_toNat
    apply ByteArray.ext
    apply Array.ext'
    rw [mk_data, h1]
theorem mk_inj {l m : List Nat} (hl : AllB l) (hm : AllB m) (h : mk l = mk m) : l = m := by
  have h1 := congrArg (fun s : ByteArray => s.data.toList) h
  simp only [mk_data] at h1
  have h2 : ∀ l : List Nat, AllB l → (l.map UInt8.ofNat).map UInt8.toNat = l := fun l hl => by
    rw [List.map_map]
    conv => rhs; rw [← List.map_id l]
    refine List.map_congr_left fun u hu => ?_
    exact ofNat_toNat (hl u hu)
  rw [← h2 l hl, h1, h2 m hm]
theorem mk_get {l : List Nat} (hl : AllB l) {k : Nat} (hk : k < l.length) (hs : k < (mk l).size) : ((mk l)[k]'hs).toNat = l.getD k 0 := by
  have e : (mk l).data.toList[k]? = some (UInt8.ofNat (l.getD k 0)) := by
    rw [mk_data, List.getElem?_map, List.getElem?_eq_getElem hk]
    simp [List.getD, hk]
  have e2 : (mk l)[k]'hs = UInt8.ofNat (l.getD k 0) := by
    have : (mk l).data.toList[k]? = some ((mk l)[k]'hs) := by
      rw [Array.getElem?_toList]
      exact Array.getElem?_eq_getElem (show k < (mk l).data.size from hs)
    rw [e] at this
    exact (Option.some.inj this).symm
  rw [e2]
  refine ofNat_toNat ?_
  have : l.getD k 0 = l[k] := by simp [List.getD, hk]
  rw [this]
  exact hl _ (List.getElem_mem hk)
theorem idx_mk {P : Program} {t : TypeId} (ht : P.underlying t = some .string) {l : List Nat} (hl : AllB l) {k : Nat} (hk : k < l.length) (w : World) :
    (Instr.index t (.string (mk l)) (.int .i64 (k : Int))).run P w = .ok (.int .u8 ((l.getD k 0 : Nat) : Int)) w := by
  have hs : k < (mk l).size := by rw [mk_size]; exact hk
  rw [run_index_string w t (mk l) .i64 (k : Int) ht, dif_pos ⟨by omega, by omega⟩]
  have h1 : ((mk l)[((k : Nat) : Int).toNat]'(by rw [Int.toNat_natCast]; exact hs)).toNat = l.getD k 0 := by
    have e : (mk l).data.toList[k]? = some (UInt8.ofNat (l.getD k 0)) := by
      rw [mk_data, List.getElem?_map, List.getElem?_eq_getElem hk]
      simp [List.getD, hk]
    have e2 : (mk l)[((k : Nat) : Int).toNat]'(by rw [Int.toNat_natCast]; exact hs) = UInt8.ofNat (l.getD k 0) := by
      have : (mk l).data.toList[k]? = some ((mk l)[((k : Nat) : Int).toNat]'(by rw [Int.toNat_natCast]; exact hs)) := by
        rw [Array.getElem?_toList]
        exact Array.getElem?_eq_getElem (show k < (mk l).data.size from hs)
      rw [e] at this
      exact (Option.some.inj this).symm
    rw [e2]
    refine ofNat_toNat ?_
    have : l.getD k 0 = l[k] := by simp [List.getD, hk]
    rw [this]
    exact hl _ (List.getElem_mem hk)
  rw [h1]
theorem getD_lt {l : List Nat} (hl : AllB l) (k : Nat) : l.getD k 0 < 256 := by
  by_cases h : k < l.length
  · have : l.getD k 0 = l[k] := by simp [List.getD, h]
    rw [this]; exact hl _ (List.getElem_mem h)
  · simp [List.getD, List.getElem?_eq_none (Nat.le_of_not_lt h)]
/-- The eight bytes from a place on, noughts behind the end. -/
def eight (l : List Nat) (at_ : Nat) : List Nat := (List.range 8).map fun k => l.getD (at_ + k) 0
theorem eight_len (l : List Nat) (a : Nat) : (eight l a).length = 8 := by simp [eight]
theorem eight_all {l : List Nat} (hl : AllB l) (a : Nat) : AllB (eight l a) := fun b hb => by
  unfold eight at hb
  obtain ⟨k, _, rfl⟩ := List.mem_map.1 hb
  exact getD_lt hl _
theorem eight_take (l : List Nat) (a k : Nat) (hk : k < 8) : (eight l a).take (k + 1) = (eight l a).take k ++ [l.getD (a + k) 0] := by
  have h : (eight l a)[k]? = some (l.getD (a + k) 0) := by unfold eight; rw [List.getElem?_map, List.getElem?_range hk]; rfl
  rw [List.take_add_one, h]; rfl
theorem AllB.take {l : List Nat} (h : AllB l) (k : Nat) : AllB (l.take k) := fun b hb => h b (List.mem_of_mem_take hb)
theorem mk_append {l m : List Nat} : mk l ++ mk m = mk (l ++ m) := by
  apply ByteArray.ext
  apply Array.ext'
  rw [mk_data, List.map_append, ← mk_data, ← mk_data]
  simp [ByteArray.data_append]
end Go.Proofs.YtjoipibldahbhaaGreatDoor
/- Words: each, Twice, Times, Load, Store: contracts. -/
namespace Go.Proofs.YtjoipibldahbhaaGreatDoor
open Go Go.RowKit
set_option maxRecDepth 100000
theorem wrapU (n : Nat) (h : n < 18446744073709551616) : IntKind.u64.wrap (n : Int) = (n : Int) := by
  rw [show IntKind.u64.wrap (n : Int) = ((n : Int) % 18446744073709551616) from rfl]; omega
theorem eachW (x : Nat) (w : World) (hx : x < 18446744073709551616) :
    Calls Tryz.prog 89 #[.int .u64 (x : Int), .int .i64 7] w fun e w' => e = .returned (.int .u64 ((((x >>> 7) &&& 72340172838076673 : Nat)) : Int)) ∧ w = w' := by
  go_enter Tryz.func89, Tryz.ntmps89
  go_wp2_with fail
  go_returns
  refine ⟨?_, rfl⟩
  show Ending.returned (.int .u64 (bits .and .u64 ((x : Int) / 128) 72340172838076673)) = _
  have h1 : (x : Int) / 128 = ((x / 128 : Nat) : Int) := by omega
  rw [h1, show (72340172838076673 : Int) = ((72340172838076673 : Nat) : Int) from rfl, u64_and_nat _ _ (by omega) (by omega), Nat.shiftRight_eq_div_pow]
theorem W8_lt {l : List Nat} (hl : AllB l) (h8 : l.length = 8) : W l < 18446744073709551616 := by have := W_lt hl; rw [h8] at this; exact this
theorem dbl_all {l : List Nat} (hl : AllB l) : AllB (l.map dbl) := hl.map dbl_lt
theorem Twice_any (l : List Nat) (w : World) (hl : AllB l) (h8 : l.length = 8) :
    Calls Tryz.prog 67 #[.int .u64 (W l : Int)] w fun e w' => e = .returned (.int .u64 (W (l.map dbl) : Int)) ∧ w = w' := by
  have hx : W l < 18446744073709551616 := W8_lt hl h8
  have hE := eachW (W l) w hx
  have HL := Lib.hid (And.intro hl h8)
  clear hl h8
  go_enter Tryz.func67, Tryz.ntmps67
  go_wp2_with fail
  refine hE.mono ?_
  rintro e w1 ⟨rfl, rfl⟩
  go_wp2_with fail
  go_returns
  refine ⟨?_, rfl⟩
  show Ending.returned (.int .u64 (bits .xor .u64 (IntKind.u64.wrap (bits .andNot .u64 ((W l : Nat) : Int) 9259542123273814144 * 2)) (IntKind.u64.wrap (((W l >>> 7 &&& 72340172838076673 : Nat) : Int) * 29)))) = _
  have ht := W_twice HL.out.1
  rw [HL.out.2, show rep 8 127 = 9187201950435737471 from by decide, show rep 8 1 = 72340172838076673 from by decide] at ht
  rw [show (9259542123273814144 : Int) = ((9259542123273814144 : Nat) : Int) from rfl, u64_andNot_nat _ _ hx (by omega), show 18446744073709551615 - 9259542123273814144 = 9187201950435737471 from by decide]
  have b1 : W l &&& 9187201950435737471 ≤ 9187201950435737471 := Nat.and_le_right
  have b2 : W l >>> 7 &&& 72340172838076673 ≤ 72340172838076673 := Nat.and_le_right
  obtain ⟨m, hm⟩ : ∃ m, m = W l &&& 9187201950435737471 := ⟨_, rfl⟩
  obtain ⟨n, hn⟩ : ∃ n, n = W l >>> 7 &&& 72340172838076673 := ⟨_, rfl⟩
  rw [← hm] at b1 ht ⊢
  rw [← hn] at b2 ht ⊢
  rw [show ((m : Nat) : Int) * 2 = ((m * 2 : Nat) : Int) from by omega, show ((n : Nat) : Int) * 29 = ((n * 29 : Nat) : Int) from by omega, wrapU _ (by omega), wrapU _ (by omega), u64_xor_nat _ _ (by omega) (by omega), ht]
/-- The product of all bytes, and what was summed before. -/
def accW (o l : List Nat) (n c : Nat) : List Nat := List.zipWith (· ^^^ ·) o (l.map fun b => gmF n b c)
theorem accW_step {o l : List Nat} (e : l.length = o.length) (n c : Nat) :
    accW (List.zipWith (· ^^^ ·) o (l.map fun b => if c % 2 = 1 then b else 0)) (l.map dbl) n (c / 2) = accW o l (n + 1) c := by
  unfold accW
  apply List.ext_getElem
  · simp [e]
  · intro i h1 h2
    simp only [List.getElem_zipWith, List.getElem_map]
    rw [Nat.xor_assoc]
    rfl
theorem accW_len {o l : List Nat} (e : l.length = o.length) (n c : Nat) : (accW o l n c).length = o.length := by unfold accW; simp [e]
theorem accW_zero {o l : List Nat} (e : l.length = o.length) (n : Nat) : accW o l n 0 = o := by
  have h : ∀ n b, gmF n b 0 = 0 := fun n => by
    induction n with
    | zero => intro b; rfl
    | succ n ih => intro b; show (if 0 % 2 = 1 then b else 0) ^^^ gmF n (dbl b) (0 / 2) = 0; rw [show 0 / 2 = 0 from rfl, ih]; simp
  unfold accW
  apply List.ext_getElem
  · simp [e]
  · intro i h1 h2; simp [h]
theorem bit8 : ∀ c : Nat, c < 256 → bits .and .u8 (c : Int) 1 = ((c % 2 : Nat) : Int) := by decide +kernel
theorem Times_any (l : List Nat) (c : Nat) (w : World) (hl : AllB l) (h8 : l.length = 8) (hc : c < 256) :
    Calls Tryz.prog 80 #[.int .u64 (W l : Int), .int .u8 (c : Int)] w fun e w' => e = .returned (.int .u64 (W (l.map fun b => gm b c) : Int)) ∧ w = w' := by
  obtain ⟨x0, hx0⟩ : ∃ x0, x0 = W l := ⟨_, rfl⟩
  have hz8 : AllB (List.replicate 8 0) := fun b hb => by rw [List.eq_of_mem_replicate hb]; omega
  have h0 : accW (List.replicate 8 0) l 8 c = l.map fun b => gm b c := by
    unfold accW
    apply List.ext_getElem
    · simp [h8]
    · intro i h1 h2
      simp only [List.getElem_zipWith, List.getElem_map, List.getElem_replicate]
      rw [Nat.zero_xor]; rfl
  have HL := Lib.hid (And.intro hl (And.intro h8 (And.intro h0 (And.intro hz8 hx0))))
  rw [← hx0]
  clear hl h8 h0 hx0 hz8
  go_enter Tryz.func80, Tryz.ntmps80
  go_wp2_with fail
  go_loopw [0, 1, 5] (fun x y z wr => ∃ (k d : Nat) (m o : List Nat), k ≤ 8 ∧ d < 2 ^ k ∧ d < 256 ∧ AllB m ∧ AllB o ∧ m.length = 8 ∧ o.length = 8 ∧ accW o m k d = l.map (fun b => gm b c) ∧ x = .int .u64 (W m : Int) ∧ y = .int .u8 (d : Int) ∧ z = .int .u64 (W o : Int) ∧ w = wr) (fun _ y _ _ => (intOf y).toNat)
  case atStart => exact ⟨8, c, l, List.replicate 8 0, by omega, by omega, hc, HL.out.1, HL.out.2.2.2.1, HL.out.2.1, by simp, HL.out.2.2.1, by rw [HL.out.2.2.2.2], rfl, rfl, rfl⟩
  case round =>
    obtain ⟨k, d, m, o, hk, hd, hd2, hm, ho, hm8, ho8, hacc, rfl, rfl, rfl, rfl⟩ := hrel
    have hb8 := bit8 d hd2
    have hmW := W8_lt hm hm8
    have hoW := W8_lt ho ho8
    have hT := Twice_any m w hm hm8
    by_cases hd0 : d = 0
    · subst hd0
      have hfin : o = l.map fun b => gm b c := by rw [← hacc, accW_zero (by omega)]
      have HF := Lib.hid hfin
      clear hacc hfin hb8 hm ho hm8 ho8 hT
      go_wp2_with fail
      go_returns
      exact ⟨by rw [← HF.out]; rfl, rfl⟩
    · obtain ⟨k', rfl⟩ : ∃ k', k = k' + 1 := by
        cases k with
        | zero => rw [Nat.pow_zero] at hd; omega
        | succ k => exact ⟨k, rfl⟩
      have hst := accW_step (o := o) (l := m) (by omega) k' d
      have hW := W_step hm ho (by omega) d
      have hdI : ((d : Int) != 0) = true := by simp; omega
      have hd3 : d / 2 < 2 ^ k' := by rw [Nat.pow_succ] at hd; omega
      have hzA : AllB (List.zipWith (· ^^^ ·) o (m.map fun b => if d % 2 = 1 then b else 0)) := ho.zip (hm.map fun b hb => by split <;> omega)
      have hxo := u64_xor_nat (W o) (W m) hoW hmW
      have HX := Lib.hid (And.intro hacc (And.intro hst (And.intro hW (And.intro hd3 (And.intro hzA (And.intro hm (And.intro hm8 ho8)))))))
      clear hacc hst hW hd3 hzA hm ho hm8 ho8 hd
      by_cases hodd : d % 2 = 1
      · rw [hodd] at hb8
        have hb8 : bits .and .u8 (d : Int) 1 = 1 := hb8
        go_wp2_with fail
        refine hT.mono ?_
        rintro e w1 ⟨rfl, rfl⟩
        go_wp2_with fail
        refine ⟨⟨k', d / 2, m.map dbl, _, by omega, HX.out.2.2.2.1, by omega, dbl_all HX.out.2.2.2.2.2.1, HX.out.2.2.2.2.1, by rw [List.length_map]; exact HX.out.2.2.2.2.2.2.1, by rw [List.length_zipWith, List.length_map, HX.out.2.2.2.2.2.2.1, HX.out.2.2.2.2.2.2.2]; rfl, HX.out.2.1.trans HX.out.1, rfl, by go_num, ?_, trivial⟩, ?_⟩
        · have := HX.out.2.2.1
          rw [if_pos hodd] at this
          rw [this]
        · simp [intOf]; omega
      · have hz2 : d % 2 = 0 := by omega
        rw [hz2] at hb8
        have hb8 : bits .and .u8 (d : Int) 1 = 0 := hb8
        go_wp2_with fail
        refine hT.mono ?_
        rintro e w1 ⟨rfl, rfl⟩
        go_wp2_with fail
        refine ⟨⟨k', d / 2, m.map dbl, _, by omega, HX.out.2.2.2.1, by omega, dbl_all HX.out.2.2.2.2.2.1, HX.out.2.2.2.2.1, by rw [List.length_map]; exact HX.out.2.2.2.2.2.2.1, by rw [List.length_zipWith, List.length_map, HX.out.2.2.2.2.2.2.1, HX.out.2.2.2.2.2.2.2]; rfl, HX.out.2.1.trans HX.out.1, rfl, by go_num, ?_, trivial⟩, ?_⟩
        · have := HX.out.2.2.1
          rw [if_neg hodd] at this
          rw [this]
        · simp [intOf]; omega
theorem sh_lt {b k : Nat} (hb : b < 256) (hk : k < 8) : b <<< (8 * k) < 18446744073709551616 := by
  rw [Nat.shiftLeft_eq]
  have h1 : b * 2 ^ (8 * k) < 2 ^ 8 * 2 ^ (8 * k) := Nat.mul_lt_mul_of_pos_right hb (Nat.two_pow_pos _)
  rw [← Nat.pow_add] at h1
  exact Nat.lt_of_lt_of_le h1 (show 2 ^ (8 + 8 * k) ≤ 2 ^ 64 from Nat.pow_le_pow_right (by omega) (by omega))
theorem load_step {x b k : Nat} (hx : x < 18446744073709551616) (hb : b < 256) (hk : k < 8) : bits .or .u64 (x : Int) (IntKind.u64.wrap (IntKind.u64.wrap (b : Int) * 2 ^ (8 * k))) = ((x ||| b <<< (8 * k) : Nat) : Int) := by
  have e : (b : Int) * 2 ^ (8 * k) = ((b <<< (8 * k) : Nat) : Int) := by rw [Nat.shiftLeft_eq, Int.natCast_mul, Int.natCast_pow]; rfl
  rw [wrapU b (by omega), e, wrapU _ (sh_lt hb hk), u64_or_nat _ _ hx (sh_lt hb hk)]
theorem pow256_le {k : Nat} (hk : k < 8) : 256 ^ k ≤ 18446744073709551616 := Nat.le_trans (Nat.pow_le_pow_right (by omega) (by omega : k ≤ 7)) (by decide)
theorem Load_any (l : List Nat) (a : Nat) (w : World) (hl : AllB l) (ha : a ≤ 100000) (hn : l.length ≤ 100000) :
    Calls Tryz.prog 59 #[.string (mk l), .int .i64 (a : Int)] w fun e w' => e = .returned (.int .u64 (W (eight l a) : Int)) ∧ w = w' := by
  have hI := fun k (hk : a + k < l.length) => idx_mk (P := Tryz.prog) Tryz.underlying9 hl hk
  have hsz := mk_size l
  obtain ⟨s, hs⟩ : ∃ s, s = mk l := ⟨_, rfl⟩
  rw [← hs] at hI hsz ⊢
  have HI := Lib.hid (And.intro hI hl)
  clear hI hs hl
  go_enter Tryz.func59, Tryz.ntmps59
  go_wp2_with fail
  go_loopw [5, 7] (fun x y wr => ∃ k : Nat, k ≤ 8 ∧ y = .int .i64 (k : Int) ∧ x = .int .u64 (W ((eight l a).take k) : Int) ∧ w = wr) (fun _ y _ => 8 - (intOf y).toNat)
  case atStart => exact ⟨0, by omega, rfl, rfl, rfl⟩
  case round =>
    obtain ⟨k, hk, rfl, rfl, rfl⟩ := hrel
    by_cases hk8 : k < 8
    · have htk := eight_take l a k hk8
      have hle : ((eight l a).take k).length = k := by rw [List.length_take, eight_len]; omega
      have hWo := W_or ((eight_all HI.out.2 a).take k) (l.getD (a + k) 0)
      rw [hle, ← htk] at hWo
      have hWl := W_lt ((eight_all HI.out.2 a).take k)
      rw [hle] at hWl
      have hb := getD_lt HI.out.2 (a + k)
      obtain ⟨x, hx⟩ : ∃ x, x = W ((eight l a).take k) := ⟨_, rfl⟩
      rw [← hx] at hWo hWl ⊢
      by_cases hlt : a + k < l.length
      · have hIk := HI.out.1 k hlt
        have hc2 : (a : Int) < (s.size : Int) - (k : Int) := by omega
        obtain ⟨b, hbe⟩ : ∃ b, b = l.getD (a + k) 0 := ⟨_, rfl⟩
        rw [← hbe] at hIk hWo hb
        rw [Int.natCast_add] at hIk
        clear htk hle hx
        go_wp2_with fail
        refine ⟨⟨k + 1, by omega, by go_num, ?_, trivial⟩, by simp [intOf]; omega⟩
        have hb2 : l[a + k] < 256 := by have := HI.out.2 _ (List.getElem_mem hlt); exact this
        rw [← hWo, hbe, show l.getD (a + k) 0 = l[a + k] by simp [List.getD, hlt], load_step (Nat.lt_of_lt_of_le hWl (pow256_le hk8)) hb2 hk8]
      · have hc2 : ¬ (a : Int) < (s.size : Int) - (k : Int) := by omega
        have hg0 : l.getD (a + k) 0 = 0 := by simp [List.getD, List.getElem?_eq_none (Nat.le_of_not_lt hlt)]
        rw [hg0, Nat.zero_shiftLeft, Nat.or_zero] at hWo
        have HW := Lib.hid hWo
        clear htk hle hx hWo hg0
        go_wp2_with fail
        refine ⟨⟨k + 1, by omega, by go_num, by rw [HW.out], trivial⟩, by simp [intOf]; omega⟩
    · obtain rfl : k = 8 := by omega
      rw [List.take_of_length_le (by rw [eight_len]; omega)]
      go_wp2_with fail
      go_returns
      exact ⟨rfl, rfl⟩
def outK (l : List Nat) (k : Nat) : List Nat := l.take k ++ List.replicate (l.length - k) 0
theorem outK_len {l : List Nat} {k : Nat} (h : k ≤ l.length) : (outK l k).length = l.length := by unfold outK; simp; omega
theorem outK_set {l : List Nat} {k : Nat} (h : k < l.length) : (outK l k).set k (l.getD k 0) = outK l (k + 1) := by
  unfold outK
  have h1 : (l.take k).length = k := by rw [List.length_take]; omega
  rw [List.set_append_right _ _ (by omega), h1, Nat.sub_self, List.take_add_one, List.getElem?_eq_getElem h, show l.length - k = (l.length - (k + 1)) + 1 by omega, List.replicate_succ, List.set_cons_zero, List.append_assoc]
  simp [List.getD, h]
theorem outK_all {l : List Nat} {k : Nat} (h : l.length ≤ k) : outK l k = l := by
  unfold outK
  rw [List.take_of_length_le h, show l.length - k = 0 by omega]; simp
/-- A row of bytes as a text. -/
theorem text_of {P : Program} {l : List Nat} {w : World} {g : Nat} {t tb tu ts : TypeId} (hr : w.row g (l.map u8V) t) (hb : P.underlying tb = some (.slice tu)) (hu : P.underlying tu = some (.int .u8)) (hs : P.underlying ts = some .string) :
    (convert tb ts (.slice (some ⟨g, 0, none⟩) l.length l.length)).run P w = .ok (.string (mk l)) w := by
  refine run_convert_bytes_arg w tb tu hb hu g 0 l.length l.length (l.map fun n : Nat => (n : Int)) (by simp) (fun i hi => ?_) ts hs
  rw [Nat.zero_add, hr.cell i (v := u8V (l[i])) (by rw [List.getElem?_map, List.getElem?_eq_getElem hi]; rfl)]
  simp [List.getD, hi]
theorem Store_any (l : List Nat) (w : World) (hl : AllB l) (h8 : l.length = 8) :
    Calls Tryz.prog 58 #[.int .u64 (W l : Int)] w fun e w' => e = .returned (.string (mk l)) ∧ Below w.heap.size w w' := by
  obtain ⟨x, hx⟩ : ∃ x, x = W l := ⟨_, rfl⟩
  have hxl := W8_lt hl h8
  rw [← hx] at hxl ⊢
  have HL := Lib.hid (And.intro hl (And.intro h8 hx))
  clear hl h8 hx
  go_enter Tryz.func58, Tryz.ntmps58
  go_upto_region 2 with fail
  have e0 : (outK l 0).map u8V = [u8V 0, u8V 0, u8V 0, u8V 0, u8V 0, u8V 0, u8V 0, u8V 0] := by unfold outK; rw [List.take_zero, HL.out.2.1]; rfl
  obtain ⟨g, hg⟩ : ∃ g, g = w.heap.size := ⟨_, rfl⟩
  refine wp_world (fun w0 => w0.row g ((outK l 0).map u8V) 156 ∧ Below w.heap.size w w0) ⟨by rw [e0]; exact World.row.new' hg.symm, (by repeat' (first | (with_reducible exact Below.refl _ _) | (with_reducible assumption) | (with_reducible refine Below.setCell ?_ ?_ _) | (with_reducible refine Below.ext ?_ _ ?_) | (with_reducible refine Below.alloc ?_ ?_ _) | (with_reducible refine Below.drew ?_) | (with_reducible refine Below.drewN ?_ _) | (with_reducible exact Nat.le_refl _) | (dsimp only; omega) | (simp <;> omega)))⟩ ?_
  simp only [← hg]
  rintro w0 ⟨r0, B0⟩
  rw [hg] at B0
  have HG := Lib.hid hg
  clear hg
  have H0 := Lib.hid (And.intro r0 B0)
  clear r0 B0
  go_wp2_with fail
  go_loopw [5] (fun y wr => ∃ k : Nat, k ≤ 8 ∧ y = .int .i64 (k : Int) ∧ wr.row g ((outK l k).map u8V) 156 ∧ Below w.heap.size w wr) (fun y _ => 8 - (intOf y).toNat)
  case atStart => exact ⟨0, by omega, rfl, H0.out⟩
  case round =>
    obtain ⟨k, hk, rfl, hr, hB⟩ := hrel
    by_cases hk8 : k < 8
    · have hlen : ((outK l k).map u8V).length = 8 := by rw [List.length_map, outK_len (by rw [HL.out.2.1]; omega)]; exact HL.out.2.1
      have ck := hr.cell k (List.getElem?_eq_getElem (by omega))
      have zk := hr.free
      have gl := hr.lt
      have hwB : w.heap.size ≤ g := by rw [HG.out]; exact Nat.le_refl _
      have hnx := hr.set k (u8V (l.getD k 0))
      rw [← List.map_set, outK_set (by rw [HL.out.2.1]; exact hk8)] at hnx
      have hby := W_byte HL.out.1 k
      rw [← HL.out.2.2] at hby
      have HX := Lib.hid (And.intro hnx (And.intro hB hby))
      clear hnx hB hby hr
      go_wp2_with fail
      have ev : ((x : Int) / 2 ^ (8 * k) % 256) = ((l.getD k 0 : Nat) : Int) := by
        rw [← HX.out.2.2, Nat.shiftRight_eq_div_pow, Int.natCast_emod, Int.natCast_ediv, Int.natCast_pow]; rfl
      rw [ev]
      exact ⟨⟨k + 1, by omega, by go_num, HX.out.1, HX.out.2.1.setCell hwB _⟩, by simp [intOf]; omega⟩
    · obtain rfl : k = 8 := by omega
      have hcv := text_of (P := Tryz.prog) (l := l) (by rw [outK_all (by rw [HL.out.2.1]; omega)] at hr; exact hr) Tryz.underlying62 Tryz.underlying5 Tryz.underlying9
      rw [HL.out.2.1] at hcv
      have HB := Lib.hid hB
      have gl := hr.lt
      clear hB hr
      go_wp2_with fail
      go_returns
      exact ⟨rfl, HB.out⟩
end Go.Proofs.YtjoipibldahbhaaGreatDoor
/- Buffers by words: contracts. -/
namespace Go.Proofs.YtjoipibldahbhaaGreatDoor
open Go Go.RowKit
set_option maxRecDepth 100000
abbrev tU8 : TypeId := 5
theorem infoU8p : (Tryz.prog.info? tU8).map (fun i => (i.zero, i.size, i.bytes)) = some (some (.int .u8 0), 1, 1) := by kernel_rfl
theorem info_u8 : ∃ i0, Tryz.prog.info? tU8 = some i0 ∧ i0.zero = some (.int .u8 0) ∧ i0.size = 1 ∧ i0.bytes = 1 := by
  obtain ⟨i, h⟩ : ∃ i, Tryz.prog.info? tU8 = some i := by
    cases e : Tryz.prog.info? tU8 with
    | none => have := infoU8p; rw [e] at this; cases this
    | some i => exact ⟨i, rfl⟩
  have h2 := infoU8p
  rw [h] at h2
  simp only [Option.map_some, Option.some.injEq, Prod.mk.injEq] at h2
  exact ⟨i, h, h2.1, h2.2.1, h2.2.2⟩
/-- What a function makes of the bytes at a place. -/
def fZ (f : Nat → Nat → Nat) (a b : List Nat) (i : Nat) : Nat := f (a.getD i 0) (b.getD i 0)
theorem zip_eight (f : Nat → Nat → Nat) (a b : List Nat) (k : Nat) : List.zipWith f (eight a k) (eight b k) = (List.range 8).map fun j => fZ f a b (k + j) := by
  unfold eight
  apply List.ext_getElem
  · simp
  · intro i h1 h2; simp [fZ]
theorem fZ_allR {f : Nat → Nat → Nat} (hf : ∀ x y, x < 256 → y < 256 → f x y < 256) {a b : List Nat} (ha : AllB a) (hb : AllB b) (k : Nat) : AllB ((List.range k).map (fZ f a b)) := fun x hx => by
  obtain ⟨j, _, rfl⟩ := List.mem_map.1 hx
  exact hf _ _ (getD_lt ha _) (getD_lt hb _)
theorem fZ_all {f : Nat → Nat → Nat} (hf : ∀ x y, x < 256 → y < 256 → f x y < 256) {a b : List Nat} (ha : AllB a) (hb : AllB b) (k : Nat) : AllB ((List.range 8).map fun j => fZ f a b (k + j)) := fun x hx => by
  obtain ⟨j, _, rfl⟩ := List.mem_map.1 hx
  exact hf _ _ (getD_lt ha _) (getD_lt hb _)
theorem fZ_more {f : Nat → Nat → Nat} {a b : List Nat} {k : Nat} : (List.range k).map (fZ f a b) ++ ((List.range 8).map fun j => fZ f a b (k + j)) = (List.range (k + 8)).map (fZ f a b) := by
  rw [List.range_add, List.map_append, List.map_map]; rfl
theorem fZ_take {f : Nat → Nat → Nat} {a b : List Nat} {k n : Nat} (h : n ≤ k) : ((List.range k).map (fZ f a b)).take n = (List.range n).map (fZ f a b) := by
  rw [← List.map_take, List.take_range, Nat.min_eq_left h]
theorem fZ_zip {f : Nat → Nat → Nat} {a b : List Nat} {n : Nat} (h : a.length = b.length) (hn : n = a.length) : (List.range n).map (fZ f a b) = List.zipWith f a b := by
  subst hn
  apply List.ext_getElem
  · simp [h]
  · intro i h1 h2
    have ha : i < a.length := by simpa using h1
    simp [fZ, ha, h ▸ ha]
variable {w w' : World} {B : Nat} {e : TypeId} {v : Value} {n : Nat} {xs : List Value}
theorem own_shape1 (h : w.ownsRow B e 1 v n xs) : ∃ a c, v = .slice a n c := by
  obtain ⟨_, h⟩ := h
  rcases h with ⟨rfl, h2⟩ | ⟨g, cap, cur, rfl, _⟩
  · exact ⟨none, 0, by rw [h2]⟩
  · exact ⟨_, _, rfl⟩
theorem ownsRow_below (h : w.ownsRow B e 1 v n xs) (hb : Below w.heap.size w w') : w'.ownsRow B e 1 v n xs := by
  have hlt := fun k hk => World.ownsRow.lt h k hk
  obtain ⟨hl, h⟩ := h
  refine ⟨hl, ?_⟩
  rcases h with h | ⟨g, cap, cur, hv, hB, hh, r⟩
  · exact .inl h
  · exact .inr ⟨g, cap, cur, hv, hB, (hb.block g (hlt g (by rw [hv]; rfl)).2).trans hh, r⟩
theorem below_own1 {u w1 : World} (hb : Below u.heap.size u w) (hg : w.grownBy w1 v.ownBlock) (h : w.ownsRow u.heap.size e 1 v n xs) : Below u.heap.size u w1 :=
  hb.trans ⟨hg.os, hg.tape, hg.output, hg.size, fun k hk => hg.block k (Nat.lt_of_lt_of_le hk hb.size) fun e => by have := (World.ownsRow.lt h k e.symm).1; omega⟩
theorem grown_below {u : World} (hg : u.grownBy w none) : Below u.heap.size u w := ⟨hg.os, hg.tape, hg.output, hg.size, fun k hk => hg.block k hk (by simp)⟩
theorem own_caps {a : Option Addr} {m c : Nat} (h : w.ownsRow B e 1 (.slice a m c) n xs) : m = n ∧ n ≤ c := by
  rcases h.2 with ⟨hv, h2⟩ | ⟨g, cap, cur, hv, _, _, h3, _⟩
  · cases hv; exact ⟨h2.symm, by omega⟩
  · cases hv; exact ⟨rfl, h3⟩
theorem text_own {P : Program} {l : List Nat} {a : Option Addr} {k c m : Nat} {tb tu ts : TypeId} (h : w.ownsRow B e 1 (.slice a k c) k (l.map u8V)) (hm : m ≤ k) (hb : P.underlying tb = some (.slice tu)) (hu : P.underlying tu = some (.int .u8)) (hs : P.underlying ts = some .string) :
    (convert tb ts (.slice a m c)).run P w = .ok (.string (mk (l.take m))) w := by
  have h0 := h
  rcases h.2 with ⟨hv, h2⟩ | ⟨g, cap, cur, hv, _, _, h3, _⟩
  · cases hv
    obtain rfl : m = 0 := by omega
    rw [run_convert_bytes_nil w tb tu hb hu 0 0 ts hs]
    rfl
  · cases hv
    have hlk : l.length = k := by have := h.1; rw [List.length_map] at this; omega
    refine run_convert_bytes_arg w tb tu hb hu g 0 m c ((l.take m).map fun n : Nat => (n : Int)) (by rw [List.length_map, List.length_take]; omega) (fun i hi => ?_) ts hs
    rw [Nat.zero_add, World.ownsRow.cellAt h0 i (by omega), List.getElem?_map, List.getElem?_eq_getElem (by omega)]
    have : ((l.take m).map fun n : Nat => (n : Int)).getD i 0 = (l[i]'(by omega) : Int) := by
      have h5 : i < ((l.take m).map fun n : Nat => (n : Int)).length := by rw [List.length_map, List.length_take]; omega
      have h6 : i < l.length := by omega
      simp [List.getD, hi, h6]
    rw [this]
    rfl
theorem words_add (a b : List Nat) (w : World) (f : Nat → Nat → Nat) (hf : ∀ x y, x < 256 → y < 256 → f x y < 256) (ha : AllB a) (hb : AllB b) (hlen : a.length = b.length) (hnn : a.length ≤ 65536)
    (hF : ∀ w', Below w.heap.size w w' → ∀ l m, AllB l → AllB m → l.length = 8 → m.length = 8 → Calls Tryz.prog 40 #[.int .u64 (W l : Int), .int .u64 (W m : Int)] w' fun e w'' => e = .returned (.int .u64 (W (List.zipWith f l m) : Int)) ∧ w' = w'') :
    Calls Tryz.prog 39 #[.string (mk a), .string (mk b), .func (.func 40) #[] #[]] w fun e w' => e = .returned (.string (mk (List.zipWith f a b))) ∧ Below w.heap.size w w' := by
  obtain ⟨n, hn⟩ : ∃ n, n = a.length := ⟨_, rfl⟩
  have hsz := mk_size a
  obtain ⟨s, hs⟩ : ∃ s, s = mk a := ⟨_, rfl⟩
  obtain ⟨i0, hi0, hz0, hz1, hz2⟩ := info_u8
  have HIN : Hid (Tryz.prog.info? tU8 = some i0 ∧ i0.zero = some (.int .u8 0) ∧ i0.size = 1 ∧ i0.bytes = 1) := ⟨hi0, hz0, hz1, hz2⟩
  rw [← hs, ← hn] at hsz
  rw [← hs]
  have HA := Lib.hid (And.intro ha (And.intro hb (And.intro hlen (And.intro hn hs))))
  have HF := Lib.hid (And.intro hF hf)
  rw [← hn] at hnn
  clear ha hb hlen hn hs hF hf hi0 hz0 hz1 hz2
  go_enter Tryz.func39, Tryz.ntmps39
  go_wp2_with (at_make; refine wpList_make_own _ rfl _ _ 62 rfl w.heap.size tU8 i0 (.int .u8 0) 1 Tryz.underlying62 HIN.out.1 HIN.out.2.1 HIN.out.2.2.1 .i64 .i64 _ (n + 8) rfl rfl ?hC ?hb2 ?hb3 (Nat.le_refl _) ?_)
  case hC => omega
  case hb2 => rw [HIN.out.2.2.2]; omega
  case hb3 => unfold maxLen; omega
  intro w1 ho hg1
  have HO := Lib.hid (And.intro ho (grown_below hg1))
  clear ho hg1
  go_wp2_with fail
  go_loopw [7, 8] (fun v y wr => ∃ (k : Nat) (os : List Nat), k ≤ n + 7 ∧ k % 8 = 0 ∧ y = .int .i64 (k : Int) ∧ os = (List.range k).map (fZ f a b) ∧ wr.ownsRow w.heap.size tU8 1 v k (os.map u8V) ∧ Below w.heap.size w wr) (fun _ y _ => n + 8 - (intOf y).toNat)
  case atStart => exact ⟨0, [], by omega, rfl, rfl, rfl, HO.out.1, HO.out.2⟩
  case round =>
    obtain ⟨k, os, hk, hk8, rfl, hos, hr, hB⟩ := hrel
    have HOS := Lib.hid hos
    clear hos
    obtain ⟨av, cv, rfl⟩ := own_shape1 hr
    by_cases hlt : k < n
    · have hLa := Load_any a k wr HA.out.1 (by omega) (by have := HA.out.2.2.2.1; omega)
      have hLb := Load_any b k wr HA.out.2.1 (by omega) (by have := HA.out.2.2.2.1; have := HA.out.2.2.1; omega)
      have hFk := HF.out.1 wr hB (eight a k) (eight b k) (eight_all HA.out.1 k) (eight_all HA.out.2.1 k) (eight_len a k) (eight_len b k)
      rw [zip_eight] at hFk
      rw [← HA.out.2.2.2.2] at hLa
      obtain ⟨zs, hzs⟩ : ∃ zs, zs = (List.range 8).map fun j => fZ f a b (k + j) := ⟨_, rfl⟩
      have hz8 : zs.length = 8 := by rw [hzs]; simp
      have hzA : AllB zs := by rw [hzs]; exact fZ_all HF.out.2 HA.out.1 HA.out.2.1 k
      have hzM : os ++ zs = (List.range (k + 8)).map (fZ f a b) := by rw [HOS.out, hzs]; exact fZ_more
      rw [← hzs] at hFk
      have hSt := Store_any zs wr hzA hz8
      have HZ := Lib.hid (And.intro hz8 (And.intro hzA hzM))
      clear hzs hz8 hzA hzM
      have HX := Lib.hid (And.intro hr (And.intro hB (And.intro hFk (And.intro hSt (And.intro hLa hLb)))))
      clear hr hB hFk hSt hLa hLb
      go_wp2_with fail
      refine HX.out.2.2.2.2.1.mono ?_
      rintro e w2 ⟨rfl, rfl⟩
      go_wp2_with fail
      refine HX.out.2.2.2.2.2.mono ?_
      rintro e w2 ⟨rfl, rfl⟩
      go_wp2_with fail
      refine HX.out.2.2.1.mono ?_
      rintro e w2 ⟨rfl, rfl⟩
      go_wp2_with fail
      refine HX.out.2.2.2.1.mono ?_
      rintro e w2 ⟨rfl, b2⟩
      have hr2 := ownsRow_below HX.out.1 b2
      have B2 := HX.out.2.1.trans (b2.mono HX.out.2.1.size)
      have hbs := B2.size
      have H2 := Lib.hid (And.intro hr2 B2)
      clear hr2 b2 B2
      go_wp2_with (at_builtin; refine Lib.wpList_append_own_string _ rfl _ _ 62 9 rfl w.heap.size tU8 i0 Tryz.underlying62 Tryz.underlying9 HIN.out.1 HIN.out.2.1 HIN.out.2.2.1 HIN.out.2.2.2 _ _ _ rfl H2.out.1 _ rfl ?c1 ?c2 hbs ?_)
      case c1 => rw [mk_size, HZ.out.1]; unfold maxLen; omega
      case c2 => rw [mk_size, HZ.out.1]; omega
      intro v' w3 ho hg3 _
      rw [mk_size, mk_cells HZ.out.2.1, ← List.map_append, HZ.out.1] at ho
      obtain ⟨a3, c3, rfl⟩ := own_shape1 ho
      have B3 := below_own1 H2.out.2 hg3 H2.out.1
      have H3 := Lib.hid (And.intro ho B3)
      clear ho hg3 B3
      go_wp2_with fail
      go_roundw
      case rel => exact ⟨k + 8, os ++ zs, by omega, by omega, by go_num, HZ.out.2.2, H3.out.1, H3.out.2⟩
      case measure => simp [intOf] <;> omega
    · have hk3 : n ≤ k := by omega
      have hcv := text_own (P := Tryz.prog) hr hk3 Tryz.underlying62 Tryz.underlying5 Tryz.underlying9
      rw [HOS.out, fZ_take hk3] at hcv
      have hfin : (List.range n).map (fZ f a b) = List.zipWith f a b := fZ_zip HA.out.2.2.1 HA.out.2.2.2.1
      rw [hfin] at hcv
      obtain ⟨hc1, hc2⟩ := own_caps hr
      have HB := Lib.hid hB
      clear hB hr hfin
      go_wp2_with fail
      go_returns
      exact ⟨rfl, HB.out⟩
theorem words_double (a b : List Nat) (w : World) (f : Nat → Nat → Nat) (hf : ∀ x y, x < 256 → y < 256 → f x y < 256) (ha : AllB a) (hb : AllB b) (hlen : a.length = b.length) (hnn : a.length ≤ 65536)
    (hF : ∀ w', Below w.heap.size w w' → ∀ l m, AllB l → AllB m → l.length = 8 → m.length = 8 → Calls Tryz.prog 66 #[.int .u64 (W l : Int), .int .u64 (W m : Int)] w' fun e w'' => e = .returned (.int .u64 (W (List.zipWith f l m) : Int)) ∧ w' = w'') :
    Calls Tryz.prog 39 #[.string (mk a), .string (mk b), .func (.func 66) #[] #[]] w fun e w' => e = .returned (.string (mk (List.zipWith f a b))) ∧ Below w.heap.size w w' := by
  obtain ⟨n, hn⟩ : ∃ n, n = a.length := ⟨_, rfl⟩
  have hsz := mk_size a
  obtain ⟨s, hs⟩ : ∃ s, s = mk a := ⟨_, rfl⟩
  obtain ⟨i0, hi0, hz0, hz1, hz2⟩ := info_u8
  have HIN : Hid (Tryz.prog.info? tU8 = some i0 ∧ i0.zero = some (.int .u8 0) ∧ i0.size = 1 ∧ i0.bytes = 1) := ⟨hi0, hz0, hz1, hz2⟩
  rw [← hs, ← hn] at hsz
  rw [← hs]
  have HA := Lib.hid (And.intro ha (And.intro hb (And.intro hlen (And.intro hn hs))))
  have HF := Lib.hid (And.intro hF hf)
  rw [← hn] at hnn
  clear ha hb hlen hn hs hF hf hi0 hz0 hz1 hz2
  go_enter Tryz.func39, Tryz.ntmps39
  go_wp2_with (at_make; refine wpList_make_own _ rfl _ _ 62 rfl w.heap.size tU8 i0 (.int .u8 0) 1 Tryz.underlying62 HIN.out.1 HIN.out.2.1 HIN.out.2.2.1 .i64 .i64 _ (n + 8) rfl rfl ?hC ?hb2 ?hb3 (Nat.le_refl _) ?_)
  case hC => omega
  case hb2 => rw [HIN.out.2.2.2]; omega
  case hb3 => unfold maxLen; omega
  intro w1 ho hg1
  have HO := Lib.hid (And.intro ho (grown_below hg1))
  clear ho hg1
  go_wp2_with fail
  go_loopw [7, 8] (fun v y wr => ∃ (k : Nat) (os : List Nat), k ≤ n + 7 ∧ k % 8 = 0 ∧ y = .int .i64 (k : Int) ∧ os = (List.range k).map (fZ f a b) ∧ wr.ownsRow w.heap.size tU8 1 v k (os.map u8V) ∧ Below w.heap.size w wr) (fun _ y _ => n + 8 - (intOf y).toNat)
  case atStart => exact ⟨0, [], by omega, rfl, rfl, rfl, HO.out.1, HO.out.2⟩
  case round =>
    obtain ⟨k, os, hk, hk8, rfl, hos, hr, hB⟩ := hrel
    have HOS := Lib.hid hos
    clear hos
    obtain ⟨av, cv, rfl⟩ := own_shape1 hr
    by_cases hlt : k < n
    · have hLa := Load_any a k wr HA.out.1 (by omega) (by have := HA.out.2.2.2.1; omega)
      have hLb := Load_any b k wr HA.out.2.1 (by omega) (by have := HA.out.2.2.2.1; have := HA.out.2.2.1; omega)
      have hFk := HF.out.1 wr hB (eight a k) (eight b k) (eight_all HA.out.1 k) (eight_all HA.out.2.1 k) (eight_len a k) (eight_len b k)
      rw [zip_eight] at hFk
      rw [← HA.out.2.2.2.2] at hLa
      obtain ⟨zs, hzs⟩ : ∃ zs, zs = (List.range 8).map fun j => fZ f a b (k + j) := ⟨_, rfl⟩
      have hz8 : zs.length = 8 := by rw [hzs]; simp
      have hzA : AllB zs := by rw [hzs]; exact fZ_all HF.out.2 HA.out.1 HA.out.2.1 k
      have hzM : os ++ zs = (List.range (k + 8)).map (fZ f a b) := by rw [HOS.out, hzs]; exact fZ_more
      rw [← hzs] at hFk
      have hSt := Store_any zs wr hzA hz8
      have HZ := Lib.hid (And.intro hz8 (And.intro hzA hzM))
      clear hzs hz8 hzA hzM
      have HX := Lib.hid (And.intro hr (And.intro hB (And.intro hFk (And.intro hSt (And.intro hLa hLb)))))
      clear hr hB hFk hSt hLa hLb
      go_wp2_with fail
      refine HX.out.2.2.2.2.1.mono ?_
      rintro e w2 ⟨rfl, rfl⟩
      go_wp2_with fail
      refine HX.out.2.2.2.2.2.mono ?_
      rintro e w2 ⟨rfl, rfl⟩
      go_wp2_with fail
      refine HX.out.2.2.1.mono ?_
      rintro e w2 ⟨rfl, rfl⟩
      go_wp2_with fail
      refine HX.out.2.2.2.1.mono ?_
      rintro e w2 ⟨rfl, b2⟩
      have hr2 := ownsRow_below HX.out.1 b2
      have B2 := HX.out.2.1.trans (b2.mono HX.out.2.1.size)
      have hbs := B2.size
      have H2 := Lib.hid (And.intro hr2 B2)
      clear hr2 b2 B2
      go_wp2_with (at_builtin; refine Lib.wpList_append_own_string _ rfl _ _ 62 9 rfl w.heap.size tU8 i0 Tryz.underlying62 Tryz.underlying9 HIN.out.1 HIN.out.2.1 HIN.out.2.2.1 HIN.out.2.2.2 _ _ _ rfl H2.out.1 _ rfl ?c1 ?c2 hbs ?_)
      case c1 => rw [mk_size, HZ.out.1]; unfold maxLen; omega
      case c2 => rw [mk_size, HZ.out.1]; omega
      intro v' w3 ho hg3 _
      rw [mk_size, mk_cells HZ.out.2.1, ← List.map_append, HZ.out.1] at ho
      obtain ⟨a3, c3, rfl⟩ := own_shape1 ho
      have B3 := below_own1 H2.out.2 hg3 H2.out.1
      have H3 := Lib.hid (And.intro ho B3)
      clear ho hg3 B3
      go_wp2_with fail
      go_roundw
      case rel => exact ⟨k + 8, os ++ zs, by omega, by omega, by go_num, HZ.out.2.2, H3.out.1, H3.out.2⟩
      case measure => simp [intOf] <;> omega
    · have hk3 : n ≤ k := by omega
      have hcv := text_own (P := Tryz.prog) hr hk3 Tryz.underlying62 Tryz.underlying5 Tryz.underlying9
      rw [HOS.out, fZ_take hk3] at hcv
      have hfin : (List.range n).map (fZ f a b) = List.zipWith f a b := fZ_zip HA.out.2.2.1 HA.out.2.2.2.1
      rw [hfin] at hcv
      obtain ⟨hc1, hc2⟩ := own_caps hr
      have HB := Lib.hid hB
      clear hB hr hfin
      go_wp2_with fail
      go_returns
      exact ⟨rfl, HB.out⟩
theorem words_scale (a b : List Nat) (pc : Addr) (w : World) (f : Nat → Nat → Nat) (hf : ∀ x y, x < 256 → y < 256 → f x y < 256) (ha : AllB a) (hb : AllB b) (hlen : a.length = b.length) (hnn : a.length ≤ 65536)
    (hF : ∀ w', Below w.heap.size w w' → ∀ l m, AllB l → AllB m → l.length = 8 → m.length = 8 → Calls Tryz.prog 82 #[.int .u64 (W l : Int), .int .u64 (W m : Int), .pointer (some pc)] w' fun e w'' => e = .returned (.int .u64 (W (List.zipWith f l m) : Int)) ∧ w' = w'') :
    Calls Tryz.prog 39 #[.string (mk a), .string (mk b), .func (.func 82) #[] #[.pointer (some pc)]] w fun e w' => e = .returned (.string (mk (List.zipWith f a b))) ∧ Below w.heap.size w w' := by
  obtain ⟨n, hn⟩ : ∃ n, n = a.length := ⟨_, rfl⟩
  have hsz := mk_size a
  obtain ⟨s, hs⟩ : ∃ s, s = mk a := ⟨_, rfl⟩
  obtain ⟨i0, hi0, hz0, hz1, hz2⟩ := info_u8
  have HIN : Hid (Tryz.prog.info? tU8 = some i0 ∧ i0.zero = some (.int .u8 0) ∧ i0.size = 1 ∧ i0.bytes = 1) := ⟨hi0, hz0, hz1, hz2⟩
  rw [← hs, ← hn] at hsz
  rw [← hs]
  have HA := Lib.hid (And.intro ha (And.intro hb (And.intro hlen (And.intro hn hs))))
  have HF := Lib.hid (And.intro hF hf)
  rw [← hn] at hnn
  clear ha hb hlen hn hs hF hf hi0 hz0 hz1 hz2
  go_enter Tryz.func39, Tryz.ntmps39
  go_wp2_with (at_make; refine wpList_make_own _ rfl _ _ 62 rfl w.heap.size tU8 i0 (.int .u8 0) 1 Tryz.underlying62 HIN.out.1 HIN.out.2.1 HIN.out.2.2.1 .i64 .i64 _ (n + 8) rfl rfl ?hC ?hb2 ?hb3 (Nat.le_refl _) ?_)
  case hC => omega
  case hb2 => rw [HIN.out.2.2.2]; omega
  case hb3 => unfold maxLen; omega
  intro w1 ho hg1
  have HO := Lib.hid (And.intro ho (grown_below hg1))
  clear ho hg1
  go_wp2_with fail
  go_loopw [7, 8] (fun v y wr => ∃ (k : Nat) (os : List Nat), k ≤ n + 7 ∧ k % 8 = 0 ∧ y = .int .i64 (k : Int) ∧ os = (List.range k).map (fZ f a b) ∧ wr.ownsRow w.heap.size tU8 1 v k (os.map u8V) ∧ Below w.heap.size w wr) (fun _ y _ => n + 8 - (intOf y).toNat)
  case atStart => exact ⟨0, [], by omega, rfl, rfl, rfl, HO.out.1, HO.out.2⟩
  case round =>
    obtain ⟨k, os, hk, hk8, rfl, hos, hr, hB⟩ := hrel
    have HOS := Lib.hid hos
    clear hos
    obtain ⟨av, cv, rfl⟩ := own_shape1 hr
    by_cases hlt : k < n
    · have hLa := Load_any a k wr HA.out.1 (by omega) (by have := HA.out.2.2.2.1; omega)
      have hLb := Load_any b k wr HA.out.2.1 (by omega) (by have := HA.out.2.2.2.1; have := HA.out.2.2.1; omega)
      have hFk := HF.out.1 wr hB (eight a k) (eight b k) (eight_all HA.out.1 k) (eight_all HA.out.2.1 k) (eight_len a k) (eight_len b k)
      rw [zip_eight] at hFk
      rw [← HA.out.2.2.2.2] at hLa
      obtain ⟨zs, hzs⟩ : ∃ zs, zs = (List.range 8).map fun j => fZ f a b (k + j) := ⟨_, rfl⟩
      have hz8 : zs.length = 8 := by rw [hzs]; simp
      have hzA : AllB zs := by rw [hzs]; exact fZ_all HF.out.2 HA.out.1 HA.out.2.1 k
      have hzM : os ++ zs = (List.range (k + 8)).map (fZ f a b) := by rw [HOS.out, hzs]; exact fZ_more
      rw [← hzs] at hFk
      have hSt := Store_any zs wr hzA hz8
      have HZ := Lib.hid (And.intro hz8 (And.intro hzA hzM))
      clear hzs hz8 hzA hzM
      have HX := Lib.hid (And.intro hr (And.intro hB (And.intro hFk (And.intro hSt (And.intro hLa hLb)))))
      clear hr hB hFk hSt hLa hLb
      go_wp2_with fail
      refine HX.out.2.2.2.2.1.mono ?_
      rintro e w2 ⟨rfl, rfl⟩
      go_wp2_with fail
      refine HX.out.2.2.2.2.2.mono ?_
      rintro e w2 ⟨rfl, rfl⟩
      go_wp2_with fail
      refine HX.out.2.2.1.mono ?_
      rintro e w2 ⟨rfl, rfl⟩
      go_wp2_with fail
      refine HX.out.2.2.2.1.mono ?_
      rintro e w2 ⟨rfl, b2⟩
      have hr2 := ownsRow_below HX.out.1 b2
      have B2 := HX.out.2.1.trans (b2.mono HX.out.2.1.size)
      have hbs := B2.size
      have H2 := Lib.hid (And.intro hr2 B2)
      clear hr2 b2 B2
      go_wp2_with (at_builtin; refine Lib.wpList_append_own_string _ rfl _ _ 62 9 rfl w.heap.size tU8 i0 Tryz.underlying62 Tryz.underlying9 HIN.out.1 HIN.out.2.1 HIN.out.2.2.1 HIN.out.2.2.2 _ _ _ rfl H2.out.1 _ rfl ?c1 ?c2 hbs ?_)
      case c1 => rw [mk_size, HZ.out.1]; unfold maxLen; omega
      case c2 => rw [mk_size, HZ.out.1]; omega
      intro v' w3 ho hg3 _
      rw [mk_size, mk_cells HZ.out.2.1, ← List.map_append, HZ.out.1] at ho
      obtain ⟨a3, c3, rfl⟩ := own_shape1 ho
      have B3 := below_own1 H2.out.2 hg3 H2.out.1
      have H3 := Lib.hid (And.intro ho B3)
      clear ho hg3 B3
      go_wp2_with fail
      go_roundw
      case rel => exact ⟨k + 8, os ++ zs, by omega, by omega, by go_num, HZ.out.2.2, H3.out.1, H3.out.2⟩
      case measure => simp [intOf] <;> omega
    · have hk3 : n ≤ k := by omega
      have hcv := text_own (P := Tryz.prog) hr hk3 Tryz.underlying62 Tryz.underlying5 Tryz.underlying9
      rw [HOS.out, fZ_take hk3] at hcv
      have hfin : (List.range n).map (fZ f a b) = List.zipWith f a b := fZ_zip HA.out.2.2.1 HA.out.2.2.2.1
      rw [hfin] at hcv
      obtain ⟨hc1, hc2⟩ := own_caps hr
      have HB := Lib.hid hB
      clear hB hr hfin
      go_wp2_with fail
      go_returns
      exact ⟨rfl, HB.out⟩
theorem words_fold (a b : List Nat) (pc : Addr) (w : World) (f : Nat → Nat → Nat) (hf : ∀ x y, x < 256 → y < 256 → f x y < 256) (ha : AllB a) (hb : AllB b) (hlen : a.length = b.length) (hnn : a.length ≤ 65536)
    (hF : ∀ w', Below w.heap.size w w' → ∀ l m, AllB l → AllB m → l.length = 8 → m.length = 8 → Calls Tryz.prog 79 #[.int .u64 (W l : Int), .int .u64 (W m : Int), .pointer (some pc)] w' fun e w'' => e = .returned (.int .u64 (W (List.zipWith f l m) : Int)) ∧ w' = w'') :
    Calls Tryz.prog 39 #[.string (mk a), .string (mk b), .func (.func 79) #[] #[.pointer (some pc)]] w fun e w' => e = .returned (.string (mk (List.zipWith f a b))) ∧ Below w.heap.size w w' := by
  obtain ⟨n, hn⟩ : ∃ n, n = a.length := ⟨_, rfl⟩
  have hsz := mk_size a
  obtain ⟨s, hs⟩ : ∃ s, s = mk a := ⟨_, rfl⟩
  obtain ⟨i0, hi0, hz0, hz1, hz2⟩ := info_u8
  have HIN : Hid (Tryz.prog.info? tU8 = some i0 ∧ i0.zero = some (.int .u8 0) ∧ i0.size = 1 ∧ i0.bytes = 1) := ⟨hi0, hz0, hz1, hz2⟩
  rw [← hs, ← hn] at hsz
  rw [← hs]
  have HA := Lib.hid (And.intro ha (And.intro hb (And.intro hlen (And.intro hn hs))))
  have HF := Lib.hid (And.intro hF hf)
  rw [← hn] at hnn
  clear ha hb hlen hn hs hF hf hi0 hz0 hz1 hz2
  go_enter Tryz.func39, Tryz.ntmps39
  go_wp2_with (at_make; refine wpList_make_own _ rfl _ _ 62 rfl w.heap.size tU8 i0 (.int .u8 0) 1 Tryz.underlying62 HIN.out.1 HIN.out.2.1 HIN.out.2.2.1 .i64 .i64 _ (n + 8) rfl rfl ?hC ?hb2 ?hb3 (Nat.le_refl _) ?_)
  case hC => omega
  case hb2 => rw [HIN.out.2.2.2]; omega
  case hb3 => unfold maxLen; omega
  intro w1 ho hg1
  have HO := Lib.hid (And.intro ho (grown_below hg1))
  clear ho hg1
  go_wp2_with fail
  go_loopw [7, 8] (fun v y wr => ∃ (k : Nat) (os : List Nat), k ≤ n + 7 ∧ k % 8 = 0 ∧ y = .int .i64 (k : Int) ∧ os = (List.range k).map (fZ f a b) ∧ wr.ownsRow w.heap.size tU8 1 v k (os.map u8V) ∧ Below w.heap.size w wr) (fun _ y _ => n + 8 - (intOf y).toNat)
  case atStart => exact ⟨0, [], by omega, rfl, rfl, rfl, HO.out.1, HO.out.2⟩
  case round =>
    obtain ⟨k, os, hk, hk8, rfl, hos, hr, hB⟩ := hrel
    have HOS := Lib.hid hos
    clear hos
    obtain ⟨av, cv, rfl⟩ := own_shape1 hr
    by_cases hlt : k < n
    · have hLa := Load_any a k wr HA.out.1 (by omega) (by have := HA.out.2.2.2.1; omega)
      have hLb := Load_any b k wr HA.out.2.1 (by omega) (by have := HA.out.2.2.2.1; have := HA.out.2.2.1; omega)
      have hFk := HF.out.1 wr hB (eight a k) (eight b k) (eight_all HA.out.1 k) (eight_all HA.out.2.1 k) (eight_len a k) (eight_len b k)
      rw [zip_eight] at hFk
      rw [← HA.out.2.2.2.2] at hLa
      obtain ⟨zs, hzs⟩ : ∃ zs, zs = (List.range 8).map fun j => fZ f a b (k + j) := ⟨_, rfl⟩
      have hz8 : zs.length = 8 := by rw [hzs]; simp
      have hzA : AllB zs := by rw [hzs]; exact fZ_all HF.out.2 HA.out.1 HA.out.2.1 k
      have hzM : os ++ zs = (List.range (k + 8)).map (fZ f a b) := by rw [HOS.out, hzs]; exact fZ_more
      rw [← hzs] at hFk
      have hSt := Store_any zs wr hzA hz8
      have HZ := Lib.hid (And.intro hz8 (And.intro hzA hzM))
      clear hzs hz8 hzA hzM
      have HX := Lib.hid (And.intro hr (And.intro hB (And.intro hFk (And.intro hSt (And.intro hLa hLb)))))
      clear hr hB hFk hSt hLa hLb
      go_wp2_with fail
      refine HX.out.2.2.2.2.1.mono ?_
      rintro e w2 ⟨rfl, rfl⟩
      go_wp2_with fail
      refine HX.out.2.2.2.2.2.mono ?_
      rintro e w2 ⟨rfl, rfl⟩
      go_wp2_with fail
      refine HX.out.2.2.1.mono ?_
      rintro e w2 ⟨rfl, rfl⟩
      go_wp2_with fail
      refine HX.out.2.2.2.1.mono ?_
      rintro e w2 ⟨rfl, b2⟩
      have hr2 := ownsRow_below HX.out.1 b2
      have B2 := HX.out.2.1.trans (b2.mono HX.out.2.1.size)
      have hbs := B2.size
      have H2 := Lib.hid (And.intro hr2 B2)
      clear hr2 b2 B2
      go_wp2_with (at_builtin; refine Lib.wpList_append_own_string _ rfl _ _ 62 9 rfl w.heap.size tU8 i0 Tryz.underlying62 Tryz.underlying9 HIN.out.1 HIN.out.2.1 HIN.out.2.2.1 HIN.out.2.2.2 _ _ _ rfl H2.out.1 _ rfl ?c1 ?c2 hbs ?_)
      case c1 => rw [mk_size, HZ.out.1]; unfold maxLen; omega
      case c2 => rw [mk_size, HZ.out.1]; omega
      intro v' w3 ho hg3 _
      rw [mk_size, mk_cells HZ.out.2.1, ← List.map_append, HZ.out.1] at ho
      obtain ⟨a3, c3, rfl⟩ := own_shape1 ho
      have B3 := below_own1 H2.out.2 hg3 H2.out.1
      have H3 := Lib.hid (And.intro ho B3)
      clear ho hg3 B3
      go_wp2_with fail
      go_roundw
      case rel => exact ⟨k + 8, os ++ zs, by omega, by omega, by go_num, HZ.out.2.2, H3.out.1, H3.out.2⟩
      case measure => simp [intOf] <;> omega
    · have hk3 : n ≤ k := by omega
      have hcv := text_own (P := Tryz.prog) hr hk3 Tryz.underlying62 Tryz.underlying5 Tryz.underlying9
      rw [HOS.out, fZ_take hk3] at hcv
      have hfin : (List.range n).map (fZ f a b) = List.zipWith f a b := fZ_zip HA.out.2.2.1 HA.out.2.2.2.1
      rw [hfin] at hcv
      obtain ⟨hc1, hc2⟩ := own_caps hr
      have HB := Lib.hid hB
      clear hB hr hfin
      go_wp2_with fail
      go_returns
      exact ⟨rfl, HB.out⟩
theorem AddF_any (l m : List Nat) (w : World) (hl : AllB l) (hm : AllB m) (h8 : l.length = 8) (m8 : m.length = 8) : Calls Tryz.prog 40 #[.int .u64 (W l : Int), .int .u64 (W m : Int)] w fun e w' => e = .returned (.int .u64 (W (List.zipWith (· ^^^ ·) l m) : Int)) ∧ w = w' := by
  have hx := u64_xor_nat (W l) (W m) (W8_lt hl h8) (W8_lt hm m8)
  rw [W_xor hl hm (by omega)] at hx
  clear hl hm h8 m8
  go_enter Tryz.func40, Tryz.ntmps40
  go_wp2_with fail
  go_returns
  exact ⟨rfl, rfl⟩
theorem DoubleF_any (l m : List Nat) (w : World) (hl : AllB l) (hm : AllB m) (h8 : l.length = 8) (m8 : m.length = 8) : Calls Tryz.prog 66 #[.int .u64 (W l : Int), .int .u64 (W m : Int)] w fun e w' => e = .returned (.int .u64 (W (List.zipWith (fun x y => dbl x ^^^ y) l m) : Int)) ∧ w = w' := by
  have hx := u64_xor_nat (W (l.map dbl)) (W m) (W8_lt (dbl_all hl) (by simpa using h8)) (W8_lt hm m8)
  rw [W_xor (dbl_all hl) hm (by simp; omega), List.zipWith_map_left] at hx
  have hT := Twice_any l w hl h8
  clear hl hm h8 m8
  go_enter Tryz.func66, Tryz.ntmps66
  go_wp2_with fail
  refine hT.mono ?_
  rintro e w1 ⟨rfl, rfl⟩
  go_wp2_with fail
  go_returns
  exact ⟨rfl, rfl⟩
theorem ScaleF_any (l m : List Nat) (c : Nat) (pc : Addr) (w : World) (hc : c < 256) (hp : w.cell? pc = some (.int .u8 (c : Int))) (hl : AllB l) (h8 : l.length = 8) (m8 : m.length = 8) : Calls Tryz.prog 82 #[.int .u64 (W l : Int), .int .u64 (W m : Int), .pointer (some pc)] w fun e w' => e = .returned (.int .u64 (W (List.zipWith (fun x _ => gm x c) l m) : Int)) ∧ w = w' := by
  have e : List.zipWith (fun x _ => gm x c) l m = l.map fun b => gm b c := by
    apply List.ext_getElem
    · simp; omega
    · intro i h1 h2; simp
  rw [e]
  have hT := Times_any l c w hl h8 hc
  clear hl h8 m8 e
  go_enter Tryz.func82, Tryz.ntmps82
  go_wp2_with fail
  refine hT.mono ?_
  rintro e w1 ⟨rfl, rfl⟩
  go_wp2_with fail
  go_returns
  exact ⟨rfl, rfl⟩
theorem FoldF_any (l m : List Nat) (c : Nat) (pc : Addr) (w : World) (hc : c < 256) (hp : w.cell? pc = some (.int .u8 (c : Int))) (hl : AllB l) (hm : AllB m) (h8 : l.length = 8) (m8 : m.length = 8) : Calls Tryz.prog 79 #[.int .u64 (W l : Int), .int .u64 (W m : Int), .pointer (some pc)] w fun e w' => e = .returned (.int .u64 (W (List.zipWith (fun x y => x ^^^ gm y c) l m) : Int)) ∧ w = w' := by
  have hg : AllB (m.map fun b => gm b c) := hm.map fun b hb => gm_lt b c hb
  have hx := u64_xor_nat (W l) (W (m.map fun b => gm b c)) (W8_lt hl h8) (W8_lt hg (by simpa using m8))
  rw [W_xor hl hg (by simp; omega), List.zipWith_map_right] at hx
  have hT := Times_any m c w hm m8 hc
  clear hl hm h8 m8 hg
  go_enter Tryz.func79, Tryz.ntmps79
  go_wp2_with fail
  refine hT.mono ?_
  rintro e w1 ⟨rfl, rfl⟩
  go_wp2_with fail
  go_returns
  exact ⟨rfl, rfl⟩
end Go.Proofs.YtjoipibldahbhaaGreatDoor
