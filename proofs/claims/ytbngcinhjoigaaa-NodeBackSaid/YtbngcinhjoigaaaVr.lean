/-
  The contracts of slices.Clone at bytes, node.take, node.number.
-/
import Derived.Test.YtbngcinhjoigaaaVq
import Derived.Test.YtbngcinhjoigaaaOr
set_option linter.unusedVariables false
namespace Go.Proofs.Ytbngcinhjoigaaa
open Go.RowKit

/-- What slices.Clone makes of bytes: a row of its own. -/
def ClonePost (l : List Int) (w : World) (e : Ending) (w' : World) : Prop := ∃ v, e = .returned v ∧ Own w' w.heap.size v l ∧ Below w.heap.size w w'
set_option maxHeartbeats 1000000 in
theorem clone_any (A : Option Addr) (l : List Int) (n c : Nat) (w : World) (hn : n = l.length) (hc : Cells w w.heap.size A (U8 l)) (hl : l.length ≤ 100000000) :
    Calls Try.prog 41 #[.slice A n c] w (ClonePost l w) := by
  subst hn
  have hnil := fun (a : Option Addr) (n c : Nat) (w : World) => Lib.run_eql_slice_nil (P := Try.prog) w 26 5 a n c 0 0 Try.underlying26
  rcases A with _ | ad
  · have hl0 : l = [] := by
      rcases l with _ | ⟨y, ys⟩
      · rfl
      · obtain ⟨b, off, e, _⟩ := hc 0 (.int .u8 y) rfl
        cases e
    subst hl0
    go_enter Try.func41, Try.ntmps41
    go_wp2
    go_ret
    exact ⟨_, rfl, Own.nil _ _, Below.refl _ _⟩
  · go_enter Try.func41, Try.ntmps41
    go_wp2_with (first | (at_builtin; refine app_any rfl (.tmp 5) (.tmp 6) rfl w.heap.size _ [] rfl (by exact own_row w w.heap.size [] (Nat.le_refl _) (by simp)) (w.heap.size) (some ad) c l rfl (by exact hc.alloc (Nat.le_refl _) _) (by simp; omega) (by simp) ?_; intro v1 w1 hown1 hg1))
    go_ret
    exact ⟨v1, rfl, own_as hown1 (by simp), ((Below.refl _ _).alloc (Nat.le_refl _) _).trans (hg1.below (own_row w w.heap.size [] (Nat.le_refl _) (by simp)) (by simp))⟩

/-- Block g holds a slice of the bytes r, which lie below B. -/
def RestAt (w : World) (B g : Nat) (r : List Int) : Prop := ∃ A c, Blk w g 26 #[.slice A r.length c] ∧ Cells w B A (U8 r) ∧ r.length ≤ c ∧ c ≤ 9223372036854775807
theorem RestAt.below {w w' : World} {B g C : Nat} {r : List Int} (h : RestAt w B g r) (hb : Below C w w') (hg : g < C) (hB : B ≤ C) : RestAt w' B g r := by
  obtain ⟨A, c, h1, h2, h3⟩ := h
  exact ⟨A, c, h1.below hb hg, h2.keep fun p hp => hb.cell (p := p) (by omega), h3⟩
theorem RestAt.lt {w : World} {B g : Nat} {r : List Int} (h : RestAt w B g r) : g < w.heap.size := by
  obtain ⟨A, c, h1, _⟩ := h
  exact h1.lt
theorem Cells.addr {w : World} {B : Nat} {ad : Addr} {xs : List Value} (h : Cells w B (some ad) xs) (i : Nat) : Cells w B (some (ad.add i)) (xs.drop i) := fun k u hu => by
  rw [List.getElem?_drop] at hu
  obtain ⟨b, off, e, hb, hc⟩ := h _ u hu
  injection e with e
  subst e
  rw [add_mk]
  exact ⟨b, off + i, rfl, hb, by rw [Nat.add_assoc]; exact hc⟩

/-- What take answers. -/
def TakeRes (w : World) (B g : Nat) (r : List Int) (n : Nat) (r' : List Int) (e : Ending) (w' : World) : Prop :=
  ∃ v, e = .returned (.tuple #[v, .bool (decide (n ≤ r.length))]) ∧ Own w' w.heap.size v (if n ≤ r.length then r.take n else []) ∧ RestAt w' B g r' ∧ Chg w w' (fun k => k = g)
set_option maxHeartbeats 2000000 in
theorem take_any (B g : Nat) (r : List Int) (n : Nat) (w : World) (h : RestAt w B g r) (hB : B ≤ g) (hn : n ≤ 100000) (hr : r.length ≤ 100000000) :
    Calls Try.prog 31 #[.pointer (some ⟨g, 0, none⟩), .int .i64 n] w (TakeRes w B g r n (off r n)) := by
  obtain ⟨A, c, hblk, hcl, hlc, hcm⟩ := h
  have hg := hblk.lt
  have c0 : w.cell? ⟨g, 0, none⟩ = some (.slice A r.length c) := hblk.cell 0
  have f0 := hblk.free 0
  by_cases hlt : r.length < n
  · have hI : (r.length : Int) < (n : Int) := by omega
    go_enter Try.func31, Try.ntmps31
    go_wp2
    go_ret2
    refine ⟨_, by rw [decide_eq_false (show ¬ n ≤ r.length by omega)]; rfl, by rw [if_neg (by omega)]; exact Own.nil _ _, ?_, Chg.refl _ _⟩
    unfold off
    rw [if_pos hlt]
    exact ⟨A, c, hblk, hcl, hlc, hcm⟩
  · have hI : ¬ (r.length : Int) < (n : Int) := by omega
    have h1 : (n : Int) ≤ (c : Int) := by omega
    have h2 : (n : Int) ≤ (r.length : Int) := by omega
    have hrt : (r.take n).length = n := by simp; omega
    have hHE : Hid (decide (n ≤ r.length) = true ∧ (if n ≤ r.length then r.take n else []) = r.take n ∧ off r n = r.drop n) := Lib.hid ⟨decide_eq_true (by omega), if_pos (by omega), by unfold off; rw [if_neg hlt]⟩
    have HCL : Hid (∀ w' : World, (∀ p : Addr, p.block < B → w'.cell? p = w.cell? p) → Calls Try.prog 41 #[.slice A n n] w' (ClonePost (r.take n) w')) := Lib.hid fun w' hk => clone_any A (r.take n) n n w' hrt.symm ((hcl.takeU n).keep hk).whole (by simp; omega)
    have HK : Hid (∀ v : Value, ∀ p : Addr, p.block < B → (w.setCell ⟨g, 0, none⟩ v).cell? p = w.cell? p) := Lib.hid fun v p hp => World.cell?_setCell_other w ⟨g, 0, none⟩ p v (fun e => by subst e; exact absurd hp (by simp; omega))
    have HN0 : Hid (A = none → r = []) := Lib.hid fun e => by
      subst e
      rcases r with _ | ⟨y, ys⟩
      · rfl
      · obtain ⟨b, off, e, _⟩ := hcl 0 (.int .u8 y) rfl
        cases e
    have HD : Hid (∀ A' c', (A' = A ∧ r.drop n = []) ∨ (∃ ad, A = some ad ∧ A' = some (ad.add n)) → r.length - n ≤ c' → c' ≤ 9223372036854775807 → RestAt (w.setCell ⟨g, 0, none⟩ (.slice A' (r.length - n) c')) B g (r.drop n)) := Lib.hid fun A' c' hA h1 h2 => by
      refine ⟨A', c', ?_, ?_, by rw [List.length_drop]; exact h1, h2⟩
      · rw [List.length_drop]; exact hblk.set_ 0 _
      · rcases hA with ⟨_, e⟩ | ⟨ad, e, e'⟩
        · rw [e]; exact Cells.nil
        · subst e e'
          rw [U8_drop]
          exact (hcl.addr n).keep (HK.out _)
    clear hrt hcl
    have HF : Hid (∀ (u : Value) (wS : World) (e : Ending) (w' : World), wS = w.setCell ⟨g, 0, none⟩ u → RestAt wS B g (r.drop n) → ClonePost (r.take n) wS e w' → ∃ v, e = .returned v ∧ TakeRes w B g r n (off r n) (.returned (.tuple #[v, .bool true])) w') := Lib.hid fun u wS e w' hS hR hp => by
      obtain ⟨v, rfl, hown, hb⟩ := hp
      obtain ⟨x1, x2, x3⟩ := hHE.out
      have hz : wS.heap.size = w.heap.size := by rw [hS]; simp [World.setCell]
      refine ⟨v, rfl, v, by rw [x1], by rw [x2, ← hz]; exact hown, by rw [x3]; exact hR.below hb (by rw [hz]; exact hg) (by rw [hz]; omega), ?_⟩
      have h1 : Chg w wS (fun k => k = g) := by rw [hS]; exact Chg.setCell w ⟨g, 0, none⟩ u
      exact h1.trans (Chg.of_below hb (fun k => k = g)) fun i hi => .inl hi
    clear hblk hHE hg
    rcases A with _ | ad
    · have HR : Hid (r.length = 0 ∧ r.drop n = [] ∧ n = 0) := Lib.hid (by have := HN0.out rfl; subst this; simp; simpa using hlt)
      obtain rfl := HR.out.2.2
      have hr0 := HR.out.1
      have HR2 := Lib.hid HR.out.2.1
      clear HR
      generalize hm : r.length = m at *
      subst hr0
      go_enter Try.func31, Try.ntmps31
      go_wp2_with fail
      refine (HCL.out _ (HK.out _)).mono ?_
      intro e w' hp
      obtain ⟨v, rfl, hT⟩ := HF.out _ _ e w' rfl (HD.out none c (.inl ⟨rfl, HR2.out⟩) (by omega) (by omega)) hp
      go_wp2
      go_ret2
      exact hT
    · by_cases hcn : c = n
      · have HR2 : Hid (r.drop n = []) := Lib.hid (List.drop_eq_nil_of_le (by omega))
        go_enter Try.func31, Try.ntmps31
        go_wp2_with fail
        refine (HCL.out _ (HK.out _)).mono ?_
        intro e w' hp
        obtain ⟨v, rfl, hT⟩ := HF.out _ _ e w' rfl (HD.out (some ad) 0 (.inl ⟨rfl, HR2.out⟩) (by omega) (by omega)) hp
        go_wp2
        go_ret2
        exact hT
      · go_enter Try.func31, Try.ntmps31
        go_wp2_with fail
        refine (HCL.out _ (HK.out _)).mono ?_
        intro e w' hp
        obtain ⟨v, rfl, hT⟩ := HF.out _ _ e w' rfl (HD.out (some (ad.add n)) (c - n) (.inr ⟨ad, rfl, rfl⟩) (by omega) (by omega)) hp
        go_wp2
        go_ret2
        exact hT

theorem i64_or_nat (a b : Nat) (ha : a < 4611686018427387904) (hb : b < 4611686018427387904) : bits .or .i64 (a : Int) (b : Int) = ((a ||| b : Nat) : Int) := by
  have hx : a ||| b < 2 ^ 62 := Nat.or_lt_two_pow (by omega) (by omega)
  show IntKind.i64.wrap ((BitVec.ofInt 64 (a : Int) ||| BitVec.ofInt 64 (b : Int)).toNat : Int) = _
  rw [BitVec.toNat_or, ofInt_u64 a (by omega), ofInt_u64 b (by omega), IntKind.wrap_i64]
  omega
theorem i64_or (a b : Int) (h1 : 0 ≤ a) (h2 : a < 4611686018427387904) (h3 : 0 ≤ b) (h4 : b < 4611686018427387904) : bits .or .i64 a b = ((a.toNat ||| b.toNat : Nat) : Int) := by
  obtain ⟨A, rfl⟩ := Int.eq_ofNat_of_zero_le h1
  obtain ⟨B, rfl⟩ := Int.eq_ofNat_of_zero_le h3
  simpa using i64_or_nat A B (by omega) (by omega)
theorem shl_or64 (x c : Int) (h0 : 0 ≤ x) (h1 : x < 4398046511104) (c0 : 0 ≤ c) (c1 : c ≤ 255) : bits .or .i64 (x * 256) c = x * 256 + c := by
  rw [i64_or _ _ (by omega) (by omega) c0 (by omega)]
  have e : (x * 256).toNat = x.toNat <<< 8 := by rw [Nat.shiftLeft_eq]; omega
  rw [e, ← Nat.shiftLeft_add_eq_or_of_lt (by omega), Nat.shiftLeft_eq]
  omega

theorem Own.parts {w : World} {base : Nat} {v : Value} {l : List Int} (h : Own w base v l) : ∃ A c, v = .slice A l.length c ∧ l.length ≤ c ∧ c ≤ 9223372036854775807 ∧ Cells w w.heap.size A (U8 l) := by
  obtain ⟨A, c, e, h1, h2, h3⟩ := h.shape
  unfold maxLen at h2
  exact ⟨A, c, e, h1, by omega, h3⟩
/-- What number answers. -/
def NumRes (w : World) (B g : Nat) (r : List Int) (n : Nat) (e : Ending) (w' : World) : Prop :=
  e = .returned (.int .i64 (num r n)) ∧ RestAt w' B g (off r n) ∧ Chg w w' (fun k => k = g)
theorem pow_le_42 : ∀ k, k ≤ 5 → (256 : Int) ^ k ≤ 1099511627776
  | 0, _ => by decide
  | 1, _ => by decide
  | 2, _ => by decide
  | 3, _ => by decide
  | 4, _ => by decide
  | 5, _ => by decide
  | n + 6, h => absurd h (by omega)
set_option maxHeartbeats 2000000 in
theorem number_any (B g : Nat) (r : List Int) (n : Nat) (w : World) (h : RestAt w B g r) (hB : B ≤ g) (hn : n ≤ 5) (hr : r.length ≤ 100000000) (ho : Oct r) :
    Calls Try.prog 30 #[.pointer (some ⟨g, 0, none⟩), .int .i64 n] w (NumRes w B g r n) := by
  have HC := Lib.hid (take_any B g r n w h hB (by omega) hr)
  clear h
  go_enter Try.func30, Try.ntmps30
  go_wp2_with fail
  refine HC.out.mono ?_
  rintro e w1 ⟨v, rfl, hown, hR, hc⟩
  obtain ⟨A, c, rfl, hlc, hcm, hcl⟩ := hown.parts
  have HL : Hid (num r n = bigN (if n ≤ r.length then r.take n else []) ∧ (if n ≤ r.length then r.take n else []).length ≤ 5 ∧ Oct (if n ≤ r.length then r.take n else [])) := Lib.hid (by
    unfold num
    by_cases hlt : r.length < n
    · rw [if_pos hlt, if_neg (by omega)]; exact ⟨rfl, by simp, Oct.nil⟩
    · rw [if_neg hlt, if_pos (by omega)]; exact ⟨rfl, by simp; omega, ho.take n⟩)
  have HR := Lib.hid hR
  have HCH := Lib.hid hc
  generalize (if n ≤ r.length then r.take n else []) = l at *
  generalize decide (n ≤ r.length) = ok at *
  have hl5 := HL.out.2.1
  have hol := HL.out.2.2
  clear hown hR hc HC
  go_wp2
  go_loop [5, 18] (fun x i => ∃ k : Nat, k ≤ l.length ∧ i = .int .i64 k ∧ x = .int .i64 (bigN (l.take k))) (fun _ i => l.length - (intOf i).toNat)
  case atStart => exact ⟨0, Nat.zero_le _, rfl, rfl⟩
  case round =>
    obtain ⟨k, hk, rfl, rfl⟩ := hrel
    by_cases hlt : k < l.length
    · obtain ⟨b, o, rfl, hb, hcell⟩ := hcl.u8 hlt
      have hbd := bigN_bound (hol.take k)
      have hpw := pow_le_42 (l.take k).length (by simp; omega)
      have hoct := hol.at_ (List.getElem?_eq_getElem hlt)
      have hx1 : bigN (l.take k) < 1099511627776 := by omega
      have hx0 := hbd.1
      have HS : Hid (bigN (l.take (k + 1)) = bigN (l.take k) * 256 + l[k]) := Lib.hid (by rw [take_snoc l k hlt, bigN_snoc])
      have HOR := Lib.hid (shl_or64 (bigN (l.take k)) l[k] hx0 (by omega) hoct.1 hoct.2)
      clear hbd hpw
      generalize bigN (l.take k) = x at *
      generalize l[k] = d at *
      have hkI : (k : Int) < (l.length : Int) := by omega
      go_wp2
      go_round
      case rel => exact ⟨k + 1, by omega, by go_num, by rw [HOR.out, HS.out]⟩
      case measure => simp [intOf]; omega
    · have HE : Hid (num r n = bigN (l.take k)) := Lib.hid (by rw [HL.out.1, List.take_of_length_le (by omega)])
      generalize bigN (l.take k) = x at *
      go_wp2
      go_ret
      exact ⟨ret_int HE.out.symm, HR.out, HCH.out⟩
end Go.Proofs.Ytbngcinhjoigaaa
