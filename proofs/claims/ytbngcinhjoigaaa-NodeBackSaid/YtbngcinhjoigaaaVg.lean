/-
  Which nodes are formed but for their size: node.shaped and munimentref09.Shaped.
-/
import Derived.Test.YtbngcinhjoigaaaVc
set_option linter.unusedVariables false
namespace Go.Proofs.Ytbngcinhjoigaaa
open Go.RowKit

def KeyOK (ks : List (List Int)) (i : Nat) : Prop := 1 ≤ (ks.getD i []).length ∧ (ks.getD i []).length ≤ 240 ∧ (0 < i → lessB (ks.getD (i - 1) []) (ks.getD i []) = true)
def KeysOK (ks : List (List Int)) : Prop := ∀ i, i < ks.length → KeyOK ks i
def KidsOK (is : List Int) : Prop := ∀ x ∈ is, 0 ≤ x ∧ x ≤ 2147483647
def ShapedP (lf : Bool) (ks vs : List (List Int)) (is : List Int) : Prop :=
  KeysOK ks ∧ LenLe vs 260 ∧ KidsOK is ∧ (if lf = true then vs.length = ks.length ∧ is.length = 0 else vs.length = 0 ∧ is.length = ks.length + 1)
instance (ks : List (List Int)) (i : Nat) : Decidable (KeyOK ks i) := by unfold KeyOK; infer_instance
instance (ks : List (List Int)) : Decidable (KeysOK ks) := by unfold KeysOK; infer_instance
instance (is : List Int) : Decidable (KidsOK is) := by unfold KidsOK; infer_instance
instance (lf : Bool) (ks vs : List (List Int)) (is : List Int) : Decidable (ShapedP lf ks vs is) := by unfold ShapedP; infer_instance
def shB (lf : Bool) (ks vs : List (List Int)) (is : List Int) : Bool := decide (ShapedP lf ks vs is)
theorem LenLe.nil' {ls : List (List Int)} {n : Nat} (h : ls.length = 0) : LenLe ls n := by rw [List.eq_nil_of_length_eq_zero h]; intro l hl; cases hl
theorem KidsOK.nil' {is : List Int} (h : is.length = 0) : KidsOK is := by rw [List.eq_nil_of_length_eq_zero h]; intro l hl; cases hl
theorem KidsOK.step {is : List Int} {k : Nat} (h : ∀ j (hj : j < is.length), j < k → 0 ≤ is[j] ∧ is[j] ≤ 2147483647) (hk : is.length ≤ k) : KidsOK is := fun x hx => by
  obtain ⟨j, hj, rfl⟩ := List.getElem_of_mem hx
  exact h j hj (by omega)
theorem KidsOK.at_ {is : List Int} (h : KidsOK is) {k : Nat} (hk : k < is.length) : 0 ≤ is[k] ∧ is[k] ≤ 2147483647 := h _ (List.getElem_mem hk)
theorem KeysOK.step {ks : List (List Int)} {k : Nat} (h : ∀ j, j < k → KeyOK ks j) (hk : ks.length ≤ k) : KeysOK ks := fun i hi => h i (by omega)

def IdxRes (p : Prop) (w : World) (e : Ending) (w' : World) : Prop := ∃ x : Int, e = .returned (.int .i64 x) ∧ ((x = -1 ∧ p) ∨ (0 ≤ x ∧ ¬ p)) ∧ w = w'

set_option maxHeartbeats 2000000 in
theorem indexR_any (A : Option Addr) (ls : List (List Int)) (c : Nat) (w : World) (h : RowsC w A ls) (hl : ls.length ≤ 10000000) :
    Calls Try.prog 46 #[.slice A ls.length c, .func (.func 43) #[] #[]] w (IdxRes (LenLe ls 260) w) := by
  go_enter Try.func46, Try.ntmps46
  go_wp2
  go_loopw [8] (fun i wr => ∃ k : Nat, i = .int .i64 k ∧ k ≤ ls.length ∧ (∀ j (hj : j < ls.length), j < k → (ls[j]).length ≤ 260) ∧ wr = w)
    (fun i _ => ls.length - (intOf i).toNat)
  case atStart => exact ⟨0, rfl, Nat.zero_le _, fun j hj h => absurd h (by omega), rfl⟩
  case round =>
    obtain ⟨k, rfl, hk, hall, rfl⟩ := hrel
    by_cases hlt : k < ls.length
    · have hkI : (k : Int) < (ls.length : Int) := by omega
      obtain ⟨b, off, A', c', rfl, hb, hc, _⟩ := h k hlt
      by_cases hle : (ls[k]).length ≤ 260
      · have HALL : Hid (∀ j (hj : j < ls.length), j < k + 1 → (ls[j]).length ≤ 260) := Lib.hid fun j hj h => by
          rcases Nat.lt_or_ge j k with h1 | h1
          · exact hall j hj h1
          · obtain rfl : j = k := by omega
            exact hle
        clear hall
        generalize (ls[k]).length = m at *
        go_wp2
        go_roundw
        case rel => exact ⟨k + 1, by go_num, by omega, HALL.out, trivial⟩
        case measure => simp [intOf]; omega
      · have HN : Hid (¬ LenLe ls 260) := Lib.hid fun hh => hle (hh.at_ hlt)
        clear hall
        generalize (ls[k]).length = m at *
        go_wp2
        go_ret
        exact ⟨k, rfl, .inr ⟨by omega, HN.out⟩, rfl⟩
    · have HK : Hid (LenLe ls 260) := Lib.hid (LenLe.step hall (by omega))
      clear hall
      go_wp2
      go_ret
      exact ⟨-1, rfl, .inl ⟨rfl, HK.out⟩, rfl⟩
set_option maxHeartbeats 2000000 in
theorem indexI_any (A : Option Addr) (is : List Int) (c : Nat) (w : World) (h : Cells w w.heap.size A (I8 is)) (hl : is.length ≤ 10000000) :
    Calls Try.prog 47 #[.slice A is.length c, .func (.func 45) #[] #[]] w (IdxRes (KidsOK is) w) := by
  go_enter Try.func47, Try.ntmps47
  go_wp2
  go_loopw [8] (fun i wr => ∃ k : Nat, i = .int .i64 k ∧ k ≤ is.length ∧ (∀ j (hj : j < is.length), j < k → 0 ≤ is[j] ∧ is[j] ≤ 2147483647) ∧ wr = w)
    (fun i _ => is.length - (intOf i).toNat)
  case atStart => exact ⟨0, rfl, Nat.zero_le _, fun j hj h => absurd h (by omega), rfl⟩
  case round =>
    obtain ⟨k, rfl, hk, hall, rfl⟩ := hrel
    by_cases hlt : k < is.length
    · have hkI : (k : Int) < (is.length : Int) := by omega
      obtain ⟨b, off, rfl, hb, hc⟩ := h.i8 hlt
      by_cases hle : 0 ≤ is[k] ∧ is[k] ≤ 2147483647
      · have HALL : Hid (∀ j (hj : j < is.length), j < k + 1 → 0 ≤ is[j] ∧ is[j] ≤ 2147483647) := Lib.hid fun j hj h => by
          rcases Nat.lt_or_ge j k with h1 | h1
          · exact hall j hj h1
          · obtain rfl : j = k := by omega
            exact hle
        clear hall
        obtain ⟨h1, h2⟩ := hle
        generalize is[k] = m at *
        have g1 : ¬ m < 0 := by omega
        have g2 : ¬ 2147483647 < m := by omega
        go_wp2
        go_roundw
        case rel => exact ⟨k + 1, by go_num, by omega, HALL.out, trivial⟩
        case measure => simp [intOf]; omega
      · have HN : Hid (¬ KidsOK is) := Lib.hid fun hh => hle (hh.at_ hlt)
        have hcs : is[k] < 0 ∨ (0 ≤ is[k] ∧ 2147483647 < is[k]) := by omega
        clear hall hle
        generalize is[k] = m at *
        rcases hcs with h1 | ⟨h1, h2⟩
        · go_wp2
          go_ret
          exact ⟨k, rfl, .inr ⟨by omega, HN.out⟩, rfl⟩
        · have g1 : ¬ m < 0 := by omega
          go_wp2
          go_ret
          exact ⟨k, rfl, .inr ⟨by omega, HN.out⟩, rfl⟩
    · have HK : Hid (KidsOK is) := Lib.hid (KidsOK.step hall (by omega))
      clear hall
      go_wp2
      go_ret
      exact ⟨-1, rfl, .inl ⟨rfl, HK.out⟩, rfl⟩
set_option maxHeartbeats 1000000 in
theorem containsR_any (A : Option Addr) (ls : List (List Int)) (c : Nat) (w : World) (h : RowsC w A ls) (hl : ls.length ≤ 10000000) :
    Calls Try.prog 42 #[.slice A ls.length c, .func (.func 43) #[] #[]] w fun e w' => e = .returned (.bool (!decide (LenLe ls 260))) ∧ w = w' := by
  have HI := Lib.hid (indexR_any A ls c w h hl)
  go_enter Try.func42, Try.ntmps42
  go_wp2_with fail
  refine HI.out.mono ?_
  rintro e w1 ⟨x, rfl, hx, rfl⟩
  rcases hx with ⟨rfl, hp⟩ | ⟨h0, hp⟩
  · have HP := Lib.hid hp
    clear hp
    go_wp2
    go_ret
    exact ⟨ret_bool (by rw [decide_eq_true HP.out]; rfl), rfl⟩
  · have HP := Lib.hid hp
    clear hp
    go_wp2
    go_ret
    exact ⟨ret_bool (by rw [decide_eq_false HP.out]; rfl), rfl⟩
set_option maxHeartbeats 1000000 in
theorem containsI_any (A : Option Addr) (is : List Int) (c : Nat) (w : World) (h : Cells w w.heap.size A (I8 is)) (hl : is.length ≤ 10000000) :
    Calls Try.prog 44 #[.slice A is.length c, .func (.func 45) #[] #[]] w fun e w' => e = .returned (.bool (!decide (KidsOK is))) ∧ w = w' := by
  have HI := Lib.hid (indexI_any A is c w h hl)
  go_enter Try.func44, Try.ntmps44
  go_wp2_with fail
  refine HI.out.mono ?_
  rintro e w1 ⟨x, rfl, hx, rfl⟩
  rcases hx with ⟨rfl, hp⟩ | ⟨h0, hp⟩
  · have HP := Lib.hid hp
    clear hp
    go_wp2
    go_ret
    exact ⟨ret_bool (by rw [decide_eq_true HP.out]; rfl), rfl⟩
  · have HP := Lib.hid hp
    clear hp
    go_wp2
    go_ret
    exact ⟨ret_bool (by rw [decide_eq_false HP.out]; rfl), rfl⟩
end Go.Proofs.Ytbngcinhjoigaaa
