/-
  Plain words for node.Find; the contracts of its closure, of slices.IsSortedFunc and of sort.Search.
-/
import Derived.Test.YtbngcinhjoigaaaVb
set_option linter.unusedVariables false
namespace Go.Proofs.Ytbngcinhjoigaaa
open Go.RowKit

/-- What stands behind what is not greater. -/
theorem lessB_le {a b c : List Int} (h : lessB b a = false) (h2 : lessB b c = true) : lessB a c = true := by
  induction a generalizing b c with
  | nil =>
    rcases c with _ | ⟨z, u⟩
    · rw [lessB_nil] at h2; cases h2
    · rfl
  | cons x r ih =>
    rcases b with _ | ⟨y, s⟩
    · cases h
    · rcases c with _ | ⟨z, u⟩
      · cases h2
      · by_cases e : y = x
        · subst e
          simp only [lessB, if_true] at h
          by_cases e2 : y = z
          · subst e2
            simp only [lessB, if_true] at h2 ⊢
            exact ih h h2
          · simp only [lessB, if_neg e2] at h2 ⊢
            exact h2
        · simp only [lessB, if_neg e, decide_eq_false_iff_not] at h
          by_cases e2 : y = z
          · subst e2
            have e' : ¬ x = y := fun k => e k.symm
            simp only [lessB, if_neg e', decide_eq_true_eq]
            omega
          · simp only [lessB, if_neg e2, decide_eq_true_eq] at h2
            have e' : ¬ x = z := by omega
            simp only [lessB, if_neg e', decide_eq_true_eq]
            omega

/-- How many keys are less. -/
def cntTo (ks : List (List Int)) (key : List Int) : Nat → Nat
  | 0 => 0
  | k + 1 => cntTo ks key k + if lessB (ks.getD k []) key = true then 1 else 0
theorem cntTo_le (ks : List (List Int)) (key : List Int) : ∀ k, cntTo ks key k ≤ k
  | 0 => Nat.le_refl _
  | k + 1 => by have := cntTo_le ks key k; rw [cntTo]; split <;> omega
def SortedTo (ks : List (List Int)) : Prop := ∀ i, i + 1 < ks.length → lessB (ks.getD (i + 1) []) (ks.getD i []) = false
theorem SortedTo.less {ks : List (List Int)} (h : SortedTo ks) {key : List Int} : ∀ {j : Nat}, j < ks.length → lessB (ks.getD j []) key = true → ∀ i, i ≤ j → lessB (ks.getD i []) key = true
  | 0, _, hl, i, hi => by obtain rfl : i = 0 := (by omega); exact hl
  | j + 1, hj, hl, i, hi => by
    rcases Nat.lt_or_ge i (j + 1) with h1 | h1
    · exact h.less (by omega) (lessB_le (h j hj) hl) i (by omega)
    · obtain rfl : i = j + 1 := by omega
      exact hl
theorem cntTo_all {ks : List (List Int)} {key : List Int} : ∀ {k : Nat}, (∀ i, i < k → lessB (ks.getD i []) key = true) → cntTo ks key k = k
  | 0, _ => rfl
  | k + 1, h => by rw [cntTo, cntTo_all (fun i hi => h i (by omega)), if_pos (h k (by omega))]
theorem cntTo_rest {ks : List (List Int)} {key : List Int} {i : Nat} : ∀ {k : Nat}, i ≤ k → (∀ j, i ≤ j → j < k → lessB (ks.getD j []) key = false) → cntTo ks key k = cntTo ks key i
  | 0, h, _ => by obtain rfl : i = 0 := (by omega); rfl
  | k + 1, h, hf => by
    rcases Nat.lt_or_ge i (k + 1) with h1 | h1
    · rw [cntTo, cntTo_rest (by omega) (fun j h1 h2 => hf j h1 (by omega)), hf k (by omega) (by omega)]
      simp
    · obtain rfl : i = k + 1 := by omega
      rfl
theorem cmpB_cases (a b : List Int) : (lessB a b = true ∧ cmpB a b = -1) ∨ (lessB a b = false ∧ lessB b a = true ∧ cmpB a b = 1) ∨ (lessB a b = false ∧ lessB b a = false ∧ cmpB a b = 0) := by
  unfold cmpB
  cases lessB a b <;> cases lessB b a <;> simp

/-- A key of a node that lies in a box. -/
def BoxN (w : World) (g : Nat) (lf : Bool) (Ak : Option Addr) (nk ck : Nat) (Av : Option Addr) (nv cv : Nat) (Ai : Option Addr) (ni ci : Nat) : Prop := Four w g (.bool lf) (.slice Ak nk ck) (.slice Av nv cv) (.slice Ai ni ci)

set_option maxHeartbeats 2000000 in
/-- The closure of Find: is a key not less? -/
theorem find1_any (i g g2 : Nat) (lf : Bool) (Ak : Option Addr) (ks : List (List Int)) (ck : Nat) (Av : Option Addr) (nv cv : Nat) (Ai : Option Addr) (ni ci : Nat) (A2 : Option Addr) (key : List Int) (c2 : Nat) (w : World) (hF : Four w g (.bool lf) (.slice Ak ks.length ck) (.slice Av nv cv) (.slice Ai ni ci)) (hG : w.cell? ⟨g2, 0, none⟩ = some (.slice A2 key.length c2)) (hg : g < w.heap.size) (hg2 : g2 < w.heap.size) (hK : RowsC w Ak ks) (hC : Cells w w.heap.size A2 (U8 key)) (hO : Oct key) (hi : i < ks.length) :
    Calls Try.prog 23 #[.int .i64 i, .pointer (some ⟨g, 0, none⟩), .pointer (some ⟨g2, 0, none⟩)] w fun e w' => e = .returned (.bool (!lessB (ks.getD i []) key)) ∧ Below w.heap.size w w' := by
  obtain ⟨b, off, A', c, rfl, hb, hc, hcl, hoc, _⟩ := hK i hi
  rw [getD_at hi]
  generalize ks[i] = x at *
  obtain ⟨c0, c1, c3, c4⟩ := hF
  have hiI : (i : Int) < (ks.length : Int) := by omega
  have HB : Hid (∀ n, Calls Try.prog 20 #[.slice A' x.length c, .slice A2 key.length c2] (w.drewN n) fun e w'' => e = .returned (.int .i64 (cmpB x key)) ∧ w'' = w.drewN n) := Lib.hid fun n =>
    (bytes_compare A' A2 x key c c2 _ (hcl.drewN n) (hC.drewN n) hoc hO).mono fun _ _ ⟨h1, h2⟩ => ⟨h1, h2.symm⟩
  rcases cmpB_cases x key with ⟨e1, e2⟩ | ⟨e1, _, e2⟩ | ⟨e1, _, e2⟩
  all_goals
    rw [e2] at HB
    rw [e1]
    clear e1 e2
    go_enter Try.func23, Try.ntmps23
    go_wp2
    go_quiet (first | (go_at_call 20; exact Calls.quiet_of_same (HB.out _)))
    go_wp2
    go_ret
    exact ⟨rfl, below_drewN (Below.refl _ _) _⟩

def SortRes (ks : List (List Int)) (w : World) (e : Ending) (w' : World) : Prop := ∃ r : Bool, e = .returned (.bool r) ∧ (r = true → SortedTo ks) ∧ Below w.heap.size w w'
def SearchRes (n : Nat) (P : Nat → Bool) (w : World) (e : Ending) (w' : World) : Prop := ∃ i : Nat, e = .returned (.int .i64 i) ∧ i ≤ n ∧ (∀ t, t < i → P t = true) ∧ (∀ t, i ≤ t → t < n → P t = false) ∧ Below w.heap.size w w'
set_option maxHeartbeats 2000000 in
/-- Do keys rise? (told so that true says it.) -/
theorem sorted_any (Ak : Option Addr) (ks : List (List Int)) (ck : Nat) (w : World) (hK : RowsC w Ak ks) (hl : ks.length ≤ 1000000) :
    Calls Try.prog 19 #[.slice Ak ks.length ck, .func (.func 20) #[] #[]] w (SortRes ks w) := by
  go_enter Try.func19, Try.ntmps19
  go_wp2
  go_loopw [5] (fun i wr => ∃ (x : Int) (n : Nat), i = .int .i64 x ∧ -1 ≤ x ∧ x < (ks.length : Int) ∧ (∀ j : Nat, x ≤ (j : Int) → j + 1 < ks.length → lessB (ks.getD (j + 1) []) (ks.getD j []) = false) ∧ Hid (wr = w.drewN n))
    (fun i _ => (intOf i + 1).toNat)
  case atStart => exact ⟨(ks.length : Int) - 1, 0, rfl, by omega, by omega, fun j h1 h2 => absurd h2 (by omega), Lib.hid rfl⟩
  case round =>
    obtain ⟨x, n, rfl, hx0, hx1, hall, HW⟩ := hrel
    have HALL := Lib.hid hall
    clear hall
    by_cases hp : 0 < x
    · obtain ⟨q, rfl⟩ : ∃ q : Nat, x = (q : Int) := ⟨x.toNat, by omega⟩
      obtain ⟨k, hqk⟩ : ∃ k : Nat, q = k + 1 := ⟨q - 1, by omega⟩
      have hk1 : q < ks.length := by omega
      obtain ⟨b, off, A', c, rfl, hb, hc, hcl, hoc, _⟩ := hK q hk1
      have hk0 : k < ks.length := by omega
      obtain ⟨b2, off2, A2, c2, e, hb2, hc2, hcl2, hoc2, _⟩ := hK k hk0
      injection e with e
      injection e with e1 e2
      subst e1 e2
      have hi : (q : Int) < (ks.length : Int) := by omega
      have hi2 : (k : Int) < (ks.length : Int) := by omega
      have hws : IntKind.i64.wrap ((q : Int) - 1) = (k : Int) := by rw [IntKind.wrap_i64]; omega
      have HG : Hid (ks.getD (k + 1) [] = ks[q] ∧ ks.getD k [] = ks[k]) := Lib.hid ⟨by subst hqk; exact getD_at hk1, getD_at hk0⟩
      have HQK := Lib.hid hqk
      clear hqk
      generalize ks[q] = y at *
      generalize ks[k] = z at *
      have hcl' : Cells wr wr.heap.size A' (U8 y) := by rw [HW.out]; exact hcl
      have hcl2' : Cells wr wr.heap.size A2 (U8 z) := by rw [HW.out]; exact hcl2
      have hd : wr.cell? ⟨b, off + q, none⟩ = some (.slice A' y.length c) := by rw [HW.out]; exact hc
      have hd2 : wr.cell? ⟨b, off + k, none⟩ = some (.slice A2 z.length c2) := by rw [HW.out]; exact hc2
      have HB : Hid (∀ m, Calls Try.prog 20 #[.slice A' y.length c, .slice A2 z.length c2] (wr.drewN m) fun e w'' => e = .returned (.int .i64 (cmpB y z)) ∧ w'' = wr.drewN m) := Lib.hid fun m =>
        (bytes_compare A' A2 y z c c2 _ (hcl'.drewN m) (hcl2'.drewN m) hoc hoc2).mono fun _ _ ⟨h1, h2⟩ => ⟨h1, h2.symm⟩
      have hcs : (cmpB y z = -1) ∨ (lessB y z = false ∧ cmpB y z = 1) ∨ (lessB y z = false ∧ cmpB y z = 0) := by
        rcases cmpB_cases y z with ⟨e1, e2⟩ | ⟨e1, _, e2⟩ | ⟨e1, _, e2⟩
        · exact .inl e2
        · exact .inr (.inl ⟨e1, e2⟩)
        · exact .inr (.inr ⟨e1, e2⟩)
      rcases hcs with e2 | ⟨e1, e2⟩ | ⟨e1, e2⟩
      · rw [e2] at HB
        clear e2
        go_wp2
        go_quiet (first | (go_at_call 20; exact Calls.quiet_of_same (HB.out _)))
        clear hws
        go_wp2
        go_ret
        exact ⟨false, rfl, (fun h => by cases h), below_drewN (by rw [HW.out]; exact below_drewN (Below.refl _ _) _) _⟩
      · rw [e2] at HB
        have HL := Lib.hid e1
        clear e1 e2
        go_wp2
        go_quiet (first | (go_at_call 20; exact Calls.quiet_of_same (HB.out _)))
        clear hws
        go_wp2
        go_roundw
        case rel => exact ⟨k, _, by have := HQK.out; go_num, by omega, by have := HQK.out; omega, fun j h1 h2 => by
          have := HQK.out
          rcases Nat.lt_or_ge k j with h3 | h3
          · exact HALL.out j (by omega) h2
          · obtain rfl : j = k := by omega
            rw [HG.out.1, HG.out.2]
            exact HL.out, Lib.hid (by rw [HW.out]; exact World.drewN_drewN _ _ _)⟩
        case measure => have := HQK.out; simp [intOf] <;> omega
      · rw [e2] at HB
        have HL := Lib.hid e1
        clear e1 e2
        go_wp2
        go_quiet (first | (go_at_call 20; exact Calls.quiet_of_same (HB.out _)))
        clear hws
        go_wp2
        go_roundw
        case rel => exact ⟨k, _, by have := HQK.out; go_num, by omega, by have := HQK.out; omega, fun j h1 h2 => by
          have := HQK.out
          rcases Nat.lt_or_ge k j with h3 | h3
          · exact HALL.out j (by omega) h2
          · obtain rfl : j = k := by omega
            rw [HG.out.1, HG.out.2]
            exact HL.out, Lib.hid (by rw [HW.out]; exact World.drewN_drewN _ _ _)⟩
        case measure => have := HQK.out; simp [intOf] <;> omega
    · go_wp2
      go_ret
      exact ⟨true, rfl, fun _ j h => HALL.out j (by omega) h, by rw [HW.out]; exact below_drewN (Below.refl _ _) _⟩

set_option maxRecDepth 8000 in
set_option maxHeartbeats 2000000 in
theorem search_any (n : Nat) (P : Nat → Bool) (g g2 : Nat) (w : World) (hn : n ≤ 1000000) (hM : ∀ j, j < n → P j = true → ∀ i, i ≤ j → P i = true)
    (hf : ∀ (t : Nat) (w' : World), t < n → Below w.heap.size w w' → Calls Try.prog 23 #[.int .i64 t, .pointer (some ⟨g, 0, none⟩), .pointer (some ⟨g2, 0, none⟩)] w' fun e w'' => e = .returned (.bool (!P t)) ∧ Below w'.heap.size w' w'') :
    Calls Try.prog 22 #[.int .i64 n, .func (.func 23) #[] #[.pointer (some ⟨g, 0, none⟩), .pointer (some ⟨g2, 0, none⟩)]] w (SearchRes n P w) := by
  have HM := Lib.hid hM
  have HF := Lib.hid hf
  clear hM hf
  go_enter Try.func22, Try.ntmps22
  go_wp2
  go_loopw [5, 6] (fun a b wr => ∃ i j : Nat, a = .int .i64 i ∧ b = .int .i64 j ∧ i ≤ j ∧ j ≤ n ∧ (∀ t, t < i → P t = true) ∧ (∀ t, j ≤ t → t < n → P t = false) ∧ Below w.heap.size w wr)
    (fun a b _ => (intOf b - intOf a).toNat)
  case atStart => exact ⟨0, n, rfl, rfl, Nat.zero_le _, Nat.le_refl _, fun t h => absurd h (by omega), fun t h1 h2 => absurd h2 (by omega), Below.refl _ _⟩
  case round =>
    obtain ⟨i, j, rfl, rfl, hij, hjn, h1, h2, hB⟩ := hrel
    have H1 := Lib.hid h1
    have H2 := Lib.hid h2
    clear h1 h2
    by_cases hlt : i < j
    · have hI : (i : Int) < (j : Int) := by omega
      obtain ⟨m, hm⟩ : ∃ m : Nat, m = (i + j) / 2 := ⟨_, rfl⟩
      have HMI : Hid (((i : Int) + (j : Int)) / 2 = (m : Int)) := Lib.hid (by omega)
      have HMM := Lib.hid hm
      clear hm
      have hmn : m < n := by have := HMM.out; omega
      have HC := Lib.hid (HF.out m wr hmn hB)
      cases hp : P m with
      | true =>
        have HP : Hid (∀ t, t < m + 1 → P t = true) := Lib.hid fun t ht => HM.out m hmn hp t (by omega)
        rw [hp] at HC
        clear hp
        go_wp2_with fail
        rw [HMI.out]
        refine HC.out.mono ?_
        rintro e w2 ⟨rfl, hb2⟩
        go_wp2
        go_roundw
        case rel => exact ⟨m + 1, j, by go_num, rfl, by have := HMM.out; omega, hjn, HP.out, H2.out, hB.trans (hb2.mono hB.size)⟩
        case measure => have := HMM.out; simp [intOf]; omega
      | false =>
        have HP : Hid (∀ t, m ≤ t → t < n → P t = false) := Lib.hid fun t h1 h2 => by
          cases ht : P t with
          | false => rfl
          | true => have := HM.out t h2 ht m h1; rw [hp] at this; cases this
        rw [hp] at HC
        clear hp
        go_wp2_with fail
        rw [HMI.out]
        refine HC.out.mono ?_
        rintro e w2 ⟨rfl, hb2⟩
        go_wp2
        go_roundw
        case rel => exact ⟨i, m, rfl, rfl, by have := HMM.out; omega, by omega, H1.out, HP.out, hB.trans (hb2.mono hB.size)⟩
        case measure => have := HMM.out; simp [intOf]; omega
    · obtain rfl : i = j := by omega
      go_wp2
      go_ret
      exact ⟨i, rfl, hjn, H1.out, H2.out, hB⟩
end Go.Proofs.Ytbngcinhjoigaaa
