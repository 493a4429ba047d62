/-
  munimentlaw03.awake, few; OrderCompares: its walk.
-/
import Derived.Test.YtmobolefijneoaaDoorOd
set_option linter.unusedVariables false
namespace Go.Proofs.YtmobolefijneoaaDoor
open Go.RowKit

/-- A value of a kind, a number and a text, without members. -/
def leafV (k n : Int) (s : ByteArray) : LV := .mk k n s none [] 0 none [] 0
theorem leaf_at {k n : Int} {s : ByteArray} (w : World) (hk : 0 ≤ k ∧ k ≤ 6) (hn : -9223372036854775808 ≤ n ∧ n ≤ 9223372036854775807) (hs : s.size ≤ 9223372036854775807) : (leafV k n s).At w := by
  unfold leafV LV.At
  exact ⟨Cells.nil, Cells.nil, trivial, by omega, hn, hs, by simp, ⟨Nat.le_refl _, Nat.zero_le _⟩, ⟨Nat.le_refl _, Nat.zero_le _⟩⟩
theorem leaf_formed {k n : Int} {s : ByteArray} (hk : 0 ≤ k ∧ k ≤ 6) (hn : k ≠ 3 → n = 0) (hs : k ≠ 4 → s.toList = []) (ht : TextP s) : FormedP (leafV k n s).j 6 := by
  unfold leafV
  rw [LV.j, FormedP]
  exact ⟨by omega, ⟨hk.1, hk.2, hn, hs, ht, fun _ => ⟨rfl, rfl⟩, fun _ => ⟨Nat.zero_le _, fun _ => rfl, fun _ => rfl⟩⟩, fun i h => absurd h (by simp), trivial⟩
theorem text_empty : TextP ⟨#[]⟩ := ⟨by decide, by kernel_rfl⟩
theorem empty_list : (⟨#[]⟩ : ByteArray).toList = [] := by rw [ByteArray.toList_eq]
theorem cmpX_leaf {a b : JV} (ha : FormedP a 6) (hb : FormedP b 6) : cmpX a b = cmpJ a b := by rw [cmpX, if_pos ⟨ha, hb⟩]

set_option maxHeartbeats 2000000 in
theorem awake03_any (w : World) (hT : Tabs w) : Calls Tryd.prog 9 #[] w fun e w' => e = .returned (.bool true) ∧ Below w.heap.size w w' := by
  have HC : Hid (Calls Tryd.prog 11 #[.agg #[.int .i64 2, .int .i64 0, .string ⟨#[]⟩, .slice none 0 0, .slice none 0 0], .agg #[.int .i64 3, .int .i64 0, .string ⟨#[]⟩, .slice none 0 0, .slice none 0 0]] w fun e w' => e = .returned (.int .i64 (-1)) ∧ Below w.heap.size w w') := Lib.hid (by
    have h := oCompare_any (leafV 2 0 ⟨#[]⟩) (leafV 3 0 ⟨#[]⟩) w hT (leaf_at w (by omega) (by omega) (by decide)) (leaf_at w (by omega) (by omega) (by decide))
    rw [cmpX_leaf (leaf_formed (by omega) (fun _ => rfl) (fun _ => empty_list) text_empty) (leaf_formed (by omega) (fun _ => rfl) (fun _ => empty_list) text_empty)] at h
    rw [show cmpJ (leafV 2 0 ⟨#[]⟩).j (leafV 3 0 ⟨#[]⟩).j = -1 from by unfold leafV; rw [LV.j, LV.j, cmpJ_kind (by omega)]; rfl] at h
    exact h)
  clear hT
  go_enter Tryd.func9, Tryd.ntmps9
  go_wp2_with fail
  refine HC.out.mono ?_
  rintro e w1 ⟨rfl, hb1⟩
  go_wp2
  go_ret
  exact ⟨rfl, hb1⟩

/-- A row of values. -/
def RowAt (w : World) (A : Option Addr) (is : List LV) (c : Nat) : Prop := (LV.mk 0 0 ⟨#[]⟩ none [] 0 A is c).At w
theorem RowAt.below {w w' : World} {A : Option Addr} {is : List LV} {c : Nat} (h : RowAt w A is c) (hb : Below w.heap.size w w') : RowAt w' A is c := LV.At.below hb _ h
theorem RowAt.mk {w : World} {A : Option Addr} {is : List LV} {c : Nat} (hc : Cells w w.heap.size A (is.flatMap LV.cells)) (ha : LV.AllAt w is) (hl : is.length ≤ c ∧ c ≤ 9223372036854775807) : RowAt w A is c := by
  unfold RowAt LV.At
  exact ⟨Cells.nil, hc, ha, by omega, by omega, by decide, by simp, ⟨Nat.le_refl _, Nat.zero_le _⟩, hl⟩
theorem RowAt.cap {w : World} {A : Option Addr} {is : List LV} {c : Nat} (h : RowAt w A is c) : is.length ≤ c ∧ c ≤ 9223372036854775807 := by
  unfold RowAt LV.At at h
  exact h.2.2.2.2.2.2.2.2

set_option maxHeartbeats 8000000 in
theorem few03_any (A : Option Addr) (is : List LV) (c : Nat) (w : World) (hR : RowAt w A is c) : Calls Tryd.prog 10 #[.slice A is.length c] w fun e w' => BoolRes e ∧ Below w.heap.size w w' := by
  have hcap := hR.cap
  have HR := Lib.hid hR
  clear hR
  go_enter Tryd.func10, Tryd.ntmps10
  go_wp2
  go_loopw [3, 4] (fun x i wr => ∃ a q : Nat, x = .int .i64 a ∧ i = .int .i64 q ∧ a ≤ 2000 ∧ q ≤ is.length ∧ Below w.heap.size w wr) (fun _ i _ => is.length - (RowKit.intOf i).toNat)
  case atStart => exact ⟨0, 0, rfl, rfl, Nat.zero_le _, Nat.zero_le _, Below.refl _ _⟩
  case round =>
    obtain ⟨a, q, rfl, rfl, ha, hq, hB⟩ := hrel
    by_cases hlt : q < is.length
    · have hqI : (q : Int) < (is.length : Int) := by omega
      by_cases h6 : a ≤ 600
      · have h6I : (a : Int) ≤ 600 := by omega
        obtain ⟨b, off, rfl, hb, hit, hcell⟩ := (HR.out.below hB).item hlt
        have HN := Lib.hid (rnodes_any is[q] wr hit)
        have HF : Hid (∀ w', Below wr.heap.size wr w' → Calls Tryd.prog 22 #[(is[q]).val] w' fun e w'' => BoolRes e ∧ Below w'.heap.size w' w'') := Lib.hid fun w' hb' => few_any _ _ w' (Nat.lt_succ_self _) (hit.below hb' _)
        obtain ⟨x, hx⟩ : ∃ x, is[q] = x := ⟨_, rfl⟩
        rw [hx] at HN HF hcell
        obtain ⟨k', n', s', An', ns', cn', Ai', is', ci'⟩ := x
        have d0 : wr.cell? ⟨b, off + q * 5, none⟩ = some (.int .i64 k') := hcell 0 _ rfl
        have d1 : wr.cell? ⟨b, off + q * 5 + 1, none⟩ = some (.int .i64 n') := hcell 1 _ rfl
        have d2 : wr.cell? ⟨b, off + q * 5 + 2, none⟩ = some (.string s') := hcell 2 _ rfl
        have d3 : wr.cell? ⟨b, off + q * 5 + 3, none⟩ = some (.slice An' ns'.length cn') := hcell 3 _ rfl
        have d4 : wr.cell? ⟨b, off + q * 5 + 4, none⟩ = some (.slice Ai' is'.length ci') := hcell 4 _ rfl
        clear hcell hx hit
        go_wp2_with fail
        refine HN.out.mono ?_
        rintro e w2 ⟨⟨n2, rfl, g1, g2⟩, hb2⟩
        obtain ⟨e0, e1, e2, e3, e4⟩ : w2.cell? ⟨b, off + q * 5, none⟩ = some (.int .i64 k') ∧ w2.cell? ⟨b, off + q * 5 + 1, none⟩ = some (.int .i64 n') ∧ w2.cell? ⟨b, off + q * 5 + 2, none⟩ = some (.string s') ∧ w2.cell? ⟨b, off + q * 5 + 3, none⟩ = some (.slice An' ns'.length cn') ∧ w2.cell? ⟨b, off + q * 5 + 4, none⟩ = some (.slice Ai' is'.length ci') := ⟨(hb2.cell (p := ⟨b, off + q * 5, none⟩) (by exact hb)).trans d0, (hb2.cell (p := ⟨b, off + q * 5 + 1, none⟩) (by exact hb)).trans d1, (hb2.cell (p := ⟨b, off + q * 5 + 2, none⟩) (by exact hb)).trans d2, (hb2.cell (p := ⟨b, off + q * 5 + 3, none⟩) (by exact hb)).trans d3, (hb2.cell (p := ⟨b, off + q * 5 + 4, none⟩) (by exact hb)).trans d4⟩
        clear d0 d1 d2 d3 d4
        go_wp2_with fail
        refine (HF.out w2 hb2).mono ?_
        rintro e w3 ⟨⟨bb, rfl⟩, hb3⟩
        have hB3 := hB.trans ((hb2.trans (hb3.mono hb2.size)).mono hB.size)
        clear e0 e1 e2 e3 e4
        cases bb with
        | false =>
          go_wp2
          go_ret
          exact ⟨⟨_, rfl⟩, hB3⟩
        | true =>
          go_wp2
          go_roundw
          case rel => exact ⟨a + n2, q + 1, by go_num, by go_num, by omega, by omega, hB3⟩
          case measure => simp [RowKit.intOf]; omega
      · have h6I : ¬ (a : Int) ≤ 600 := by omega
        go_wp2
        go_ret
        exact ⟨⟨_, rfl⟩, hB⟩
    · have hqI : ¬ (q : Int) < (is.length : Int) := by omega
      go_wp2
      go_ret
      exact ⟨⟨_, rfl⟩, hB⟩
end Go.Proofs.YtmobolefijneoaaDoor
