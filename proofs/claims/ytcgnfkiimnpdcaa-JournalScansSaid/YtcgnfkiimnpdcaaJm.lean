/-
  The contracts of munimentlaw07.record and munimentref07.Front.
-/
import Derived.Test.YtcgnfkiimnpdcaaJl
import Derived.Test.YtcgnfkiimnpdcaaJi
set_option linter.unusedVariables false
namespace Go.Proofs.Ytcgnfkiimnpdcaa
open Go.RowKit

/-- What record answers: some bytes, not too many. -/
def RecB (w : World) (e : Ending) (w' : World) : Prop := ∃ A b c, e = .returned (.slice A b.length c) ∧ Own w' w.heap.size (.slice A b.length c) b ∧ Oct b ∧ b.length ≤ 9000 ∧ Below w.heap.size w w'
set_option maxHeartbeats 4000000 in
theorem recb_any (kd n : Int) (A : Option Addr) (l : List Int) (c : Nat) (w : World) (hc : Cells w w.heap.size A (U8 l)) (ho : Oct l) (hl : l.length ≤ 9000) :
    Calls Try.prog 35 #[.agg #[.int .i64 kd, .int .i64 n, .slice A l.length c]] w (RecB w) := by
  go_enter Try.func35, Try.ntmps35
  go_wp2
  go_loopw [3, 4] (fun vb vi wr => ∃ (k : Nat) (Ab : Option Addr) (b : List Int) (cb : Nat), vi = .int .i64 k ∧ k ≤ 60 ∧ vb = .slice Ab b.length cb ∧ Own wr w.heap.size vb b ∧ Oct b ∧ b.length ≤ 9000 ∧ Below w.heap.size w wr ∧ Blk wr w.heap.size 75 #[.int .i64 kd, .int .i64 n, .slice A l.length c]) (fun _ vi _ => 60 - (intOf vi).toNat)
  case atStart => exact ⟨0, none, [], 0, rfl, by omega, rfl, Own.nil _ _, Oct.nil, by simp, (Below.refl _ _).alloc (Nat.le_refl _) _, Blk.new _ _ _⟩
  case round =>
    obtain ⟨k, Ab, b, cb, rfl, hk, rfl, hown, hob, hbl, hB, hblk⟩ := hrel
    have c1 : wr.cell? ⟨w.heap.size, 1, none⟩ = some (.int .i64 n) := hblk.cell 1
    have c2 : wr.cell? ⟨w.heap.size, 2, none⟩ = some (.slice A l.length c) := hblk.cell 2
    have hs := hB.size
    by_cases h1 : (k : Int) < n
    · by_cases h2 : k < 60
      · have g2 : (k : Int) < 60 := by omega
        by_cases h3 : b.length + l.length ≤ 9000
        · have g3 : (b.length : Int) + (l.length : Int) ≤ 9000 := by omega
          have hcw := (hc.below hB).whole
          go_wp2_with (at_builtin; refine app_any rfl (.tmp 24) (.tmp 26) rfl w.heap.size _ b rfl hown wr.heap.size A c l rfl hcw (by omega) hs ?_; intro v5 w5 hown5 hg5)
          have hblk5 := hblk.grown hg5.by_ (hown.other hblk (by decide))
          have hB5 := hB.trans (hg5.below hown hs)
          obtain ⟨A5, c5, e5, _⟩ := hown5.shape
          subst e5
          go_roundw
          case rel => exact ⟨k + 1, A5, b ++ l, c5, by go_num, by omega, rfl, hown5, hob.app ho, by rw [List.length_append]; exact h3, hB5, hblk5⟩
          case measure => simp [intOf]; omega
        · have g3 : ¬ (b.length : Int) + (l.length : Int) ≤ 9000 := by omega
          go_wp2
          go_ret
          exact ⟨Ab, b, cb, rfl, hown, hob, hbl, hB⟩
      · have g2 : ¬ (k : Int) < 60 := by omega
        go_wp2
        go_ret
        exact ⟨Ab, b, cb, rfl, hown, hob, hbl, hB⟩
    · go_wp2
      go_ret
      exact ⟨Ab, b, cb, rfl, hown, hob, hbl, hB⟩

set_option maxHeartbeats 4000000 in
/-- A list begins with another: told. -/
theorem front_true (Aa Ab : Option Addr) (la lb : List (List Int)) (va vb : List Value) (ca cb : Nat) (w : World) (ha : Cells w w.heap.size Aa va) (hra : RowsV w va la) (hb : Cells w w.heap.size Ab vb) (hrb : RowsV w vb lb) (hpre : lb = la.take lb.length) (hlen : ∀ x ∈ lb, x.length ≤ 100000000) (hla : la.length ≤ 1000000) :
    Calls Try.prog 21 #[.slice Aa la.length ca, .slice Ab lb.length cb] w fun e w' => e = .returned (.bool true) ∧ Below w.heap.size w w' := by
  have hle : lb.length ≤ la.length := by
    have := congrArg List.length hpre
    rw [List.length_take] at this
    omega
  have hav := hra.len
  have hbv := hrb.len
  have hdd : decide (la.length < lb.length) = false := decide_eq_false (by omega)
  have HPRE := Lib.hid hpre
  have HAV := Lib.hid hav
  have HBV := Lib.hid hbv
  clear hpre hav hbv
  go_enter Try.func21, Try.ntmps21
  go_wp2
  go_loopw [5] (fun x wr => ∃ k : Nat, x = .int .i64 k ∧ k ≤ lb.length ∧ Below w.heap.size w wr) (fun x _ => lb.length - (intOf x).toNat)
  case atStart => exact ⟨0, rfl, by omega, Below.refl _ _⟩
  case round =>
    obtain ⟨k, rfl, hk, hB⟩ := hrel
    by_cases hlt : k < lb.length
    · have hka : k < la.length := by omega
      have eab : la[k] = lb[k] := by
        have h1 : lb[k]? = (la.take lb.length)[k]? := congrArg (fun l : List (List Int) => l[k]?) HPRE.out
        rw [List.getElem?_take, if_pos hlt, List.getElem?_eq_getElem hlt, List.getElem?_eq_getElem hka] at h1
        injection h1 with h1
        exact h1.symm
      have hra' := hra.at_ k (by rw [HAV.out]; exact hka) hka
      have hrb' := hrb.at_ k (by rw [HBV.out]; exact hlt) hlt
      have hxl := hlen _ (List.getElem_mem hlt)
      rw [eab] at hra'
      obtain ⟨ba, oa, eA, hba, hca⟩ := ha k _ (List.getElem?_eq_getElem (by rw [HAV.out]; exact hka))
      obtain ⟨bb, ob, eB, hbb, hcb⟩ := hb k _ (List.getElem?_eq_getElem (by rw [HBV.out]; exact hlt))
      obtain ⟨A1, c1, e1, hy1, _⟩ := hra'
      obtain ⟨A2, c2, e2, hy2, _⟩ := hrb'
      rw [e1] at hca
      rw [e2] at hcb
      obtain ⟨x, hx⟩ : ∃ x, lb[k] = x := ⟨_, rfl⟩
      rw [hx] at hca hcb hy1 hy2 hxl
      subst eA eB
      have HS : Hid (∀ w' : World, Below w.heap.size w w' → Calls Try.prog 32 #[.slice A1 x.length c1, .slice A2 x.length c2] w' fun e w'' => e = .returned (.bool true) ∧ Below w'.heap.size w' w'') := Lib.hid fun w' hb' => by
        have := same_b A1 A2 x x c1 c2 w' ((hy1.1.below hb').whole) ((hy2.1.below hb').whole) hxl
        rw [show sameB x x = true by unfold sameB; exact decide_eq_true rfl] at this
        exact this
      have y1 : wr.cell? ⟨ba, oa + k, none⟩ = some (.slice A1 x.length c1) := (hB.cell (p := ⟨ba, oa + k, none⟩) hba).trans hca
      have y2 : wr.cell? ⟨bb, ob + k, none⟩ = some (.slice A2 x.length c2) := (hB.cell (p := ⟨bb, ob + k, none⟩) hbb).trans hcb
      clear hca hcb hx eab e1 e2
      go_wp2
      go_region_held3 (fun w' => w'.cell? ⟨ba, oa + k, none⟩ = some (.slice A1 x.length c1) ∧ w'.cell? ⟨bb, ob + k, none⟩ = some (.slice A2 x.length c2)) (go_keep)
        (first | (go_at_call 32; refine (HS.out _ (by exact hB.drew)).mono ?_; rintro e w5 ⟨rfl, hb5⟩; have z1 : w5.cell? ⟨ba, oa + k, none⟩ = some (.slice A1 x.length c1) := (hb5.cell (p := ⟨ba, oa + k, none⟩) (by exact Nat.lt_of_lt_of_le hba hB.size)).trans y1; have z2 : w5.cell? ⟨bb, ob + k, none⟩ = some (.slice A2 x.length c2) := (hb5.cell (p := ⟨bb, ob + k, none⟩) (by exact Nat.lt_of_lt_of_le hbb hB.size)).trans y2))
      all_goals
        go_wp2
        go_roundw
        case rel => exact ⟨k + 1, by go_num, by omega, hB.drew.trans (hb5.mono hB.size)⟩
        case measure => simp [intOf]; omega
    · go_wp2
      go_ret
      exact ⟨rfl, hB⟩
end Go.Proofs.Ytcgnfkiimnpdcaa
