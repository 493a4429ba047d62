/-
  The contracts of node.Size, munimentref09.Size, munimentref09.Few; awake.
-/
import Derived.Test.YtbngcinhjoigaaaVa
set_option linter.unusedVariables false
namespace Go.Proofs.Ytbngcinhjoigaaa
open Go.RowKit

theorem Blk.third (w : World) (o1 o2 : Obj) (t : TypeId) (cs : Array Value) : Blk (((w.alloc o1).alloc o2).alloc (.cells cs t)) (w.heap.size + 2) t cs := by
  have := Blk.new ((w.alloc o1).alloc o2) t cs
  rwa [World.size_alloc, World.size_alloc] at this
theorem Blk.fourth (w : World) (o1 o2 o3 : Obj) (t : TypeId) (cs : Array Value) : Blk ((((w.alloc o1).alloc o2).alloc o3).alloc (.cells cs t)) (w.heap.size + 3) t cs := by
  have := Blk.new (((w.alloc o1).alloc o2).alloc o3) t cs
  rwa [World.size_alloc, World.size_alloc, World.size_alloc] at this
/-- A struct of four cells. -/
def Four (w : World) (g : Nat) (x y z u : Value) : Prop := w.cell? ⟨g, 0, none⟩ = some x ∧ w.cell? ⟨g, 1, none⟩ = some y ∧ w.cell? ⟨g, 2, none⟩ = some z ∧ w.cell? ⟨g, 3, none⟩ = some u
theorem Four.new (w : World) (x y z u : Value) (t : TypeId) : Four (w.alloc (.cells #[x, y, z, u] t)) w.heap.size x y z u := ⟨by simp, by simp, by simp, by simp⟩
theorem Four.below {w w' : World} {g B : Nat} {x y z u : Value} (h : Four w g x y z u) (hb : Below B w w') (hg : g < B) : Four w' g x y z u :=
  ⟨(hb.cell (p := ⟨g, 0, none⟩) hg).trans h.1, (hb.cell (p := ⟨g, 1, none⟩) hg).trans h.2.1, (hb.cell (p := ⟨g, 2, none⟩) hg).trans h.2.2.1, (hb.cell (p := ⟨g, 3, none⟩) hg).trans h.2.2.2⟩

def LenLe (ls : List (List Int)) (n : Nat) : Prop := ∀ l ∈ ls, l.length ≤ n
theorem LenLe.getD {ls : List (List Int)} {n : Nat} (h : LenLe ls n) (k : Nat) : (ls.getD k []).length ≤ n := by
  rcases Nat.lt_or_ge k ls.length with h1 | h1
  · rw [getD_at h1]; exact h _ (List.getElem_mem h1)
  · rw [getD_out h1]; exact Nat.zero_le _
theorem LenLe.at_ {ls : List (List Int)} {n : Nat} (h : LenLe ls n) {k : Nat} (hk : k < ls.length) : (ls[k]).length ≤ n := h _ (List.getElem_mem hk)
theorem LenLe.mono {ls : List (List Int)} {n m : Nat} (h : LenLe ls n) (hm : n ≤ m) : LenLe ls m := fun l hl => Nat.le_trans (h l hl) hm
theorem sizeTo_le {lf : Bool} {ks vs : List (List Int)} {n : Nat} (h1 : LenLe ks n) (h2 : LenLe vs n) : ∀ k, sizeTo lf ks vs k ≤ 7 + k * (5 + 2 * n)
  | 0 => by simp [sizeTo]; split <;> omega
  | k + 1 => by
    have ih := sizeTo_le (lf := lf) h1 h2 k
    have a := h1.getD k
    have b := h2.getD k
    have : entN lf ks vs k ≤ 5 + 2 * n := by unfold entN; split <;> omega
    rw [sizeTo, Nat.succ_mul]
    omega

set_option maxHeartbeats 2000000 in
theorem size_any (lf : Bool) (Ak : Option Addr) (ks : List (List Int)) (ck : Nat) (Av : Option Addr) (vs : List (List Int)) (cv : Nat) (Ai : Option Addr) (is : List Int) (ci : Nat) (w : World) (h : NodeAt w Ak ks ck Av vs cv Ai is ci) (h1 : LenLe ks 100000) (h2 : LenLe vs 100000) (h3 : ks.length ≤ 100000) (h4 : vs.length ≤ 1000000) :
    Calls Try.prog 18 #[nodeV lf Ak ks ck Av vs cv Ai is ci] w fun e w' => e = .returned (.int .i64 (sizeTo lf ks vs ks.length : Nat)) ∧ Below w.heap.size w w' := by
  have H0 : Hid (sizeTo lf ks vs 0 = if lf = true then 3 else 7) := Lib.hid rfl
  have HS : Hid (∀ k, sizeTo lf ks vs (k + 1) = sizeTo lf ks vs k + entN lf ks vs k) := Lib.hid (fun k => rfl)
  have HL := Lib.hid (sizeTo_le (lf := lf) h1 h2)
  have HC : Hid (∀ (k : Nat) (w' : World), Below w.heap.size w w' → k < ks.length → Calls Try.prog 35 #[.agg #[.bool lf, .slice Ak ks.length ck, .slice Av vs.length cv, .slice Ai is.length ci], .int .i64 k] w' fun e w'' => e = .returned (.int .i64 (entN lf ks vs k : Nat)) ∧ Below w'.heap.size w' w'') := Lib.hid fun k w' hb hk => entry_any lf Ak ks ck Av vs cv Ai is ci k w' (h.below hb) hk (h1.getD k) (h2.getD k) h3 h4
  have HE : Hid (∀ k, entN lf ks vs k ≤ 200005) := Lib.hid fun k => by have := h1.getD k; have := h2.getD k; unfold entN; split <;> omega
  generalize sizeTo lf ks vs = sz at *
  generalize entN lf ks vs = en at *
  have hF := Four.new w (.bool lf) (.slice Ak ks.length ck) (.slice Av vs.length cv) (.slice Ai is.length ci) 25
  have hB0 : Below w.heap.size w (w.alloc (.cells #[.bool lf, .slice Ak ks.length ck, .slice Av vs.length cv, .slice Ai is.length ci] 25)) := (Below.refl _ _).alloc (Nat.le_refl _) _
  have hwz : (w.alloc (.cells #[.bool lf, .slice Ak ks.length ck, .slice Av vs.length cv, .slice Ai is.length ci] 25)).heap.size = w.heap.size + 1 := by simp
  have HF := Lib.hid hF
  have HB0 := Lib.hid hB0
  have HWZ := Lib.hid hwz
  clear hF hB0 hwz h1 h2 h
  go_enter Try.func18, Try.ntmps18
  cases lf
  all_goals
    go_wp2
    go_loopw [3, 11] (fun s i wr => ∃ k : Nat, i = .int .i64 k ∧ k ≤ ks.length ∧ s = .int .i64 (sz k : Nat) ∧ Below (w.heap.size + 1) (w.alloc (.cells #[.bool _, .slice Ak ks.length ck, .slice Av vs.length cv, .slice Ai is.length ci] 25)) wr)
      (fun _ i _ => ks.length - (intOf i).toNat)
    case atStart => exact ⟨0, rfl, Nat.zero_le _, by rw [H0.out]; rfl, Below.refl _ _⟩
    case round =>
      obtain ⟨k, rfl, hk, rfl, hB⟩ := hrel
      have hs : w.heap.size + 1 ≤ wr.heap.size := by have := hB.size; rw [HWZ.out] at this; exact this
      by_cases hlt : k < ks.length
      · have hkI : (k : Int) < (ks.length : Int) := by omega
        obtain ⟨c0, c1, c2, c3⟩ := HF.out.below hB (Nat.lt_succ_self _)
        have hBw : Below w.heap.size w wr := HB0.out.trans (hB.mono (Nat.le_succ _))
        have hzk := HL.out k
        have hek := HE.out k
        have hmul : k * (5 + 2 * 100000) ≤ 100000 * (5 + 2 * 100000) := Nat.mul_le_mul_right _ (by omega)
        go_wp2_with (go_at_call 35; refine (HC.out k _ hBw hlt).mono ?_; rintro e w2 ⟨rfl, hb2⟩)
        go_roundw
        case rel => exact ⟨k + 1, by go_num, by omega, by rw [HS.out]; go_num, hB.trans (hb2.mono hs)⟩
        case measure => simp [intOf]; omega
      · have hke : k = ks.length := by omega
        subst hke
        go_wp2
        go_ret
        exact ⟨rfl, HB0.out.trans (hB.mono (Nat.le_succ _))⟩

set_option maxHeartbeats 1000000 in
theorem awake_any (w : World) : Calls Try.prog 7 #[] w fun e w' => e = .returned (.bool true) ∧ Below w.heap.size w w' := by
  go_enter Try.func7, Try.ntmps7
  go_wp2_with fail
  have hN : NodeAt ((((w.alloc (.cells #[.int .u8 1] 5)).alloc (.cells #[.slice (some ⟨w.heap.size, 0, none⟩) 1 1] 26)).alloc (.cells #[.int .u8 2] 5)).alloc (.cells #[.slice (some ⟨w.heap.size + 2, 0, none⟩) 1 1] 26)) (some ⟨w.heap.size + 1, 0, none⟩) [[1]] 1 (some ⟨w.heap.size + 3, 0, none⟩) [[2]] 1 none [] 0 := by
    refine ⟨fun k hk => ?_, fun k hk => ?_, Cells.nil, fun x hx => (by cases hx), by decide, by decide, by decide⟩
    · obtain rfl : k = 0 := by simp at hk; omega
      refine ⟨w.heap.size + 1, 0, some ⟨w.heap.size + 0, 0, none⟩, 1, rfl, by simp, (((Blk.second w _ _ _).alloc _).alloc _).cell 0, fun j u hu => ?_, fun x hx => by simp at hx; omega, by simp, by decide⟩
      rcases j with _ | j
      · simp at hu; subst hu; exact ⟨w.heap.size + 0, 0, rfl, by simp; try omega, ((((Blk.new w _ _).alloc _).alloc _).alloc _).cell 0⟩
      · simp at hu
    · obtain rfl : k = 0 := by simp at hk; omega
      refine ⟨w.heap.size + 3, 0, some ⟨w.heap.size + 2, 0, none⟩, 1, rfl, by simp, (Blk.fourth w _ _ _ _ _).cell 0, fun j u hu => ?_, fun x hx => by simp at hx; omega, by simp, by decide⟩
      rcases j with _ | j
      · simp at hu; subst hu; exact ⟨w.heap.size + 2, 0, rfl, by simp; try omega, ((Blk.third w _ _ _ _).alloc _).cell 0⟩
      · simp at hu
  refine (size_any true _ _ _ _ _ _ _ _ _ _ hN (fun l hl => by simp at hl; subst hl; decide) (fun l hl => by simp at hl; subst hl; decide) (by decide) (by decide)).mono ?_
  rintro e w2 ⟨rfl, hb2⟩
  go_wp2
  go_ret
  have hb0 : Below w.heap.size w ((((w.alloc (.cells #[.int .u8 1] 5)).alloc (.cells #[.slice (some ⟨w.heap.size, 0, none⟩) 1 1] 26)).alloc (.cells #[.int .u8 2] 5)).alloc (.cells #[.slice (some ⟨w.heap.size + 2, 0, none⟩) 1 1] 26)) := by
    repeat' (first | exact Below.refl _ _ | refine Below.alloc ?_ (by simp; try omega) _)
  exact ⟨by simp [sizeTo, entN], hb0.trans (hb2.mono hb0.size)⟩

instance (ls : List (List Int)) (n : Nat) : Decidable (LenLe ls n) := by unfold LenLe; infer_instance
/-- A node of a size that is looked at. -/
def fewN (ks vs : List (List Int)) (is : List Int) : Bool := decide (ks.length ≤ 120 ∧ vs.length ≤ 120 ∧ is.length ≤ 120 ∧ LenLe ks 300 ∧ LenLe vs 300)
theorem LenLe.step {ls : List (List Int)} {n k : Nat} (h : ∀ j (hj : j < ls.length), j < k → (ls[j]).length ≤ n) (hk : ls.length ≤ k) : LenLe ls n := fun l hl => by
  obtain ⟨j, hj, rfl⟩ := List.getElem_of_mem hl
  exact h j hj (by omega)

set_option maxHeartbeats 4000000 in
theorem few_any (lf : Bool) (Ak : Option Addr) (ks : List (List Int)) (ck : Nat) (Av : Option Addr) (vs : List (List Int)) (cv : Nat) (Ai : Option Addr) (is : List Int) (ci : Nat) (w : World) (h : NodeAt w Ak ks ck Av vs cv Ai is ci) :
    Calls Try.prog 8 #[nodeV lf Ak ks ck Av vs cv Ai is ci] w fun e w' => e = .returned (.bool (fewN ks vs is)) ∧ Below w.heap.size w w' := by
  by_cases hs : ks.length ≤ 120 ∧ vs.length ≤ 120 ∧ is.length ≤ 120
  · obtain ⟨s1, s2, s3⟩ := hs
    have HE : Hid (fewN ks vs is = decide (LenLe ks 300 ∧ LenLe vs 300)) := Lib.hid (by simp [fewN, s1, s2, s3])
    go_enter Try.func8, Try.ntmps8
    go_wp2
    go_loop [3] (fun i => ∃ k : Nat, i = .int .i64 k ∧ k ≤ ks.length ∧ (∀ j (hj : j < ks.length), j < k → (ks[j]).length ≤ 300))
      (fun i => ks.length - (intOf i).toNat)
    case atStart => exact ⟨0, rfl, Nat.zero_le _, fun j hj h => absurd h (by omega)⟩
    case round =>
      obtain ⟨k, rfl, hk, hall⟩ := hrel
      by_cases hlt : k < ks.length
      · have hkI : (k : Int) < (ks.length : Int) := by omega
        obtain ⟨b, off, A', c, rfl, hb, hc, _⟩ := h.keys k hlt
        by_cases hle : (ks[k]).length ≤ 300
        · have HALL : Hid (∀ j (hj : j < ks.length), j < k + 1 → (ks[j]).length ≤ 300) := Lib.hid fun j hj h => by
            rcases Nat.lt_or_ge j k with h1 | h1
            · exact hall j hj h1
            · obtain rfl : j = k := by omega
              exact hle
          clear hall
          generalize (ks[k]).length = m at *
          go_wp2
          go_round
          case rel => exact ⟨k + 1, by go_num, by omega, HALL.out⟩
          case measure => simp [intOf]; omega
        · have HN : Hid (¬ LenLe ks 300) := Lib.hid fun hh => hle (hh.at_ hlt)
          clear hall
          generalize (ks[k]).length = m at *
          go_wp2
          go_ret
          exact ⟨ret_bool (by rw [HE.out]; exact (decide_eq_false fun hh => HN.out hh.1).symm), (Below.refl _ _).alloc (Nat.le_refl _) _⟩
      · have HK : Hid (LenLe ks 300) := Lib.hid (LenLe.step hall (by omega))
        clear hall
        go_wp2
        go_loop [4] (fun i => ∃ k : Nat, i = .int .i64 k ∧ k ≤ vs.length ∧ (∀ j (hj : j < vs.length), j < k → (vs[j]).length ≤ 300))
          (fun i => vs.length - (intOf i).toNat)
        case atStart => exact ⟨0, rfl, Nat.zero_le _, fun j hj h => absurd h (by omega)⟩
        case round =>
          obtain ⟨k, rfl, hk, hall⟩ := hrel
          by_cases hlt : k < vs.length
          · have hkI : (k : Int) < (vs.length : Int) := by omega
            obtain ⟨b, off, A', c, rfl, hb, hc, _⟩ := h.vals k hlt
            by_cases hle : (vs[k]).length ≤ 300
            · have HALL : Hid (∀ j (hj : j < vs.length), j < k + 1 → (vs[j]).length ≤ 300) := Lib.hid fun j hj h => by
                rcases Nat.lt_or_ge j k with h1 | h1
                · exact hall j hj h1
                · obtain rfl : j = k := by omega
                  exact hle
              clear hall
              generalize (vs[k]).length = m at *
              go_wp2
              go_round
              case rel => exact ⟨k + 1, by go_num, by omega, HALL.out⟩
              case measure => simp [intOf]; omega
            · have HN : Hid (¬ LenLe vs 300) := Lib.hid fun hh => hle (hh.at_ hlt)
              clear hall
              generalize (vs[k]).length = m at *
              go_wp2
              go_ret
              exact ⟨ret_bool (by rw [HE.out]; exact (decide_eq_false fun hh => HN.out hh.2).symm), (Below.refl _ _).alloc (Nat.le_refl _) _⟩
          · have HV : Hid (LenLe vs 300) := Lib.hid (LenLe.step hall (by omega))
            clear hall
            go_wp2
            go_ret
            exact ⟨ret_bool (by rw [HE.out]; exact (decide_eq_true ⟨HK.out, HV.out⟩).symm), (Below.refl _ _).alloc (Nat.le_refl _) _⟩
  · have HE : Hid (fewN ks vs is = false) := Lib.hid (decide_eq_false fun hh => hs ⟨hh.1, hh.2.1, hh.2.2.1⟩)
    have hc : (120 < ks.length) ∨ (ks.length ≤ 120 ∧ 120 < vs.length) ∨ (ks.length ≤ 120 ∧ vs.length ≤ 120 ∧ 120 < is.length) := by omega
    clear hs
    go_enter Try.func8, Try.ntmps8
    rcases hc with x1 | ⟨x1, x2⟩ | ⟨x1, x2, x3⟩
    all_goals
      go_wp2
      go_ret
      exact ⟨ret_bool HE.out.symm, (Below.refl _ _).alloc (Nat.le_refl _) _⟩
end Go.Proofs.Ytbngcinhjoigaaa
