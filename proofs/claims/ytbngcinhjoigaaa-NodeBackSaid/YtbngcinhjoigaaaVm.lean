/-
  The reference's page of a node: munimentref09.Size, Formed, big, Write.
-/
import Derived.Test.YtbngcinhjoigaaaVl
import Derived.Test.YtbngcinhjoigaaaVi
import Derived.LoopN
set_option linter.unusedVariables false
namespace Go.Proofs.Ytbngcinhjoigaaa
open Go.RowKit

theorem Own.len_ {w : World} {base : Nat} {A : Option Addr} {n c : Nat} {l : List Int} (h : Own w base (.slice A n c) l) : n = l.length := by
  obtain ⟨A', c', e, _⟩ := h.shape
  injection e
/-- append, the new slice written out. -/
theorem appN_any {ops : Array Oper} {rest : List Oper} {o : Oper} {a : Act} {Q : Exit → Act → World → Prop} {w : World} (hgd : o.guard = none) (s x : Operand)
    (ho : o.op = .call { callee := .builtin .append, args := #[s, x], argTypes := #[26, 26] })
    (base : Nat) (A0 : Option Addr) (n c0 : Nat) (l : List Int) (hs : a.eval s = .slice A0 n c0) (hown : Own w base (.slice A0 n c0) l)
    (B : Nat) (A : Option Addr) (c m : Nat) (news : List Int) (hx : a.eval x = .slice A m c) (hm : m = news.length) (hc : Cells w B A (U8 news))
    (hlen : n + m ≤ 140737488355328) (hbase : base ≤ w.heap.size)
    (h : ∀ A' c' w', Own w' base (.slice A' (n + m) c') (l ++ news) → Below base w w' → wpList Try.prog ops Q rest (a.put o.dst (.slice A' (n + m) c')) w') : wpList Try.prog ops Q (o :: rest) a w := by
  have hn := hown.len_
  subst hm hn
  refine app_any hgd s x ho base _ l hs hown B A c news hx hc hlen hbase fun v' w' h1 h2 => ?_
  obtain ⟨A', c', e, _⟩ := h1.shape
  rw [List.length_append] at e
  subst e
  exact h A' c' w' h1 (h2.below hown hbase)

def be64 (x : Int) : List Int :=
  [x / 72057594037927936 % 256, x / 281474976710656 % 256, x / 1099511627776 % 256, x / 4294967296 % 256, x / 16777216 % 256, x / 65536 % 256, x / 256 % 256, x % 256]
theorem be64_32 (x : Int) : (be64 x).drop 4 = be32 x := rfl
theorem be64_16 (x : Int) : (be64 x).drop 6 = be16 x := rfl
set_option maxHeartbeats 1000000 in
theorem big_any (x : Int) (w : World) (h0 : 0 ≤ x) (h1 : x ≤ 18446744073709551615) :
    Calls Try.prog 40 #[.int .u64 x] w fun e w' => e = .returned (.slice (some ⟨w.heap.size, 0, none⟩) 8 8) ∧ w' = w.alloc (.cells (U8 (be64 x)).toArray 5) := by
  have hmk : ∀ w, (Instr.makeSlice 26 (.int .i64 8) (.int .i64 8)).run Try.prog w = .ok (.slice (some ⟨w.heap.size, 0, none⟩) 8 8) (w.alloc (.cells #[.int .u8 0, .int .u8 0, .int .u8 0, .int .u8 0, .int .u8 0, .int .u8 0, .int .u8 0, .int .u8 0] 5)) := fun _ => by kernel_rfl
  have hbe : (U8 (be64 x)).toArray = #[Value.int IntKind.u8 (x / 256 / 256 / 256 / 256 / 256 / 256 / 256 % 256), Value.int IntKind.u8 (x / 256 / 256 / 256 / 256 / 256 / 256 % 256), Value.int IntKind.u8 (x / 256 / 256 / 256 / 256 / 256 % 256), Value.int IntKind.u8 (x / 256 / 256 / 256 / 256 % 256), Value.int IntKind.u8 (x / 256 / 256 / 256 % 256), Value.int IntKind.u8 (x / 256 / 256 % 256), Value.int IntKind.u8 (x / 256 % 256), Value.int IntKind.u8 (x % 256)] := by
    have e7 : x / 72057594037927936 = x / 256 / 256 / 256 / 256 / 256 / 256 / 256 := by omega
    have e6 : x / 281474976710656 = x / 256 / 256 / 256 / 256 / 256 / 256 := by omega
    have e5 : x / 1099511627776 = x / 256 / 256 / 256 / 256 / 256 := by omega
    have e4 : x / 4294967296 = x / 256 / 256 / 256 / 256 := by omega
    have e3 : x / 16777216 = x / 256 / 256 / 256 := by omega
    have e2 : x / 65536 = x / 256 / 256 := by omega
    simp only [be64, U8, List.map_cons, List.map_nil, e7, e6, e5, e4, e3, e2]
  have H := Lib.hid hbe; clear hbe
  go_enter Try.func40, Try.ntmps40
  go_wp2
  refine wp_loop_rounds 9 ?_
  iterate 9 (rw [rounds_succ]; go_wp2)
  go_ret
  exact ⟨rfl, by rw [H.out]⟩

set_option maxHeartbeats 1000000 in
theorem rbig4_any (x : Int) (w : World) (h0 : 0 ≤ x) (h1 : x ≤ 9223372036854775807) :
    Calls Try.prog 29 #[.int .i64 x, .int .i64 4] w fun e w' => ∃ A, e = .returned (.slice A 4 4) ∧ Cells w' w'.heap.size A (U8 (be32 x)) ∧ Below w.heap.size w w' := by
  have HC := Lib.hid (big_any x w h0 (by omega))
  go_enter Try.func29, Try.ntmps29
  go_wp2_with (go_at_call 40; refine HC.out.mono ?_; rintro e w1 ⟨rfl, rfl⟩)
  go_ret
  refine ⟨some ⟨w.heap.size, 4, none⟩, rfl, ?_, (Below.refl _ _).alloc (Nat.le_refl _) _⟩
  have := ((cells_new w (be64 x)).subU 4).whole
  rw [be64_32] at this
  exact this
set_option maxHeartbeats 1000000 in
theorem rbig2_any (x : Int) (w : World) (h0 : 0 ≤ x) (h1 : x ≤ 9223372036854775807) :
    Calls Try.prog 29 #[.int .i64 x, .int .i64 2] w fun e w' => ∃ A, e = .returned (.slice A 2 2) ∧ Cells w' w'.heap.size A (U8 (be16 x)) ∧ Below w.heap.size w w' := by
  have HC := Lib.hid (big_any x w h0 (by omega))
  go_enter Try.func29, Try.ntmps29
  go_wp2_with (go_at_call 40; refine HC.out.mono ?_; rintro e w1 ⟨rfl, rfl⟩)
  go_ret
  refine ⟨some ⟨w.heap.size, 6, none⟩, rfl, ?_, (Below.refl _ _).alloc (Nat.le_refl _) _⟩
  have := ((cells_new w (be64 x)).subU 6).whole
  rw [be64_16] at this
  exact this

set_option maxHeartbeats 4000000 in
theorem rsize_any (lf : Bool) (Ak : Option Addr) (ks : List (List Int)) (ck : Nat) (Av : Option Addr) (vs : List (List Int)) (cv : Nat) (Ai : Option Addr) (is : List Int) (ci : Nat) (w : World) (h : NodeAt w Ak ks ck Av vs cv Ai is ci) (h1 : LenLe ks 100000) (h2 : LenLe vs 100000) (h3 : ks.length ≤ 100000) (h4 : vs.length ≤ 1000000) :
    Calls Try.prog 39 #[nodeV lf Ak ks ck Av vs cv Ai is ci] w fun e w' => e = .returned (.int .i64 (sizeTo lf ks vs ks.length : Nat)) ∧ Below w.heap.size w w' := by
  have H0 : Hid (sizeTo lf ks vs 0 = if lf = true then 3 else 7) := Lib.hid rfl
  have HS : Hid (∀ k, sizeTo lf ks vs (k + 1) = sizeTo lf ks vs k + entN lf ks vs k) := Lib.hid (fun k => rfl)
  have HL := Lib.hid (sizeTo_le (lf := lf) h1 h2)
  have HEN : Hid (∀ k, entN lf ks vs k = if lf = true then 3 + (ks.getD k []).length + (vs.getD k []).length else 5 + (ks.getD k []).length) := Lib.hid fun k => by unfold entN; rfl
  generalize sizeTo lf ks vs = sz at *
  generalize entN lf ks vs = en at *
  have HB0 : Hid (Below w.heap.size w (w.alloc (.cells #[.bool lf, .slice Ak ks.length ck, .slice Av vs.length cv, .slice Ai is.length ci] 29))) := Lib.hid ((Below.refl _ _).alloc (Nat.le_refl _) _)
  obtain ⟨hK, hV, _, _, _, _, _⟩ := h
  go_enter Try.func39, Try.ntmps39
  cases lf
  all_goals
    go_wp2
    go_loop [3, 4] (fun s i => ∃ k : Nat, i = .int .i64 k ∧ k ≤ ks.length ∧ s = .int .i64 (sz k : Nat))
      (fun _ i => ks.length - (intOf i).toNat)
    case atStart => exact ⟨0, rfl, Nat.zero_le _, by rw [H0.out]; rfl⟩
    case round =>
      obtain ⟨k, rfl, hk, rfl⟩ := hrel
      have hzk := HL.out k
      have hmul : k * (5 + 2 * 100000) ≤ 100000 * (5 + 2 * 100000) := Nat.mul_le_mul_right _ (by omega)
      by_cases hlt : k < ks.length
      · have hkI : (k : Int) < (ks.length : Int) := by omega
        obtain ⟨b, off, A', c, rfl, hb, hc, _⟩ := hK k hlt
        have hE := (HS.out k).trans (congrArg _ (HEN.out k))
        have hxl := h1.at_ hlt
        rw [getD_at hlt] at hE
        by_cases hv : k < vs.length
        · have hvI : (k : Int) < (vs.length : Int) := by omega
          obtain ⟨bv, offv, A2, c2, rfl, hbv, hcv, _⟩ := hV k hv
          have hyl := h2.at_ hv
          rw [getD_at hv] at hE
          have HE := Lib.hid hE
          clear hE
          generalize ks[k].length = x at *
          generalize vs[k].length = y at *
          go_wp2
          go_round
          case rel => exact ⟨k + 1, by go_num, by omega, by rw [HE.out]; go_num⟩
          case measure => simp [intOf]; omega
        · have hvI : ¬ (k : Int) < (vs.length : Int) := by omega
          rw [getD_out (by omega)] at hE
          have HE := Lib.hid hE
          clear hE
          generalize ks[k].length = x at *
          go_wp2
          go_round
          case rel => exact ⟨k + 1, by go_num, by omega, by rw [HE.out]; go_num⟩
          case measure => simp [intOf]; omega
      · have hke : k = ks.length := by omega
        subst hke
        go_wp2
        go_ret
        exact ⟨rfl, HB0.out⟩

set_option maxHeartbeats 2000000 in
theorem rformed_any (lf : Bool) (Ak : Option Addr) (ks : List (List Int)) (ck : Nat) (Av : Option Addr) (vs : List (List Int)) (cv : Nat) (Ai : Option Addr) (is : List Int) (ci : Nat) (w : World) (h : NodeAt w Ak ks ck Av vs cv Ai is ci) (h1 : LenLe ks 100000) (h2 : LenLe vs 100000) (h3 : ks.length ≤ 100000) (h4 : vs.length ≤ 1000000) (h5 : is.length ≤ 1000000) :
    Calls Try.prog 28 #[nodeV lf Ak ks ck Av vs cv Ai is ci] w fun e w' => e = .returned (.bool (frmB lf ks vs is)) ∧ Below w.heap.size w w' := by
  have HR : Hid (frmB lf ks vs is = (shB lf ks vs is && decide (sizeTo lf ks vs ks.length ≤ 1024))) := Lib.hid rfl
  obtain ⟨W, hW⟩ : ∃ W, W = w.alloc (.cells #[.bool lf, .slice Ak ks.length ck, .slice Av vs.length cv, .slice Ai is.length ci] 29) := ⟨_, rfl⟩
  have hF : Four W w.heap.size (.bool lf) (.slice Ak ks.length ck) (.slice Av vs.length cv) (.slice Ai is.length ci) := by rw [hW]; exact Four.new w _ _ _ _ _
  have hB0 : Below w.heap.size w W := by rw [hW]; exact (Below.refl _ _).alloc (Nat.le_refl _) _
  have hWz : w.heap.size < W.heap.size := by rw [hW]; simp
  have hN := h.below hB0
  have HW := Lib.hid hW
  have HC := Lib.hid (rshaped_any lf Ak ks ck Av vs cv Ai is ci W hN h1 h3 h4 h5)
  have HSZ : Hid (∀ w', Below W.heap.size W w' → Calls Try.prog 39 #[nodeV lf Ak ks ck Av vs cv Ai is ci] w' fun e w'' => e = .returned (.int .i64 (sizeTo lf ks vs ks.length : Nat)) ∧ Below w'.heap.size w' w'') := Lib.hid fun w' hb => rsize_any lf Ak ks ck Av vs cv Ai is ci w' (hN.below hb) h1 h2 h3 h4
  clear hW h h1 h2
  go_enter Try.func28, Try.ntmps28
  go_wp2_with fail
  rw [← HW.out]
  cases hs : shB lf ks vs is with
  | false =>
    rw [hs] at HC HR
    clear hs
    refine HC.out.mono ?_
    rintro e w1 ⟨rfl, hb1⟩
    go_wp2
    go_ret
    exact ⟨ret_bool (by rw [HR.out]; rfl), hB0.trans (hb1.mono (Nat.le_of_lt hWz))⟩
  | true =>
    rw [hs] at HC HR
    clear hs
    refine HC.out.mono ?_
    rintro e w1 ⟨rfl, hb1⟩
    obtain ⟨c0, c1, c3, c4⟩ := hF.below hb1 hWz
    have HS1 := Lib.hid (HSZ.out w1 hb1)
    generalize sizeTo lf ks vs ks.length = sz at *
    go_wp2_with (go_at_call 39; refine HS1.out.mono ?_; rintro e w2 ⟨rfl, hb2⟩)
    go_ret
    have hB1 := hB0.trans (hb1.mono (Nat.le_of_lt hWz))
    exact ⟨ret_bool (by rw [HR.out, Bool.true_and, Bool.eq_iff_iff]; simp; omega), hB1.trans (hb2.mono hB1.size)⟩
end Go.Proofs.Ytbngcinhjoigaaa
