/-
  Rows of values that are only read; munimentref03.formed; Least of both.
-/
import Derived.Test.YtmobolefijneoaaDoorO3
import Derived.Test.YtmobolefijneoaaDoorOh
set_option linter.unusedVariables false
namespace Go.Proofs.YtmobolefijneoaaDoor
open Go.RowKit Go.Joins Go.Deep

theorem RowAt.allAt {w : World} {A : Option Addr} {is : List LV} {c : Nat} (h : RowAt w A is c) : LV.AllAt w is := by unfold RowAt LV.At at h; exact h.2.2.1
theorem RowAt.cells {w : World} {A : Option Addr} {is : List LV} {c : Nat} (h : RowAt w A is c) : Cells w w.heap.size A (is.flatMap LV.cells) := by unfold RowAt LV.At at h; exact h.2.1
theorem RowAt.addr {w : World} {A : Option Addr} {is : List LV} {c : Nat} (h : RowAt w A is c) (hne : 0 < is.length) : ∃ b off, A = some ⟨b, off, none⟩ ∧ b < w.heap.size := by
  obtain ⟨b, off, e, hb, _⟩ := LV.At.item h hne
  exact ⟨b, off, e, hb⟩
theorem RowAt.at {w : World} {A : Option Addr} {is : List LV} {c : Nat} (h : RowAt w A is c) {q : Nat} (hq : q < is.length) : (nth is q).At w := LV.allAt.1 h.allAt _ (nth_mem hq)
theorem RowAt.five {w : World} {b off c : Nat} {is : List LV} (h : RowAt w (some ⟨b, off, none⟩) is c) {q : Nat} (hq : q < is.length) {x0 x1 x2 x3 x4 : Value} (e : (nth is q).cells = [x0, x1, x2, x3, x4]) :
    w.cell? ⟨b, off + q * 5, none⟩ = some x0 ∧ w.cell? ⟨b, off + q * 5 + 1, none⟩ = some x1 ∧ w.cell? ⟨b, off + q * 5 + 2, none⟩ = some x2 ∧ w.cell? ⟨b, off + q * 5 + 3, none⟩ = some x3 ∧ w.cell? ⟨b, off + q * 5 + 4, none⟩ = some x4 := by
  rw [nth_lt hq] at e
  have hc := fun j u hu => h.cells (q * 5 + j) u hu
  have hk : ∀ j, j < 5 → (is.flatMap LV.cells)[q * 5 + j]? = (is[q]).cells[j]? := fun j hj => flat_at is q j hq hj
  have one : ∀ j u, j < 5 → (is[q]).cells[j]? = some u → w.cell? ⟨b, off + q * 5 + j, none⟩ = some u := fun j u hj hu => by
    obtain ⟨b', off', e', _, hcell⟩ := hc j u ((hk j hj).trans hu)
    injection e' with e'
    injection e' with e1 e2
    subst e1 e2
    rw [Nat.add_assoc]; exact hcell
  rw [e] at one
  exact ⟨one 0 _ (by omega) rfl, one 1 _ (by omega) rfl, one 2 _ (by omega) rfl, one 3 _ (by omega) rfl, one 4 _ (by omega) rfl⟩
/-- order.compare, and munimentref03.Plain, of two values of a row. -/
theorem RowAt.cmp {w : World} {A : Option Addr} {is : List LV} {c : Nat} (h : RowAt w A is c) (hf : AllF is) {p q : Nat} (hp : p < is.length) (hq : q < is.length) (w' : World) (hb : Below w.heap.size w w') :
    Calls Tryd.prog 23 #[(nth is p).val, (nth is q).val] w' fun e w'' => e = .returned (.int .i64 (cmpJ (jat (LV.js is) p) (jat (LV.js is) q))) ∧ Below w'.heap.size w' w'' := by
  rw [← nth_j hp, ← nth_j hq]
  exact compare_any _ (nth is p) (nth is q) 6 6 w' (Nat.lt_succ_self _) ((h.at hp).below hb _) ((h.at hq).below hb _) (hf _ (nth_mem hp)) (hf _ (nth_mem hq))
theorem RowAt.plain {w : World} {A : Option Addr} {is : List LV} {c : Nat} (h : RowAt w A is c) (hf : AllF is) {p q : Nat} (hp : p < is.length) (hq : q < is.length) (w' : World) (hb : Below w.heap.size w w') :
    Calls Tryd.prog 25 #[(nth is p).val, (nth is q).val] w' fun e w'' => e = .returned (.int .i64 (cmpJ (jat (LV.js is) p) (jat (LV.js is) q))) ∧ Below w'.heap.size w' w'' := by
  rw [← nth_j hp, ← nth_j hq]
  exact plain_any _ (nth is p) (nth is q) 6 6 w' (Nat.lt_succ_self _) ((h.at hp).below hb _) ((h.at hq).below hb _) (hf _ (nth_mem hp)) (hf _ (nth_mem hq))

/-- k is the least one of the first i, and the first such. -/
def LeastTo (l : List JV) (i k : Nat) : Prop := (∀ q, q < i → leJ (jat l k) (jat l q)) ∧ (∀ q, q < k → q < i ∧ ¬ leJ (jat l q) (jat l k))
theorem LeastTo.start (l : List JV) : LeastTo l 0 0 := ⟨fun q h => by omega, fun q h => by omega⟩
theorem LeastTo.less {l : List JV} {i k : Nat} (h : LeastTo l i k) (hc : cmpJ (jat l i) (jat l k) < 0) : LeastTo l (i + 1) i := by
  have hle := leJ_of_lt hc
  refine ⟨fun q hq => ?_, fun q hq => ⟨by omega, fun hn => ?_⟩⟩
  · by_cases e : q = i
    · rw [e]; exact leJ_refl _
    · exact leJ_trans hle (h.1 q (by omega))
  · have h2 : leJ (jat l k) (jat l i) := leJ_trans (h.1 q hq) hn
    unfold leJ at h2
    have := cmpJ_neg (jat l i) (jat l k)
    omega
theorem LeastTo.not {l : List JV} {i k : Nat} (h : LeastTo l i k) (hc : ¬ cmpJ (jat l i) (jat l k) < 0) : LeastTo l (i + 1) k := by
  refine ⟨fun q hq => ?_, fun q hq => ⟨by have := h.2 q hq; omega, (h.2 q hq).2⟩⟩
  by_cases e : q = i
  · rw [e]; exact leJ_of_not hc
  · exact h.1 q (by omega)
/-- What Least answers. -/
def LeastR (is : List LV) (r : Int) : Prop := ((¬ AllF is ∨ is = []) → r = -1) ∧ (AllF is → 0 < is.length → ∃ k : Nat, k < is.length ∧ r = k ∧ LeastTo (LV.js is) is.length k)
theorem LeastTo.one {l : List JV} {n k k2 : Nat} (h : LeastTo l n k) (h2 : LeastTo l n k2) (hk : k < n) (hk2 : k2 < n) : k = k2 := by
  rcases Nat.lt_trichotomy k k2 with h3 | h3 | h3
  · exact absurd (h.1 k2 hk2) (h2.2 k h3).2
  · exact h3
  · exact absurd (h2.1 k hk) (h.2 k2 h3).2
theorem LeastR.one {is : List LV} {r r2 : Int} (h : LeastR is r) (h2 : LeastR is r2) : r = r2 := by
  by_cases ha : AllF is
  · by_cases hn : 0 < is.length
    · obtain ⟨k, k1, rfl, k3⟩ := h.2 ha hn
      obtain ⟨q, q1, rfl, q3⟩ := h2.2 ha hn
      rw [k3.one q3 k1 q1]
    · have he : is = [] := List.eq_nil_of_length_eq_zero (by omega)
      rw [h.1 (.inr he), h2.1 (.inr he)]
  · rw [h.1 (.inl ha), h2.1 (.inl ha)]
theorem LeastR.range {is : List LV} {r : Int} (h : LeastR is r) : -1 ≤ r ∧ r ≤ is.length := by
  by_cases ha : AllF is
  · by_cases hn : 0 < is.length
    · obtain ⟨k, k1, rfl, k3⟩ := h.2 ha hn
      omega
    · have he : is = [] := List.eq_nil_of_length_eq_zero (by omega)
      have := h.1 (.inr he)
      omega
  · have := h.1 (.inl ha)
    omega

set_option maxHeartbeats 4000000 in
set_option maxRecDepth 20000 in
theorem oleast_any (A : Option Addr) (is : List LV) (c : Nat) (w : World) (hT : Tabs w) (hR : RowAt w A is c) (hl : is.length ≤ 1000) :
    Calls Tryd.prog 18 #[.slice A is.length c] w fun e w' => (∃ r : Int, e = .returned (.int .i64 r) ∧ LeastR is r) ∧ Below w.heap.size w w' := by
  have hcap := hR.cap
  rcases Nat.eq_zero_or_pos is.length with h0 | h0
  · have he : is = [] := List.eq_nil_of_length_eq_zero h0
    subst he
    clear hR hT
    go_enter Tryd.func18, Tryd.ntmps18
    go_wp2
    go_ret
    exact ⟨⟨-1, rfl, fun _ => rfl, fun _ h => absurd h (by simp)⟩, Below.refl _ _⟩
  obtain ⟨b, off, rfl, hb⟩ := hR.addr h0
  have HFO := Lib.hid (oformed_any _ is c w hT hR)
  have HR := Lib.hid hR
  obtain ⟨n, hn⟩ : ∃ n, is.length = n := ⟨_, rfl⟩
  rw [hn] at HFO hcap hl h0 ⊢
  have HN := Lib.hid hn
  have h0I : ¬ (n : Int) = 0 := by omega
  have h0J : ((n : Int) == 0) = false := by simp; omega
  clear hn
  clear hR hT
  go_enter Tryd.func18, Tryd.ntmps18
  go_wp2_with fail
  refine HFO.out.mono ?_
  rintro e w2 ⟨⟨bb, rfl, hbb⟩, hb2⟩
  have HBB := Lib.hid hbb
  clear hbb HFO
  cases bb with
  | false =>
    have HB1 : Hid (¬ AllF is) := Lib.hid (fun h => by have := HBB.out.2 h; cases this)
    clear HBB
    go_wp2
    go_ret
    exact ⟨⟨-1, rfl, fun _ => rfl, fun h _ => absurd h HB1.out⟩, hb2⟩
  | true =>
    have HAF := Lib.hid (HBB.out.1 rfl)
    clear HBB h0I
    go_wp2
    go_loopw [3, 16] (fun vk vi wr => ∃ k i : Nat, vk = .int .i64 k ∧ vi = .int .i64 i ∧ i ≤ n ∧ k < n ∧ Hid (LeastTo (LV.js is) i k) ∧ Below w.heap.size w wr) (fun _ vi _ => n - (RowKit.intOf vi).toNat)
    case atStart => exact ⟨0, 0, rfl, rfl, Nat.zero_le _, h0, Lib.hid (LeastTo.start _), hb2⟩
    case round =>
      clear hb2
      obtain ⟨k, i, rfl, rfl, hi, hk, HL, hB⟩ := hrel
      by_cases hlt : i < n
      · have hiI : (i : Int) < (n : Int) := by omega
        have hkI : (k : Int) < (n : Int) := by omega
        have hi0 : (0 : Int) ≤ (i : Int) := by omega
        have hk0 : (0 : Int) ≤ (k : Int) := by omega
        have hRr := HR.out.below hB
        have hCMP1 := fun (W : World) (hbW : Below wr.heap.size wr W) => fun w' (hw' : Below W.heap.size W w') => (hRr.below hbW).cmp HAF.out (by rw [HN.out]; exact hlt) (by rw [HN.out]; exact hk) w' hw'
        have hG1 := fun (W : World) (hbW : Below wr.heap.size wr W) => fun w' (hw' : Below W.heap.size W w') x0 x1 x2 x3 x4 (e : (nth is k).cells = [x0, x1, x2, x3, x4]) => ((hRr.below hbW).below hw').five (by rw [HN.out]; exact hk) e
        have hC1 := fun x0 x1 x2 x3 x4 (e : (nth is i).cells = [x0, x1, x2, x3, x4]) => hRr.five (by rw [HN.out]; exact hlt) e
        obtain ⟨D, hD⟩ : ∃ D, cmpJ (jat (LV.js is) i) (jat (LV.js is) k) = D := ⟨_, rfl⟩
        obtain ⟨x, hx⟩ : ∃ x, nth is i = x := ⟨_, rfl⟩
        obtain ⟨y, hy⟩ : ∃ y, nth is k = y := ⟨_, rfl⟩
        rw [hD] at hCMP1
        rw [hx] at hCMP1 hC1
        rw [hy] at hCMP1 hG1
        obtain ⟨k1, n1, s1, An1, ns1, cn1, Ai1, is1, ci1⟩ := x
        obtain ⟨k2, n2, s2, An2, ns2, cn2, Ai2, is2, ci2⟩ := y
        obtain ⟨W, hW⟩ : ∃ W, W = wr.alloc (.cells #[.int .i64 k1, .int .i64 n1, .string s1, .slice An1 ns1.length cn1, .slice Ai1 is1.length ci1] 25) := ⟨_, rfl⟩
        have hbW : Below wr.heap.size wr W := by rw [hW]; exact (Below.refl _ _).alloc (Nat.le_refl _) _
        have hblk : Blk W wr.heap.size 25 #[.int .i64 k1, .int .i64 n1, .string s1, .slice An1 ns1.length cn1, .slice Ai1 is1.length ci1] := by rw [hW]; exact Blk.new wr _ _
        have HCMP : Hid (∀ w', Below W.heap.size W w' → Calls Tryd.prog 23 #[.agg #[.int .i64 k1, .int .i64 n1, .string s1, .slice An1 ns1.length cn1, .slice Ai1 is1.length ci1], .agg #[.int .i64 k2, .int .i64 n2, .string s2, .slice An2 ns2.length cn2, .slice Ai2 is2.length ci2]] w' fun e w'' => e = .returned (.int .i64 D) ∧ Below w'.heap.size w' w'') := Lib.hid (hCMP1 W hbW)
        have HG : Hid (∀ w', Below W.heap.size W w' → _) := Lib.hid fun w' hw' => hG1 W hbW w' hw' _ _ _ _ _ rfl
        have HF : Hid (∀ w', Below W.heap.size W w' → w'.cell? ⟨wr.heap.size, 0, none⟩ = some (.int .i64 k1) ∧ w'.cell? ⟨wr.heap.size, 1, none⟩ = some (.int .i64 n1) ∧ w'.cell? ⟨wr.heap.size, 2, none⟩ = some (.string s1) ∧ w'.cell? ⟨wr.heap.size, 3, none⟩ = some (.slice An1 ns1.length cn1) ∧ w'.cell? ⟨wr.heap.size, 4, none⟩ = some (.slice Ai1 is1.length ci1)) := Lib.hid fun w' hw' => by
          have h := hblk.below hw' hblk.lt
          exact ⟨h.cell 0, h.cell 1, h.cell 2, h.cell 3, h.cell 4⟩
        obtain ⟨c0, c1, c2, c3, c4⟩ := hC1 _ _ _ _ _ rfl
        have HD := Lib.hid hD
        have HW := Lib.hid hW
        have HBW := Lib.hid (hB.trans (hbW.mono hB.size))
        have hlW := hblk.lt
        clear hCMP1 hG1 hC1 hx hy hD hRr hblk hB hW hbW
        by_cases hD0 : D < 0
        · go_upto_region 7 with fail
          rw [← HW.out]
          refine region_calm (by kernel_rfl) (by kernel_rfl) ?_
          repeat (first
            | go_big_quiet_skip
            | (go_big_quiet_want
               apply quiet_at
               · intro w' hw'
                 (obtain ⟨c0, c1, c2, c3, c4⟩ := HF.out _ (by assumption); obtain ⟨d0, d1, d2, d3, d4⟩ := HG.out _ (by assumption))
                 go_simp
                 first
                   | done
                   | exact rfl
                   | ((go_at_call 23; refine (HCMP.out _ (by assumption)).mono ?_; rintro e w9 ⟨h1, h2⟩; exact ⟨h1, Below.trans (by assumption) (h2.mono (Below.size (by assumption)))⟩))
               (try simp only [Act.put, List.setIfInBounds_toArray, List.set_cons_zero, List.set_cons_succ])
               go_big_quiet_on))
          refine wpQuiet_nil ?_
          intro w5 hb5
          have HB5 := Lib.hid (HBW.out.trans ((show Below W.heap.size W w5 from hb5).mono HBW.out.size))
          clear hb5 c0 c1 c2 c3 c4
          go_wp2
          go_roundw
          case measure => simp [RowKit.intOf]; omega
          case rel => exact ⟨i, i + 1, rfl, by go_num, by omega, hlt, Lib.hid (HL.out.less (by rw [HD.out]; exact hD0)), HB5.out⟩
        · go_upto_region 7 with fail
          rw [← HW.out]
          refine region_calm (by kernel_rfl) (by kernel_rfl) ?_
          repeat (first
            | go_big_quiet_skip
            | (go_big_quiet_want
               apply quiet_at
               · intro w' hw'
                 (obtain ⟨c0, c1, c2, c3, c4⟩ := HF.out _ (by assumption); obtain ⟨d0, d1, d2, d3, d4⟩ := HG.out _ (by assumption))
                 go_simp
                 first
                   | done
                   | exact rfl
                   | ((go_at_call 23; refine (HCMP.out _ (by assumption)).mono ?_; rintro e w9 ⟨h1, h2⟩; exact ⟨h1, Below.trans (by assumption) (h2.mono (Below.size (by assumption)))⟩))
               (try simp only [Act.put, List.setIfInBounds_toArray, List.set_cons_zero, List.set_cons_succ])
               go_big_quiet_on))
          refine wpQuiet_nil ?_
          intro w5 hb5
          have HB5 := Lib.hid (HBW.out.trans ((show Below W.heap.size W w5 from hb5).mono HBW.out.size))
          clear hb5 c0 c1 c2 c3 c4
          go_wp2
          go_roundw
          case measure => simp [RowKit.intOf]; omega
          case rel => exact ⟨k, i + 1, rfl, by go_num, by omega, hk, Lib.hid (HL.out.not (by rw [HD.out]; exact hD0)), HB5.out⟩
      · have hiI : ¬ (i : Int) < (n : Int) := by omega
        have HLE : Hid (LeastR is k) := Lib.hid ⟨fun h => by rcases h with h | h; exact absurd HAF.out h; have := HN.out; rw [h] at this; simp at this; omega, fun _ _ => ⟨k, by rw [HN.out]; exact hk, rfl, by have := HL.out; rw [show i = n by omega] at this; rw [HN.out]; exact this⟩⟩
        go_wp2
        go_ret
        exact ⟨⟨k, rfl, HLE.out⟩, hB⟩

end Go.Proofs.YtmobolefijneoaaDoor
