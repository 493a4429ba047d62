/-
  KeysLists: its walk; lists of values that came in.
-/
import Derived.Test.YtpnbmgfnnmmokaaDoorQm
import Derived.Test.YtpnbmgfnnmmokaaDoorRw
set_option linter.unusedVariables false
namespace Go.Proofs.YtpnbmgfnnmmokaaDoor
open Go.ChangeShapes Go.WideShapes Go.ChangeAt Go.RowKit Go.Joins Go.Deep

/-- Values that came in. -/
theorem vals_in {H : Type} {enc : TypeId × Value → H} {W : World} {base : Nat} {spare : Nat → Bool} {held : Bool} {fuel : Nat} {a : Option Addr} {n c : Nat} {x : DataW H × List MemPlace}
    (h : DataW.trod enc Tryd.prog W base spare held fuel 23 [.slice a n c] = some x) : ∃ is : List LV, n = is.length ∧ is.length ≤ c ∧ c ≤ 9223372036854775807 ∧ Cells W W.heap.size a (is.flatMap LV.cells) ∧ LV.AllAt W is := by
  obtain ⟨k0, k1, k2, k3, k4, k5⟩ := cellsInt
  rcases DataW.trod_slice Tryd.underlying23 h with ⟨hcs, _⟩ | ⟨ad, len, cap, elems, rest, nn, hnn, hcs, _, hba, hlc, hcm, hel, hat, _, _⟩
  · simp at hcs
    obtain ⟨rfl, rfl, rfl⟩ := hcs
    exact ⟨[], rfl, by simp, by simp, Cells.nil, trivial⟩
  · simp at hcs
    obtain ⟨rfl, rfl, rfl⟩ := hcs
    unfold maxLen at hcm
    obtain ⟨b, off, spot⟩ := ad
    have hv : ∀ i, ∃ v : LV, i < n → v.At W ∧ W.cells? base ((⟨b, off, spot⟩ : Addr).add (i * 5)) 5 = some v.cells := fun i => by
      by_cases hi : i < n
      · have h5 := hat i hi
        rw [k5] at h5
        rw [List.getElem?_eq_getElem (by omega)] at h5
        rw [Option.bind_eq_some_iff] at h5
        obtain ⟨cs, hc1, hc2⟩ := h5
        obtain ⟨v, rfl, hv⟩ := val_cells nn cs _ hc2
        exact ⟨v, fun _ => ⟨hv, hc1⟩⟩
      · exact ⟨.mk 0 0 ByteArray.empty none [] 0 none [] 0, fun h' => absurd h' hi⟩
    obtain ⟨Y, hY⟩ := Classical.axiomOfChoice hv
    refine ⟨(List.range n).map Y, by simp, by simp; omega, hcm, fun k u hu => ?_, LV.allAt.2 fun v hv => ?_⟩
    · have hk5 : k < n * 5 := by
        have := (List.getElem?_eq_some_iff.1 hu).1
        have e : ((List.range n).map Y).flatMap LV.cells = ((List.range n).map Y).flatMap LV.cells := rfl
        rw [List.length_flatMap] at this
        have e2 : ((List.map Y (List.range n)).map (fun a => a.cells.length)).sum = n * 5 := by
          have : (List.map Y (List.range n)).map (fun a => a.cells.length) = List.replicate n 5 := by
            rw [List.eq_replicate_iff]
            refine ⟨by simp, fun b hb => ?_⟩
            obtain ⟨a, _, rfl⟩ := List.mem_map.1 hb
            exact LV.cells_len a
          rw [this, List.sum_replicate_nat]
        omega
      have hi : k / 5 < n := by omega
      have hd : k = k / 5 * 5 + k % 5 := by omega
      rw [hd, flat_at _ (k / 5) (k % 5) (by simpa using hi) (by omega)] at hu
      have h0 := (World.cells?_some (hY 0 (by omega)).2).2.2 0 (by omega)
      have h8 := (World.cells?_some (hY (k / 5) hi).2).2.2 (k % 5) (by omega)
      rw [Nat.zero_mul, Deep.add_add] at h0
      rw [Deep.add_add, ← hd] at h8
      have hspot : spot = none := by
        have h9 : W.cell? ((⟨b, off, spot⟩ : Addr).add (0 + 0)) = some ((Y 0).cells[0]'(by rw [LV.cells_len]; omega)) := by rw [h0, List.getElem?_eq_getElem]
        simpa [Addr.add] using World.cell?_spot h9
      subst hspot
      rw [List.getElem_map, List.getElem_range] at hu
      rw [hu, add_mk] at h8
      exact ⟨b, off, rfl, World.block_lt_of_cell? W _ h8, h8⟩
    · obtain ⟨i, hi, rfl⟩ := List.mem_map.1 hv
      exact (hY i (List.mem_range.1 hi)).1
theorem twoField : ∃ f0 f1 : Field, Tryd.prog.underlying 43 = some (.struct #[f0, f1]) ∧ f0.type = 23 ∧ f1.type = 41 ∧ f0.offset = 0 ∧ f1.offset = 1 := ⟨_, _, Tryd.underlying43, rfl, rfl, rfl, rfl⟩
theorem list2 {α : Type} {l : List α} (h : l.length = 2) : ∃ a b, l = [a, b] := by
  match l, h with
  | [a, b], _ => exact ⟨a, b, rfl⟩
/-- A list and its marks that came in. -/
theorem klist_in {H : Type} {enc : TypeId × Value → H} {W : World} {base b0 : Nat} {spare : Nat → Bool} {held : Bool} {r : Reach} {v : Value} {d : DataW H} {p : List MemPlace}
    (hv : Value.okWide Tryd.prog W r b0 43 v) (h : DataW.Trod enc Tryd.prog W base spare held 43 v d p) :
    ∃ (A : Option Addr) (is : List LV) (c : Nat) (D : Option Addr) (ds : List Bool) (cd : Nat), v = .agg #[.slice A is.length c, .slice D ds.length cd] ∧ RowAt W A is c ∧ Cells W W.heap.size D (ds.map Value.bool) ∧ ds.length ≤ cd ∧ cd ≤ 9223372036854775807 := by
  obtain ⟨f0, f1, hu, e0, e1, o0, o1⟩ := twoField
  obtain ⟨cs, rfl, _⟩ := okWide_struct hu hv
  obtain ⟨fuel, hf⟩ := h
  obtain ⟨xs, n, hn, _, hl, hlen, hfi⟩ := DataW.trod_struct hu hf
  have k5 : Tryd.prog.cellsOf 43 = 2 := by kernel_rfl
  have k0 : Tryd.prog.cellsOf 23 = 1 := by kernel_rfl
  have k1 : Tryd.prog.cellsOf 41 = 1 := by kernel_rfl
  rw [k5] at hl
  simp only [Value.cells] at hl hfi
  obtain ⟨c0, c1, hcs⟩ := list2 hl
  obtain ⟨y0, y1, rfl⟩ := list2 (hlen.trans rfl : xs.length = 2)
  have h0 := hfi 0 f0 rfl
  have h1 := hfi 1 f1 rfl
  rw [e0, o0, k0] at h0
  rw [e1, o1, k1] at h1
  rw [hcs] at h0 h1
  simp only [List.drop_zero, List.drop_succ_cons, List.take_succ_cons, List.take_zero, List.getElem?_cons_zero, List.getElem?_cons_succ] at h0 h1
  obtain ⟨A0, n0, m0, q0⟩ := slice_form Tryd.underlying23 h0
  obtain ⟨A1, n1, m1, q1⟩ := slice_form Tryd.underlying41 h1
  simp at q0 q1
  subst q0 q1
  obtain ⟨is, rfl, g1, g2, g3, g4⟩ := vals_in h0
  obtain ⟨ds, rfl, d1, d2, d3⟩ := bools_in h1
  unfold maxLen at d2
  refine ⟨A0, is, m0, A1, ds, m1, ?_, RowAt.mk g3 g4 ⟨g1, g2⟩, d3, d1, by omega⟩
  congr 1
  exact Array.ext' hcs

theorem row_nums {w : World} {A : Option Addr} {is : List LV} {c : Nat} (h : RowAt w A is c) : ∀ x ∈ LV.js is, NumsOK x := by
  unfold RowAt LV.At at h
  exact LV.AllAt.nums is h.2.2.1

set_option maxRecDepth 8000 in
set_option maxHeartbeats 16000000 in
theorem klists_walk (A : Option Addr) (is : List LV) (c : Nat) (D : Option Addr) (ds : List Bool) (cd : Nat) (B : Option Addr) (is2 : List LV) (d : Nat) (w : World) (hT : Tabs w) (hR : RowAt w A is c) (hD : Cells w w.heap.size D (ds.map Value.bool)) (hdc : ds.length ≤ cd) (hdm : cd ≤ 9223372036854775807) (hR2 : RowAt w B is2 d) :
    Calls Tryd.prog 8 #[.agg #[.slice A is.length c, .slice D ds.length cd], .slice B is2.length d] w fun e w' => e = .returned (.bool true) ∧ Below w.heap.size w w' := by
  obtain ⟨W, hW⟩ : ∃ W, W = w.alloc (.cells #[.slice A is.length c, .slice D ds.length cd] 43) := ⟨_, rfl⟩
  have hB0 : Below w.heap.size w W := by rw [hW]; exact (Below.refl _ _).alloc (Nat.le_refl _) _
  have hF0 : Blk W w.heap.size 43 #[.slice A is.length c, .slice D ds.length cd] := by rw [hW]; exact Blk.new w _ _
  have hTW := hT.below hB0
  have hRW := hR.below hB0
  have hR2W := hR2.below hB0
  have hDW := (hD.below hB0).whole
  have hn1 := row_nums hRW
  have hn2 := row_nums hR2W
  have hcap := hRW.cap
  have hcap2 := hR2W.cap
  have HA : Hid (∀ w1, Below W.heap.size W w1 → Calls Tryd.prog 9 #[] w1 fun e w' => e = .returned (.bool true) ∧ Below w1.heap.size w1 w') := Lib.hid fun w1 hb => awake04_any w1 (hTW.below hb)
  have HFEW : Hid (∀ w1, Below W.heap.size W w1 → Calls Tryd.prog 10 #[.slice A is.length c] w1 fun e w' => BoolRes e ∧ Below w1.heap.size w1 w') := Lib.hid fun w1 hb => few04_any A is c w1 (hRW.below hb)
  have HFEX : Hid (∀ w1, Below W.heap.size W w1 → Calls Tryd.prog 10 #[.slice B is2.length d] w1 fun e w' => BoolRes e ∧ Below w1.heap.size w1 w') := Lib.hid fun w1 hb => few04_any B is2 d w1 (hR2W.below hb)
  have HC1 : Hid (is.length ≤ 100 → ∀ w1, Below W.heap.size W w1 → Calls Tryd.prog 20 #[.slice A is.length c, .slice D ds.length cd] w1 fun e w' => KeyRes (compX ds (LV.js is)).1 (compX ds (LV.js is)).2 w1.heap.size e w' ∧ Below w1.heap.size w1 w') := Lib.hid fun h w1 hb => compound_any A is c D ds cd w1 (hTW.below hb) (hRW.below hb) ((hDW.below hb).whole) h
  have HC2 : Hid (is2.length ≤ 100 → ∀ w1, Below W.heap.size W w1 → Calls Tryd.prog 20 #[.slice B is2.length d, .slice D ds.length cd] w1 fun e w' => KeyRes (compX ds (LV.js is2)).1 (compX ds (LV.js is2)).2 w1.heap.size e w' ∧ Below w1.heap.size w1 w') := Lib.hid fun h w1 hb => compound_any B is2 d D ds cd w1 (hTW.below hb) (hR2W.below hb) ((hDW.below hb).whole) h
  have HTW := Lib.hid hTW
  have HRW := Lib.hid hRW
  have HR2W := Lib.hid hR2W
  have HDW := Lib.hid hDW
  have HN1 := Lib.hid hn1
  have HN2 := Lib.hid hn2
  have HW := Lib.hid hW
  clear hW hT hR hD hR2 hTW hRW hR2W hDW hn1 hn2
  go_enter Tryd.func8, Tryd.ntmps8
  go_upto_region 1 with fail
  rw [← HW.out]
  go_wp2_with fail
  (with_reducible refine (HA.out W (Below.refl _ _)).mono ?_)
  rintro e w1 ⟨rfl, hb1⟩
  have hB1 := hb1
  have hF1 := hF0.below hb1 hF0.lt
  clear hF0
  obtain ⟨c0, c1⟩ : w1.cell? ⟨w.heap.size, 0, none⟩ = some (.slice A is.length c) ∧ w1.cell? ⟨w.heap.size, 1, none⟩ = some (.slice D ds.length cd) := ⟨hF1.cell 0, hF1.cell 1⟩
  go_wp2_with fail
  (with_reducible refine (HFEW.out w1 hB1).mono ?_)
  rintro e w2 ⟨⟨bf, rfl⟩, hb2⟩
  clear c0 c1
  have hB2 := hB1.trans (hb2.mono hB1.size)
  have hF2 := hF1.below hb2 hF1.lt
  clear hF1
  cases bf with
  | false =>
    go_wp2_with fail
    refine (HA.out w2 hB2).mono ?_
    rintro e wz ⟨rfl, hbz⟩
    go_wp2
    go_ret
    exact ⟨rfl, hB0.trans ((hB2.trans (hbz.mono hB2.size)).mono hB0.size)⟩
  | true =>
  obtain ⟨p0, p1⟩ : w2.cell? ⟨w.heap.size, 0, none⟩ = some (.slice A is.length c) ∧ w2.cell? ⟨w.heap.size, 1, none⟩ = some (.slice D ds.length cd) := ⟨hF2.cell 0, hF2.cell 1⟩
  go_wp2_with fail
  (with_reducible refine (HFEX.out w2 hB2).mono ?_)
  rintro e w3 ⟨⟨bf, rfl⟩, hb3⟩
  have hB3 := hB2.trans (hb3.mono hB2.size)
  have hF3 := hF2.below hb3 hF2.lt
  clear hF2
  clear p0 p1
  cases bf with
  | false =>
    go_wp2_with fail
    refine (HA.out w3 hB3).mono ?_
    rintro e wz ⟨rfl, hbz⟩
    go_wp2
    go_ret
    exact ⟨rfl, hB0.trans ((hB3.trans (hbz.mono hB3.size)).mono hB0.size)⟩
  | true =>
  obtain ⟨p0, p1⟩ : w3.cell? ⟨w.heap.size, 0, none⟩ = some (.slice A is.length c) ∧ w3.cell? ⟨w.heap.size, 1, none⟩ = some (.slice D ds.length cd) := ⟨hF3.cell 0, hF3.cell 1⟩
  by_cases hll : is.length = is2.length
  rotate_left
  · have hlb : ((is.length : Int) != (is2.length : Int)) = true := by rw [bne_iff_ne]; omega
    clear hll
    go_wp2_with fail
    refine (HA.out w3 hB3).mono ?_
    rintro e wz ⟨rfl, hbz⟩
    go_wp2
    go_ret
    exact ⟨rfl, hB0.trans ((hB3.trans (hbz.mono hB3.size)).mono hB0.size)⟩
  have hlb : ((is.length : Int) != (is2.length : Int)) = false := by simp [hll]
  by_cases h100 : 100 < is.length
  · have hI : (100 : Int) < (is.length : Int) := by omega
    clear hll
    go_wp2_with fail
    refine (HA.out w3 hB3).mono ?_
    rintro e wz ⟨rfl, hbz⟩
    go_wp2
    go_ret
    exact ⟨rfl, hB0.trans ((hB3.trans (hbz.mono hB3.size)).mono hB0.size)⟩
  have hI : ¬ (100 : Int) < (is.length : Int) := by omega
  have HCC1 := Lib.hid (HC1.out (by omega))
  have HCC2 := Lib.hid (HC2.out (by omega))
  have HLL := Lib.hid hll
  have HIL : Hid (is.length ≤ 100) := Lib.hid (by omega)
  clear hll h100 HC1 HC2 HFEW HFEX
  have HOK1 : Hid ((compX ds (LV.js is)).2 = 0 → (∀ x ∈ LV.js is, FormedP x 6) ∧ (compX ds (LV.js is)).1 = compR ds 0 (LV.js is) ∧ (compR ds 0 (LV.js is)).length ≤ 200) := Lib.hid compX_ok
  have HOK2 : Hid ((compX ds (LV.js is2)).2 = 0 → (∀ x ∈ LV.js is2, FormedP x 6) ∧ (compX ds (LV.js is2)).1 = compR ds 0 (LV.js is2) ∧ (compR ds 0 (LV.js is2)).length ≤ 200) := Lib.hid compX_ok
  generalize compX ds (LV.js is) = XA at *
  generalize compX ds (LV.js is2) = XB at *
  obtain ⟨KA, EA⟩ := XA
  obtain ⟨KB, EB⟩ := XB
  go_wp2_with fail
  (with_reducible refine (HCC1.out w3 hB3).mono ?_)
  rintro e w4 ⟨⟨_, A1, q1, rfl, rfl, hq1, hm1, _, hc1⟩, hb4⟩
  have hB4 := hB3.trans (hb4.mono hB3.size)
  have hF4 := hF3.below hb4 hF3.lt
  clear hF3
  clear p0 p1
  obtain ⟨p0, p1⟩ : w4.cell? ⟨w.heap.size, 0, none⟩ = some (.slice A is.length c) ∧ w4.cell? ⟨w.heap.size, 1, none⟩ = some (.slice D ds.length cd) := ⟨hF4.cell 0, hF4.cell 1⟩
  go_wp2_with fail
  (with_reducible refine (HCC2.out w4 hB4).mono ?_)
  rintro e w5 ⟨⟨_, A2, q2, rfl, rfl, hq2, hm2, _, hc2⟩, hb5⟩
  have hB5 := hB4.trans (hb5.mono hB4.size)
  have hF5 := hF4.below hb5 hF4.lt
  clear hF4
  clear p0 p1
  obtain ⟨p0, p1⟩ : w5.cell? ⟨w.heap.size, 0, none⟩ = some (.slice A is.length c) ∧ w5.cell? ⟨w.heap.size, 1, none⟩ = some (.slice D ds.length cd) := ⟨hF5.cell 0, hF5.cell 1⟩
  have hc1a := (hc1.below hb5).whole
  by_cases hEA : EA = 0
  rotate_left
  · have hEb : (EA != 0) = true := by rw [bne_iff_ne]; exact hEA
    clear hEA
    go_wp2
    go_ret
    exact ⟨rfl, hB0.trans (hB5.mono hB0.size)⟩
  by_cases hEB : EB = 0
  rotate_left
  · have hEb : (EB != 0) = true := by rw [bne_iff_ne]; exact hEB
    subst hEA
    clear hEB
    go_wp2
    go_ret
    exact ⟨rfl, hB0.trans (hB5.mono hB0.size)⟩
  subst hEA hEB
  obtain ⟨hf1, hk1, hl1⟩ := HOK1.out rfl
  obtain ⟨hf2, hk2, hl2⟩ := HOK2.out rfl
  have hk1 : KA = compR ds 0 (LV.js is) := hk1
  have hk2 : KB = compR ds 0 (LV.js is2) := hk2
  have HF1 := Lib.hid hf1
  have HF2 := Lib.hid hf2
  have HK1 := Lib.hid hk1
  have HK2 := Lib.hid hk2
  have HL1 : Hid (KA.length ≤ 200) := Lib.hid (by rw [hk1]; exact hl1)
  have HL2 : Hid (KB.length ≤ 200) := Lib.hid (by rw [hk2]; exact hl2)
  obtain ⟨CC, hCC⟩ : ∃ CC, cmpR ds 0 (LV.js is) (LV.js is2) = CC := ⟨_, rfl⟩
  have HSG : Hid (CC = -1 ∨ CC = 0 ∨ CC = 1) := Lib.hid (by rw [← hCC]; exact cmpR_sgn _ _ _ _)
  have hord := comp_order ds 0 (LV.js is) (LV.js is2) (by rw [js_len, js_len]; exact HLL.out) (fun x hx => ⟨hf1 x hx, HN1.out x hx⟩) (fun x hx => ⟨hf2 x hx, HN2.out x hx⟩)
  rw [← hk1, ← hk2, hCC] at hord
  have HORD : Hid (lessB KA KB = decide (CC < 0) ∧ sameB KA KB = (CC == 0)) := Lib.hid (by
    by_cases h : CC = 0
    · rw [hord.1 h, h, lessB_self]; exact ⟨rfl, by simp [sameB]⟩
    · have hA := hord.2 h
      have hb : (CC == 0) = false := by simpa using h
      refine ⟨hA.less, ?_⟩
      rw [hb, sameB, decide_eq_false_iff_not]; exact hA.ne)
  have HO1 : Hid (Oct KA) := Lib.hid (by rw [hk1]; exact comp_oct ds 0 _ hf1)
  have HO2 : Hid (Oct KB) := Lib.hid (by rw [hk2]; exact comp_oct ds 0 _ hf2)
  have HC0 : Hid (cmpR ds 0 ((LV.js is).drop 0) ((LV.js is2).drop 0) = CC) := Lib.hid (by rw [List.drop_zero, List.drop_zero]; exact hCC)
  clear hf1 hf2 hk1 hk2 hl1 hl2 hord hCC HOK1 HOK2 HCC1 HCC2
  obtain ⟨NA, hNA⟩ : ∃ n, KA.length = n := ⟨_, rfl⟩
  obtain ⟨NB, hNB⟩ : ∃ n, KB.length = n := ⟨_, rfl⟩
  have HNA := Lib.hid hNA
  have HNB := Lib.hid hNB
  rw [hNA] at hq1 ⊢
  rw [hNB] at hq2 ⊢
  clear hNA hNB
  obtain ⟨N, hN⟩ : ∃ n, is2.length = n := ⟨_, rfl⟩
  have HN := Lib.hid hN
  rw [hN] at hcap2 ⊢
  clear hN hlb hI
  have hcN : N ≤ d := hcap2.1
  clear p0 p1
  go_wp2
  go_loopw [9, 10] (fun x i wr => ∃ (q : Nat) (cc : Int), x = .int .i64 cc ∧ i = .int .i64 q ∧ q ≤ N ∧ (cc = -1 ∨ cc = 0 ∨ cc = 1) ∧ Hid ((cc = 0 → cmpR ds q ((LV.js is).drop q) ((LV.js is2).drop q) = CC) ∧ (cc ≠ 0 → cc = CC)) ∧ Below w5.heap.size w5 wr)
    (fun _ i _ => N - (RowKit.intOf i).toNat)
  case atStart => exact ⟨0, 0, rfl, rfl, Nat.zero_le _, .inr (.inl rfl), Lib.hid ⟨fun _ => HC0.out, fun h => absurd rfl h⟩, Below.refl _ _⟩
  case round =>
    obtain ⟨q, cc, rfl, rfl, hq, hcs, HCQ, hbr⟩ := hrel
    have hBr := hB5.trans (hbr.mono hB5.size)
    have hFr := hF5.below hbr hF5.lt
    have lF := hFr.lt
    by_cases hlt : q < N
    rotate_left
    · have hqI : ¬ (q : Int) < (N : Int) := by omega
      have hce : cc = CC := by
        by_cases h0 : cc = 0
        · rw [h0, ← HCQ.out.1 h0, List.drop_of_length_le (by rw [js_len, HLL.out, HN.out]; omega)]; rfl
        · exact HCQ.out.2 h0
      subst hce
      obtain ⟨p0, p1⟩ : wr.cell? ⟨w.heap.size, 0, none⟩ = some (.slice A is.length c) ∧ wr.cell? ⟨w.heap.size, 1, none⟩ = some (.slice D ds.length cd) := ⟨hFr.cell 0, hFr.cell 1⟩
      have HSP : Hid (Calls Tryd.prog 21 #[.slice A1 NA q1, .slice D ds.length cd, .int .i64 (is.length : Nat)] wr fun e w' => (∃ (A' : Option Addr) (c' : Nat) (is3 : List LV), e = .returned (.tuple #[.slice A' is.length c', .int .i64 0]) ∧ LV.js is3 = LV.js is ∧ RowAt w' A' is3 c') ∧ Below wr.heap.size wr w') := Lib.hid (by
        have h := split_any A1 q1 KA D ds cd (LV.js is) wr (HTW.out.below hBr) ⟨(hc1a.below hbr).whole, by rw [HNA.out]; exact hq1, hm1, HO1.out⟩ ((HDW.out.below hBr).whole) HK1.out (fun x hx => ⟨HF1.out x hx, HN1.out x hx⟩) HL1.out (by rw [js_len]; exact HIL.out)
        rw [js_len, HNA.out] at h
        exact h)
      go_wp2_with fail
      (with_reducible refine HSP.out.mono ?_)
      rintro e wz ⟨⟨A3, c3, is3, rfl, hj3, hR3⟩, hbz⟩
      have HJ3 := Lib.hid hj3
      have hl3 : is3.length = is.length := by have := congrArg List.length hj3; rw [js_len, js_len] at this; exact this
      have HL3 := Lib.hid hl3
      have hBz := hBr.trans (hbz.mono hBr.size)
      have hFz := hFr.below hbz hFr.lt
      have hc1z := (hc1a.below hbr).whole.below hbz |>.whole
      have hc2z := (hc2.below hbr).whole.below hbz |>.whole
      have HR3 := Lib.hid hR3
      clear p0 p1 HSP hj3 hl3 hR3
      have hcap3 : is.length ≤ c3 ∧ c3 ≤ 9223372036854775807 := by have := HR3.out.cap; rw [HL3.out] at this; exact this
      obtain ⟨p0, p1⟩ : wz.cell? ⟨w.heap.size, 0, none⟩ = some (.slice A is.length c) ∧ wz.cell? ⟨w.heap.size, 1, none⟩ = some (.slice D ds.length cd) := ⟨hFz.cell 0, hFz.cell 1⟩
      have hnn : ((is.length : Int) != (is.length : Int)) = false := by simp
      go_upto_region 17 with fail
      clear p0 p1
      go_wp2
      go_loopw [13] (fun i wy => ∃ q : Nat, i = .int .i64 q ∧ q ≤ is.length ∧ Below wz.heap.size wz wy) (fun i _ => is.length - (RowKit.intOf i).toNat)
      case atStart => exact ⟨0, rfl, Nat.zero_le _, Below.refl _ _⟩
      case round =>
        obtain ⟨q', rfl, hq', hby⟩ := hrel
        have hBy := hBz.trans (hby.mono hBz.size)
        have hFy := hFz.below hby hFz.lt
        by_cases hlt' : q' < is.length
        · have hqI' : (q' : Int) < (is.length : Int) := by omega
          have hq0' : (0 : Int) ≤ (q' : Int) := by omega
          obtain ⟨b4, o4, rfl, hb4, hit4, hcell4⟩ := (HR3.out.below hby).item (i := q') (by rw [HL3.out]; exact hlt')
          obtain ⟨b5, o5, rfl, hb5', hit5, hcell5⟩ := (HRW.out.below hBy).item hlt'
          have HJE : Hid ((is3[q']'(by rw [HL3.out]; exact hlt')).j = (is[q']'hlt').j) := Lib.hid (by
            have h1 := js_at (is := is3) (q := q') (by rw [HL3.out]; exact hlt') (by rw [js_len, HL3.out]; exact hlt')
            have h2 := js_at (is := is) hlt' (by rw [js_len]; exact hlt')
            rw [← h1, ← h2]
            simp only [HJ3.out])
          have HSM : Hid (∀ w', Calm wr w' → Calls Tryd.prog 19 #[(is3[q']'(by rw [HL3.out]; exact hlt')).val, (is[q']'hlt').val] w' fun e w'' => e = .returned (.bool true) ∧ Below w'.heap.size w' w'') := Lib.hid fun w' hw' => (same_any _ _ _ w' (Nat.lt_succ_self _) (LV.At.below hw' _ hit4) (LV.At.below hw' _ hit5)).mono fun e w'' ⟨⟨bb, h1, h2⟩, h3⟩ => ⟨by rw [h1, h2.2 HJE.out], h3⟩
          generalize (is3[q']'(by rw [HL3.out]; exact hlt')) = x4 at *
          generalize (is[q']'hlt') = x5 at *
          obtain ⟨k4, n4, s4, An4, ns4, cn4, Ai4, is4, ci4⟩ := x4
          obtain ⟨k5, n5, s5, An5, ns5, cn5, Ai5, is5, ci5⟩ := x5
          change Hid (∀ w', _ → Calls Tryd.prog 19 #[.agg #[.int .i64 k4, .int .i64 n4, .string s4, .slice An4 ns4.length cn4, .slice Ai4 is4.length ci4], .agg #[.int .i64 k5, .int .i64 n5, .string s5, .slice An5 ns5.length cn5, .slice Ai5 is5.length ci5]] w' _) at HSM
          have HS : Hid (∀ w', Calm wr w' → w'.cell? ⟨w.heap.size, 0, none⟩ = some (.slice (some ⟨b5, o5, none⟩) is.length c) ∧ w'.cell? ⟨b4, o4 + q' * 5, none⟩ = some (.int .i64 k4) ∧ w'.cell? ⟨b4, o4 + q' * 5 + 1, none⟩ = some (.int .i64 n4) ∧ w'.cell? ⟨b4, o4 + q' * 5 + 2, none⟩ = some (.string s4) ∧ w'.cell? ⟨b4, o4 + q' * 5 + 3, none⟩ = some (.slice An4 ns4.length cn4) ∧ w'.cell? ⟨b4, o4 + q' * 5 + 4, none⟩ = some (.slice Ai4 is4.length ci4) ∧ w'.cell? ⟨b5, o5 + q' * 5, none⟩ = some (.int .i64 k5) ∧ w'.cell? ⟨b5, o5 + q' * 5 + 1, none⟩ = some (.int .i64 n5) ∧ w'.cell? ⟨b5, o5 + q' * 5 + 2, none⟩ = some (.string s5) ∧ w'.cell? ⟨b5, o5 + q' * 5 + 3, none⟩ = some (.slice An5 ns5.length cn5) ∧ w'.cell? ⟨b5, o5 + q' * 5 + 4, none⟩ = some (.slice Ai5 is5.length ci5)) := Lib.hid fun w' hw' => ⟨(hFy.below hw' hFy.lt).cell 0, (Below.cell (p := ⟨b4, o4 + q' * 5, none⟩) hw' hb4).trans (hcell4 0 _ rfl), (Below.cell (p := ⟨b4, o4 + q' * 5 + 1, none⟩) hw' hb4).trans (hcell4 1 _ rfl), (Below.cell (p := ⟨b4, o4 + q' * 5 + 2, none⟩) hw' hb4).trans (hcell4 2 _ rfl), (Below.cell (p := ⟨b4, o4 + q' * 5 + 3, none⟩) hw' hb4).trans (hcell4 3 _ rfl), (Below.cell (p := ⟨b4, o4 + q' * 5 + 4, none⟩) hw' hb4).trans (hcell4 4 _ rfl), (Below.cell (p := ⟨b5, o5 + q' * 5, none⟩) hw' hb5').trans (hcell5 0 _ rfl), (Below.cell (p := ⟨b5, o5 + q' * 5 + 1, none⟩) hw' hb5').trans (hcell5 1 _ rfl), (Below.cell (p := ⟨b5, o5 + q' * 5 + 2, none⟩) hw' hb5').trans (hcell5 2 _ rfl), (Below.cell (p := ⟨b5, o5 + q' * 5 + 3, none⟩) hw' hb5').trans (hcell5 3 _ rfl), (Below.cell (p := ⟨b5, o5 + q' * 5 + 4, none⟩) hw' hb5').trans (hcell5 4 _ rfl)⟩
          clear hcell4 hcell5 hit4 hit5 HJE
          go_wp2
          refine region_calm (by kernel_rfl) (by kernel_rfl) ?_
          repeat (first
            | go_big_quiet_skip
            | (go_big_quiet_want
               apply quiet_at
               · intro w' hw'
                 (obtain ⟨p0, d0, d1, d2, d3, d4, e0, e1, e2, e3, e4⟩ := HS.out _ (by assumption))
                 go_simp
                 first
                   | done
                   | exact rfl
                   | ((first | (go_at_call 19; (with_reducible refine (HSM.out _ (by assumption)).mono ?_); rintro e w9 ⟨h1, h2⟩; exact ⟨h1, Below.trans (by assumption) (h2.mono (Below.size (by assumption)))⟩)))
               (try simp only [Act.put, List.setIfInBounds_toArray, List.set_cons_zero, List.set_cons_succ])
               go_big_quiet_on))
          refine wpQuiet_nil ?_
          intro w5 hb5
          have hb6 : Below wz.heap.size wz w5 := hby.trans (Below.mono hb5 hby.size)
          go_wp2
          go_roundw
          case rel => exact ⟨q' + 1, by go_num, by omega, hb6⟩
          case measure => simp [RowKit.intOf]; omega
        · have hqI' : ¬ (q' : Int) < (is.length : Int) := by omega
          have hc1y := (hc1z.below hby).whole
          have hc2y := (hc2z.below hby).whole
          have HLC := Lib.hid (lessK_n A1 A2 KA KB NA NB q1 q2 _ wr HNA.out.symm HNB.out.symm HORD.out.1 hc1y hc2y (by have := HL1.out; omega) (by have := HL2.out; omega) HO1.out HO2.out)
          go_wp2_with fail
          (with_reducible refine HLC.out.mono ?_)
          rintro e wx ⟨rfl, hbx⟩
          have HSC := Lib.hid (sameK_n A1 A2 KA KB NA NB q1 q2 _ wx HNA.out.symm HNB.out.symm HORD.out.2 (hc1y.below hbx).whole (hc2y.below hbx).whole (by have := HL1.out; omega))
          go_wp2_with fail
          (with_reducible refine HSC.out.mono ?_)
          rintro e wv ⟨rfl, hbv⟩
          go_wp2
          go_ret
          exact ⟨rfl, hB0.trans ((((hBy.trans (hbx.mono hBy.size))).trans (hbv.mono (hBy.trans (hbx.mono hBy.size)).size)).mono hB0.size)⟩
    have hqI : (q : Int) < (N : Int) := by omega
    have hq0 : (0 : Int) ≤ (q : Int) := by omega
    by_cases hc0 : cc = 0
    rotate_left
    · have hcb : (cc == 0) = false := by simpa using hc0
      have hce := HCQ.out.2 hc0
      clear hc0
      subst hce
      obtain ⟨p0, p1⟩ : wr.cell? ⟨w.heap.size, 0, none⟩ = some (.slice A is.length c) ∧ wr.cell? ⟨w.heap.size, 1, none⟩ = some (.slice D ds.length cd) := ⟨hFr.cell 0, hFr.cell 1⟩
      have HSP : Hid (Calls Tryd.prog 21 #[.slice A1 NA q1, .slice D ds.length cd, .int .i64 (is.length : Nat)] wr fun e w' => (∃ (A' : Option Addr) (c' : Nat) (is3 : List LV), e = .returned (.tuple #[.slice A' is.length c', .int .i64 0]) ∧ LV.js is3 = LV.js is ∧ RowAt w' A' is3 c') ∧ Below wr.heap.size wr w') := Lib.hid (by
        have h := split_any A1 q1 KA D ds cd (LV.js is) wr (HTW.out.below hBr) ⟨(hc1a.below hbr).whole, by rw [HNA.out]; exact hq1, hm1, HO1.out⟩ ((HDW.out.below hBr).whole) HK1.out (fun x hx => ⟨HF1.out x hx, HN1.out x hx⟩) HL1.out (by rw [js_len]; exact HIL.out)
        rw [js_len, HNA.out] at h
        exact h)
      go_wp2_with fail
      (with_reducible refine HSP.out.mono ?_)
      rintro e wz ⟨⟨A3, c3, is3, rfl, hj3, hR3⟩, hbz⟩
      have HJ3 := Lib.hid hj3
      have hl3 : is3.length = is.length := by have := congrArg List.length hj3; rw [js_len, js_len] at this; exact this
      have HL3 := Lib.hid hl3
      have hBz := hBr.trans (hbz.mono hBr.size)
      have hFz := hFr.below hbz hFr.lt
      have hc1z := (hc1a.below hbr).whole.below hbz |>.whole
      have hc2z := (hc2.below hbr).whole.below hbz |>.whole
      have HR3 := Lib.hid hR3
      clear p0 p1 HSP hj3 hl3 hR3
      have hcap3 : is.length ≤ c3 ∧ c3 ≤ 9223372036854775807 := by have := HR3.out.cap; rw [HL3.out] at this; exact this
      obtain ⟨p0, p1⟩ : wz.cell? ⟨w.heap.size, 0, none⟩ = some (.slice A is.length c) ∧ wz.cell? ⟨w.heap.size, 1, none⟩ = some (.slice D ds.length cd) := ⟨hFz.cell 0, hFz.cell 1⟩
      have hnn : ((is.length : Int) != (is.length : Int)) = false := by simp
      go_upto_region 17 with fail
      clear p0 p1
      go_wp2
      go_loopw [13] (fun i wy => ∃ q : Nat, i = .int .i64 q ∧ q ≤ is.length ∧ Below wz.heap.size wz wy) (fun i _ => is.length - (RowKit.intOf i).toNat)
      case atStart => exact ⟨0, rfl, Nat.zero_le _, Below.refl _ _⟩
      case round =>
        obtain ⟨q', rfl, hq', hby⟩ := hrel
        have hBy := hBz.trans (hby.mono hBz.size)
        have hFy := hFz.below hby hFz.lt
        by_cases hlt' : q' < is.length
        · have hqI' : (q' : Int) < (is.length : Int) := by omega
          have hq0' : (0 : Int) ≤ (q' : Int) := by omega
          obtain ⟨b4, o4, rfl, hb4, hit4, hcell4⟩ := (HR3.out.below hby).item (i := q') (by rw [HL3.out]; exact hlt')
          obtain ⟨b5, o5, rfl, hb5', hit5, hcell5⟩ := (HRW.out.below hBy).item hlt'
          have HJE : Hid ((is3[q']'(by rw [HL3.out]; exact hlt')).j = (is[q']'hlt').j) := Lib.hid (by
            have h1 := js_at (is := is3) (q := q') (by rw [HL3.out]; exact hlt') (by rw [js_len, HL3.out]; exact hlt')
            have h2 := js_at (is := is) hlt' (by rw [js_len]; exact hlt')
            rw [← h1, ← h2]
            simp only [HJ3.out])
          have HSM : Hid (∀ w', Calm wr w' → Calls Tryd.prog 19 #[(is3[q']'(by rw [HL3.out]; exact hlt')).val, (is[q']'hlt').val] w' fun e w'' => e = .returned (.bool true) ∧ Below w'.heap.size w' w'') := Lib.hid fun w' hw' => (same_any _ _ _ w' (Nat.lt_succ_self _) (LV.At.below hw' _ hit4) (LV.At.below hw' _ hit5)).mono fun e w'' ⟨⟨bb, h1, h2⟩, h3⟩ => ⟨by rw [h1, h2.2 HJE.out], h3⟩
          generalize (is3[q']'(by rw [HL3.out]; exact hlt')) = x4 at *
          generalize (is[q']'hlt') = x5 at *
          obtain ⟨k4, n4, s4, An4, ns4, cn4, Ai4, is4, ci4⟩ := x4
          obtain ⟨k5, n5, s5, An5, ns5, cn5, Ai5, is5, ci5⟩ := x5
          change Hid (∀ w', _ → Calls Tryd.prog 19 #[.agg #[.int .i64 k4, .int .i64 n4, .string s4, .slice An4 ns4.length cn4, .slice Ai4 is4.length ci4], .agg #[.int .i64 k5, .int .i64 n5, .string s5, .slice An5 ns5.length cn5, .slice Ai5 is5.length ci5]] w' _) at HSM
          have HS : Hid (∀ w', Calm wr w' → w'.cell? ⟨w.heap.size, 0, none⟩ = some (.slice (some ⟨b5, o5, none⟩) is.length c) ∧ w'.cell? ⟨b4, o4 + q' * 5, none⟩ = some (.int .i64 k4) ∧ w'.cell? ⟨b4, o4 + q' * 5 + 1, none⟩ = some (.int .i64 n4) ∧ w'.cell? ⟨b4, o4 + q' * 5 + 2, none⟩ = some (.string s4) ∧ w'.cell? ⟨b4, o4 + q' * 5 + 3, none⟩ = some (.slice An4 ns4.length cn4) ∧ w'.cell? ⟨b4, o4 + q' * 5 + 4, none⟩ = some (.slice Ai4 is4.length ci4) ∧ w'.cell? ⟨b5, o5 + q' * 5, none⟩ = some (.int .i64 k5) ∧ w'.cell? ⟨b5, o5 + q' * 5 + 1, none⟩ = some (.int .i64 n5) ∧ w'.cell? ⟨b5, o5 + q' * 5 + 2, none⟩ = some (.string s5) ∧ w'.cell? ⟨b5, o5 + q' * 5 + 3, none⟩ = some (.slice An5 ns5.length cn5) ∧ w'.cell? ⟨b5, o5 + q' * 5 + 4, none⟩ = some (.slice Ai5 is5.length ci5)) := Lib.hid fun w' hw' => ⟨(hFy.below hw' hFy.lt).cell 0, (Below.cell (p := ⟨b4, o4 + q' * 5, none⟩) hw' hb4).trans (hcell4 0 _ rfl), (Below.cell (p := ⟨b4, o4 + q' * 5 + 1, none⟩) hw' hb4).trans (hcell4 1 _ rfl), (Below.cell (p := ⟨b4, o4 + q' * 5 + 2, none⟩) hw' hb4).trans (hcell4 2 _ rfl), (Below.cell (p := ⟨b4, o4 + q' * 5 + 3, none⟩) hw' hb4).trans (hcell4 3 _ rfl), (Below.cell (p := ⟨b4, o4 + q' * 5 + 4, none⟩) hw' hb4).trans (hcell4 4 _ rfl), (Below.cell (p := ⟨b5, o5 + q' * 5, none⟩) hw' hb5').trans (hcell5 0 _ rfl), (Below.cell (p := ⟨b5, o5 + q' * 5 + 1, none⟩) hw' hb5').trans (hcell5 1 _ rfl), (Below.cell (p := ⟨b5, o5 + q' * 5 + 2, none⟩) hw' hb5').trans (hcell5 2 _ rfl), (Below.cell (p := ⟨b5, o5 + q' * 5 + 3, none⟩) hw' hb5').trans (hcell5 3 _ rfl), (Below.cell (p := ⟨b5, o5 + q' * 5 + 4, none⟩) hw' hb5').trans (hcell5 4 _ rfl)⟩
          clear hcell4 hcell5 hit4 hit5 HJE
          go_wp2
          refine region_calm (by kernel_rfl) (by kernel_rfl) ?_
          repeat (first
            | go_big_quiet_skip
            | (go_big_quiet_want
               apply quiet_at
               · intro w' hw'
                 (obtain ⟨p0, d0, d1, d2, d3, d4, e0, e1, e2, e3, e4⟩ := HS.out _ (by assumption))
                 go_simp
                 first
                   | done
                   | exact rfl
                   | ((first | (go_at_call 19; (with_reducible refine (HSM.out _ (by assumption)).mono ?_); rintro e w9 ⟨h1, h2⟩; exact ⟨h1, Below.trans (by assumption) (h2.mono (Below.size (by assumption)))⟩)))
               (try simp only [Act.put, List.setIfInBounds_toArray, List.set_cons_zero, List.set_cons_succ])
               go_big_quiet_on))
          refine wpQuiet_nil ?_
          intro w5 hb5
          have hb6 : Below wz.heap.size wz w5 := hby.trans (Below.mono hb5 hby.size)
          go_wp2
          go_roundw
          case rel => exact ⟨q' + 1, by go_num, by omega, hb6⟩
          case measure => simp [RowKit.intOf]; omega
        · have hqI' : ¬ (q' : Int) < (is.length : Int) := by omega
          have hc1y := (hc1z.below hby).whole
          have hc2y := (hc2z.below hby).whole
          have HLC := Lib.hid (lessK_n A1 A2 KA KB NA NB q1 q2 _ wr HNA.out.symm HNB.out.symm HORD.out.1 hc1y hc2y (by have := HL1.out; omega) (by have := HL2.out; omega) HO1.out HO2.out)
          go_wp2_with fail
          (with_reducible refine HLC.out.mono ?_)
          rintro e wx ⟨rfl, hbx⟩
          have HSC := Lib.hid (sameK_n A1 A2 KA KB NA NB q1 q2 _ wx HNA.out.symm HNB.out.symm HORD.out.2 (hc1y.below hbx).whole (hc2y.below hbx).whole (by have := HL1.out; omega))
          go_wp2_with fail
          (with_reducible refine HSC.out.mono ?_)
          rintro e wv ⟨rfl, hbv⟩
          go_wp2
          go_ret
          exact ⟨rfl, hB0.trans ((((hBy.trans (hbx.mono hBy.size))).trans (hbv.mono (hBy.trans (hbx.mono hBy.size)).size)).mono hB0.size)⟩
    subst hc0
    have hqi : q < is.length := by rw [HLL.out, HN.out]; exact hlt
    have hqi2 : q < is2.length := by rw [HN.out]; exact hlt
    have hqI3 : (q : Int) < (is.length : Int) := by omega
    obtain ⟨b4, o4, rfl, hb4, hit4, hcell4⟩ := (HRW.out.below hBr).item hqi
    obtain ⟨b5, o5, rfl, hb5', hit5, hcell5⟩ := (HR2W.out.below hBr).item hqi2
    have hm4 : is[q].j ∈ LV.js is := by rw [LV.js_map]; exact List.mem_map.2 ⟨_, List.getElem_mem hqi, rfl⟩
    have hm5 : is2[q].j ∈ LV.js is2 := by rw [LV.js_map]; exact List.mem_map.2 ⟨_, List.getElem_mem hqi2, rfl⟩
    obtain ⟨cj, hcj⟩ : ∃ cj, cmpJ is[q].j is2[q].j = cj := ⟨_, rfl⟩
    have HCJ : Hid ((if cj ≠ 0 then (if ds.getD q false = true then -cj else cj) else cmpR ds (q + 1) ((LV.js is).drop (q + 1)) ((LV.js is2).drop (q + 1))) = CC) := Lib.hid (by rw [← HCQ.out.1 rfl, cmpR_drop ds (LV.js is) (LV.js is2) q (by rw [js_len]; exact hqi) (by rw [js_len]; exact hqi2), js_at hqi, js_at hqi2, hcj])
    have hcjs : cj = -1 ∨ cj = 0 ∨ cj = 1 := by rw [← hcj]; exact cmpJ_range _ _
    have HCM : Hid (∀ w', Calm wr w' → Calls Tryd.prog 16 #[(is[q]).val, (is2[q]).val] w' fun e w'' => e = .returned (.int .i64 cj) ∧ Below w'.heap.size w' w'') := Lib.hid fun w' hw' => by
      have h := oCompare_any is[q] is2[q] w' (HTW.out.below (hBr.trans (Below.mono hw' hBr.size))) (LV.At.below hw' _ hit4) (LV.At.below hw' _ hit5)
      rw [cmpX_leaf (HF1.out _ hm4) (HF2.out _ hm5), hcj] at h
      exact h
    clear hcj hm4 hm5
    generalize is[q] = x4 at *
    generalize is2[q] = x5 at *
    obtain ⟨k4, n4, s4, An4, ns4, cn4, Ai4, is4, ci4⟩ := x4
    obtain ⟨k5, n5, s5, An5, ns5, cn5, Ai5, is5, ci5⟩ := x5
    change Hid (∀ w', _ → Calls Tryd.prog 16 #[.agg #[.int .i64 k4, .int .i64 n4, .string s4, .slice An4 ns4.length cn4, .slice Ai4 is4.length ci4], .agg #[.int .i64 k5, .int .i64 n5, .string s5, .slice An5 ns5.length cn5, .slice Ai5 is5.length ci5]] w' _) at HCM
    have HS : Hid (∀ w', Calm wr w' → w'.cell? ⟨w.heap.size, 0, none⟩ = some (.slice (some ⟨b4, o4, none⟩) is.length c) ∧ w'.cell? ⟨b4, o4 + q * 5, none⟩ = some (.int .i64 k4) ∧ w'.cell? ⟨b4, o4 + q * 5 + 1, none⟩ = some (.int .i64 n4) ∧ w'.cell? ⟨b4, o4 + q * 5 + 2, none⟩ = some (.string s4) ∧ w'.cell? ⟨b4, o4 + q * 5 + 3, none⟩ = some (.slice An4 ns4.length cn4) ∧ w'.cell? ⟨b4, o4 + q * 5 + 4, none⟩ = some (.slice Ai4 is4.length ci4) ∧ w'.cell? ⟨b5, o5 + q * 5, none⟩ = some (.int .i64 k5) ∧ w'.cell? ⟨b5, o5 + q * 5 + 1, none⟩ = some (.int .i64 n5) ∧ w'.cell? ⟨b5, o5 + q * 5 + 2, none⟩ = some (.string s5) ∧ w'.cell? ⟨b5, o5 + q * 5 + 3, none⟩ = some (.slice An5 ns5.length cn5) ∧ w'.cell? ⟨b5, o5 + q * 5 + 4, none⟩ = some (.slice Ai5 is5.length ci5)) := Lib.hid fun w' hw' => ⟨(hFr.below hw' hFr.lt).cell 0, (Below.cell (p := ⟨b4, o4 + q * 5, none⟩) hw' hb4).trans (hcell4 0 _ rfl), (Below.cell (p := ⟨b4, o4 + q * 5 + 1, none⟩) hw' hb4).trans (hcell4 1 _ rfl), (Below.cell (p := ⟨b4, o4 + q * 5 + 2, none⟩) hw' hb4).trans (hcell4 2 _ rfl), (Below.cell (p := ⟨b4, o4 + q * 5 + 3, none⟩) hw' hb4).trans (hcell4 3 _ rfl), (Below.cell (p := ⟨b4, o4 + q * 5 + 4, none⟩) hw' hb4).trans (hcell4 4 _ rfl), (Below.cell (p := ⟨b5, o5 + q * 5, none⟩) hw' hb5').trans (hcell5 0 _ rfl), (Below.cell (p := ⟨b5, o5 + q * 5 + 1, none⟩) hw' hb5').trans (hcell5 1 _ rfl), (Below.cell (p := ⟨b5, o5 + q * 5 + 2, none⟩) hw' hb5').trans (hcell5 2 _ rfl), (Below.cell (p := ⟨b5, o5 + q * 5 + 3, none⟩) hw' hb5').trans (hcell5 3 _ rfl), (Below.cell (p := ⟨b5, o5 + q * 5 + 4, none⟩) hw' hb5').trans (hcell5 4 _ rfl)⟩
    clear hcell4 hcell5 hit4 hit5
    go_wp2
    refine region_calm (by kernel_rfl) (by kernel_rfl) ?_
    repeat (first
      | go_big_quiet_skip
      | (go_big_quiet_want
         apply quiet_at
         · intro w' hw'
           (obtain ⟨p0, d0, d1, d2, d3, d4, e0, e1, e2, e3, e4⟩ := HS.out _ (by assumption))
           go_simp
           first
             | done
             | exact rfl
             | ((first | (go_at_call 16; (with_reducible refine (HCM.out _ (by assumption)).mono ?_); rintro e w9 ⟨h1, h2⟩; exact ⟨h1, Below.trans (by assumption) (h2.mono (Below.size (by assumption)))⟩)))
         (try simp only [Act.put, List.setIfInBounds_toArray, List.set_cons_zero, List.set_cons_succ])
         go_big_quiet_on))
    refine wpQuiet_nil ?_
    intro w5 hb5
    have hb6 : Below wr.heap.size wr w5 := hb5
    have hF5 := hFr.below hb6 hFr.lt
    obtain ⟨p0, p1⟩ : w5.cell? ⟨w.heap.size, 0, none⟩ = some (.slice (some ⟨b4, o4, none⟩) is.length c) ∧ w5.cell? ⟨w.heap.size, 1, none⟩ = some (.slice D ds.length cd) := ⟨hF5.cell 0, hF5.cell 1⟩
    have hbr6 := hbr.trans (hb6.mono hbr.size)
    have hB6 := hBr.trans (hb6.mono hBr.size)
    have hneg : IntKind.i64.wrap (-cj) = -cj := by rw [IntKind.wrap_i64]; omega
    have hstep : ∀ dn : Bool, dn = ds.getD q false → ((if dn = true then -cj else cj) = 0 → cmpR ds (q + 1) ((LV.js is).drop (q + 1)) ((LV.js is2).drop (q + 1)) = CC) ∧ ((if dn = true then -cj else cj) ≠ 0 → (if dn = true then -cj else cj) = CC) := fun dn hdn => by
      have h := HCJ.out
      rw [← hdn] at h
      by_cases hc : cj = 0
      · subst hc
        rw [if_neg (by simp)] at h
        exact ⟨fun _ => h, fun h' => by exfalso; apply h'; split <;> rfl⟩
      · rw [if_pos hc] at h
        exact ⟨fun h' => by exfalso; split at h' <;> omega, fun _ => h⟩
    have HST := Lib.hid hstep
    clear hstep HCM HS
    by_cases hqM : q < ds.length
    · have hqMI : (q : Int) < (ds.length : Int) := by omega
      have hgd : ds.getD q false = ds[q] := by rw [List.getD_eq_getElem?_getD, List.getElem?_eq_getElem hqM]; rfl
      obtain ⟨bd, od, rfl, hbd, hcd⟩ := (HDW.out.below hB6) q (.bool ds[q]) (by rw [List.getElem?_map, List.getElem?_eq_getElem hqM]; rfl)
      cases hdv : ds[q] with
      | true =>
        rw [hdv] at hcd
        have HQ2 := Lib.hid (HST.out true (by rw [hgd, hdv]))
        clear hdv hgd
        go_wp2
        go_roundw
        case rel => exact ⟨q + 1, -cj, by go_num, by go_num, by omega, by omega, HQ2, hbr6⟩
        case measure => simp [RowKit.intOf]; omega
      | false =>
        rw [hdv] at hcd
        have HQ2 := Lib.hid (HST.out false (by rw [hgd, hdv]))
        clear hdv hgd
        go_wp2
        go_roundw
        case rel => exact ⟨q + 1, cj, by go_num, by go_num, by omega, by omega, HQ2, hbr6⟩
        case measure => simp [RowKit.intOf]; omega
    · have hqMI : ¬ (q : Int) < (ds.length : Int) := by omega
      have HQ2 := Lib.hid (HST.out false (by rw [List.getD_eq_getElem?_getD, List.getElem?_eq_none (by omega)]; rfl))
      go_wp2
      go_roundw
      case rel => exact ⟨q + 1, cj, by go_num, by go_num, by omega, by omega, HQ2, hbr6⟩
      case measure => simp [RowKit.intOf]; omega
end Go.Proofs.YtpnbmgfnnmmokaaDoor
