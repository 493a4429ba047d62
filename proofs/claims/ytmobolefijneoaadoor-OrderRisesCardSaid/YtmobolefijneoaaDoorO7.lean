/-
  munimentlaw03.few with its bound; OrderSorts' walk.
-/
import Derived.Test.YtmobolefijneoaaDoorO6
set_option linter.unusedVariables false
namespace Go.Proofs.YtmobolefijneoaaDoor
open Go.RowKit Go.Joins Go.Deep

/-- few's answer: if true, there are not more than 600. -/
def FewLen (n : Nat) (e : Ending) : Prop := ∃ b : Bool, e = .returned (.bool b) ∧ (b = true → n ≤ 600)
set_option maxHeartbeats 8000000 in
theorem few03_len (A : Option Addr) (is : List LV) (c : Nat) (w : World) (hR : RowAt w A is c) : Calls Tryd.prog 10 #[.slice A is.length c] w fun e w' => FewLen is.length e ∧ Below w.heap.size w w' := by
  have hcap := hR.cap
  have HR := Lib.hid hR
  clear hR
  go_enter Tryd.func10, Tryd.ntmps10
  go_wp2
  go_loopw [3, 4] (fun x i wr => ∃ a q : Nat, x = .int .i64 a ∧ i = .int .i64 q ∧ a ≤ 2000 ∧ q ≤ a ∧ q ≤ is.length ∧ Below w.heap.size w wr) (fun _ i _ => is.length - (RowKit.intOf i).toNat)
  case atStart => exact ⟨0, 0, rfl, rfl, Nat.zero_le _, Nat.le_refl _, Nat.zero_le _, Below.refl _ _⟩
  case round =>
    obtain ⟨a, q, rfl, rfl, ha, hqa, hq, hB⟩ := hrel
    by_cases hlt : q < is.length
    · have hqI : (q : Int) < (is.length : Int) := by omega
      by_cases h6 : a ≤ 600
      · have h6I : (a : Int) ≤ 600 := by omega
        obtain ⟨b, off, rfl, hb, hit, hcell⟩ := (HR.out.below hB).item hlt
        have HN := Lib.hid (rnodes_any is[q] wr hit)
        have HF : Hid (∀ w', Below wr.heap.size wr w' → Calls Tryd.prog 22 #[(is[q]).val] w' fun e w'' => BoolRes e ∧ Below w'.heap.size w' w'') := Lib.hid fun w' hb' => few_any _ _ w' (Nat.lt_succ_self _) (hit.below hb' _)
        obtain ⟨x, hx⟩ : ∃ x, is[q] = x := ⟨_, rfl⟩
        rw [hx] at HN HF hcell
        obtain ⟨k', n', s', An', ns', cn', Ai', is', ci'⟩ := x
        have d0 : wr.cell? ⟨b, off + q * 5, none⟩ = some (.int .i64 k') := hcell 0 _ rfl
        have d1 : wr.cell? ⟨b, off + q * 5 + 1, none⟩ = some (.int .i64 n') := hcell 1 _ rfl
        have d2 : wr.cell? ⟨b, off + q * 5 + 2, none⟩ = some (.string s') := hcell 2 _ rfl
        have d3 : wr.cell? ⟨b, off + q * 5 + 3, none⟩ = some (.slice An' ns'.length cn') := hcell 3 _ rfl
        have d4 : wr.cell? ⟨b, off + q * 5 + 4, none⟩ = some (.slice Ai' is'.length ci') := hcell 4 _ rfl
        clear hcell hx hit
        go_wp2_with fail
        refine HN.out.mono ?_
        rintro e w2 ⟨⟨n2, rfl, g1, g2⟩, hb2⟩
        obtain ⟨e0, e1, e2, e3, e4⟩ : w2.cell? ⟨b, off + q * 5, none⟩ = some (.int .i64 k') ∧ w2.cell? ⟨b, off + q * 5 + 1, none⟩ = some (.int .i64 n') ∧ w2.cell? ⟨b, off + q * 5 + 2, none⟩ = some (.string s') ∧ w2.cell? ⟨b, off + q * 5 + 3, none⟩ = some (.slice An' ns'.length cn') ∧ w2.cell? ⟨b, off + q * 5 + 4, none⟩ = some (.slice Ai' is'.length ci') := ⟨(hb2.cell (p := ⟨b, off + q * 5, none⟩) (by exact hb)).trans d0, (hb2.cell (p := ⟨b, off + q * 5 + 1, none⟩) (by exact hb)).trans d1, (hb2.cell (p := ⟨b, off + q * 5 + 2, none⟩) (by exact hb)).trans d2, (hb2.cell (p := ⟨b, off + q * 5 + 3, none⟩) (by exact hb)).trans d3, (hb2.cell (p := ⟨b, off + q * 5 + 4, none⟩) (by exact hb)).trans d4⟩
        clear d0 d1 d2 d3 d4
        go_wp2_with fail
        refine (HF.out w2 hb2).mono ?_
        rintro e w3 ⟨⟨bb, rfl⟩, hb3⟩
        have hB3 := hB.trans ((hb2.trans (hb3.mono hb2.size)).mono hB.size)
        clear e0 e1 e2 e3 e4
        cases bb with
        | false =>
          go_wp2
          go_ret
          exact ⟨⟨_, rfl, fun h => by cases h⟩, hB3⟩
        | true =>
          go_wp2
          go_roundw
          case rel => exact ⟨a + n2, q + 1, by go_num, by go_num, by omega, by omega, by omega, hB3⟩
          case measure => simp [RowKit.intOf]; omega
      · have h6I : ¬ (a : Int) ≤ 600 := by omega
        go_wp2
        go_ret
        exact ⟨⟨_, rfl, fun h => by simp at h⟩, hB⟩
    · have hqI : ¬ (q : Int) < (is.length : Int) := by omega
      go_wp2
      go_ret
      exact ⟨⟨_, rfl, fun h => by simp at h; omega⟩, hB⟩

/-- Two sorts answer the same values. -/
theorem SortedV.same {is it it2 : List LV} (h1 : ¬ AllF is → it = []) (h2 : AllF is → (LV.js it).Perm (LV.js is) ∧ SortOn (LV.js it) 0 it.length)
    (g1 : ¬ AllF is → it2 = []) (g2 : AllF is → (LV.js it2).Perm (LV.js is) ∧ SortOn (LV.js it2) 0 it2.length) : LV.js it = LV.js it2 := by
  by_cases ha : AllF is
  · obtain ⟨p1, s1⟩ := h2 ha
    obtain ⟨p2, s2⟩ := g2 ha
    refine sorted_same _ _ 6 (fun x hx => ?_) (p2.trans p1.symm) (by rw [js_length]; exact s1) (by rw [js_length]; exact s2)
    have hm := p1.mem_iff.1 hx
    rw [LV.js_map] at hm
    obtain ⟨v, hv, rfl⟩ := List.mem_map.1 hm
    exact ha v hv
  · rw [h1 ha, g1 ha]

set_option maxHeartbeats 8000000 in
set_option maxRecDepth 20000 in
theorem sorts_walk (A : Option Addr) (is : List LV) (c : Nat) (w : World) (hT : Tabs w) (hR : RowAt w A is c) :
    Calls Tryd.prog 7 #[.slice A is.length c] w fun e w' => e = .returned (.bool true) ∧ Below w.heap.size w w' := by
  have hcap := hR.cap
  have HA := Lib.hid (fun w1 (hb : Below w.heap.size w w1) => awake03_any w1 (hT.below hb))
  have HFEW := Lib.hid (fun w1 (hb : Below w.heap.size w w1) => few03_len A is c w1 (hR.below hb))
  have HS1 := Lib.hid (fun (hl : is.length ≤ 1000) w1 (hb : Below w.heap.size w w1) => osort_any A is c w1 (hT.below hb) (hR.below hb) hl)
  have HS2 := Lib.hid (fun (hl : is.length ≤ 1000) w1 (hb : Below w.heap.size w w1) => rsort_any A is c w1 (hR.below hb) hl)
  have HL1 := Lib.hid (fun (hl : is.length ≤ 1000) w1 (hb : Below w.heap.size w w1) => oleast_any A is c w1 (hT.below hb) (hR.below hb) hl)
  have HL2 := Lib.hid (fun (hl : is.length ≤ 1000) w1 (hb : Below w.heap.size w w1) => rleast_any A is c w1 (hR.below hb) hl)
  obtain ⟨n, hn⟩ : ∃ n, is.length = n := ⟨_, rfl⟩
  rw [hn] at HFEW HS1 HS2 HL1 HL2 hcap ⊢
  have HN := Lib.hid hn
  clear hn hT hR
  go_enter Tryd.func7, Tryd.ntmps7
  go_wp2_with fail
  refine (HA.out w (Below.refl _ _)).mono ?_
  rintro e w1 ⟨rfl, hb1⟩
  go_wp2_with fail
  refine (HFEW.out w1 hb1).mono ?_
  rintro e w2 ⟨⟨bf, rfl, hbf⟩, hb2⟩
  have hB2 := hb1.trans (hb2.mono hb1.size)
  have HBF := Lib.hid hbf
  clear hb1 hb2 hbf HFEW
  cases bf with
  | false =>
    go_wp2_with fail
    refine (HA.out w2 hB2).mono ?_
    rintro e w3 ⟨rfl, hb3⟩
    go_wp2
    go_ret
    exact ⟨rfl, hB2.trans (hb3.mono hB2.size)⟩
  | true =>
  have hl : n ≤ 1000 := Nat.le_trans (HBF.out rfl) (by omega)
  clear HBF HA
  have K1 := Lib.hid (HS1.out hl w2 hB2)
  clear HS1
  go_wp2_with fail
  refine K1.out.mono ?_
  rintro e w3 ⟨A1, it1, c1, rfl, hR1, hb3, x1, y1⟩
  have hB3 := hB2.trans (hb3.mono hB2.size)
  have K2 := Lib.hid (HS2.out hl w3 hB3)
  have HR1 := Lib.hid hR1
  have X1 := Lib.hid x1
  have Y1 := Lib.hid y1
  obtain ⟨m, hm⟩ : ∃ m, it1.length = m := ⟨_, rfl⟩
  have hcap1 := hR1.cap
  rw [hm] at hcap1 ⊢
  have HM := Lib.hid hm
  clear HS2 hb3 hR1 x1 y1 hm K1
  go_wp2_with fail
  refine K2.out.mono ?_
  rintro e w4 ⟨A2, it2, c2, rfl, hR2, hb4, x2, y2⟩
  have HJ := Lib.hid (SortedV.same X1.out Y1.out x2 y2)
  obtain hm2 : it2.length = m := by rw [← HM.out, ← js_length it1, HJ.out, js_length]
  have hB4 := hB3.trans (hb4.mono hB3.size)
  have HR1b := Lib.hid (HR1.out.below hb4)
  have HR2 := Lib.hid hR2
  have hcap2 := hR2.cap
  rw [hm2] at hcap2 ⊢
  have HM2 := Lib.hid hm2
  have L1 := Lib.hid (HL1.out hl w4 hB4)
  clear hb4 hR2 x2 y2 hm2 HR1 X1 Y1 K2 HL1
  go_wp2_with fail
  refine L1.out.mono ?_
  rintro e w5 ⟨⟨r1, rfl, hr1⟩, hb5⟩
  have hB5 := hB4.trans (hb5.mono hB4.size)
  have L2 := Lib.hid (HL2.out hl w5 hB5)
  have HR1c := Lib.hid (HR1b.out.below hb5)
  have HR2c := Lib.hid (HR2.out.below hb5)
  have HQ1 := Lib.hid hr1
  clear hb5 hr1 HR1b HR2 L1 HL2
  go_wp2_with fail
  refine L2.out.mono ?_
  rintro e w6 ⟨⟨r2, rfl, hr2⟩, hb6⟩
  have hB6 := hB5.trans (hb6.mono hB5.size)
  obtain rfl : r1 = r2 := HQ1.out.one hr2
  have HR1d := Lib.hid (HR1c.out.below hb6)
  have HR2d := Lib.hid (HR2c.out.below hb6)
  clear hb6 hr2 HR1c HR2c L2 HQ1
  go_wp2
  go_loopw [5] (fun vi wr => ∃ i : Nat, vi = .int .i64 i ∧ i ≤ m ∧ Below w6.heap.size w6 wr) (fun vi _ => m - (RowKit.intOf vi).toNat)
  case atStart => exact ⟨0, rfl, Nat.zero_le _, Below.refl _ _⟩
  case round =>
    obtain ⟨i, rfl, hi, hB⟩ := hrel
    by_cases hlt : i < m
    · have hiI : (i : Int) < (m : Int) := by omega
      have hi0 : (0 : Int) ≤ (i : Int) := by omega
      have hil1 : i < it1.length := by rw [HM.out]; exact hlt
      have hil2 : i < it2.length := by rw [HM2.out]; exact hlt
      have hRa := HR1d.out.below hB
      have hRb := HR2d.out.below hB
      obtain ⟨b1, off1, rfl, _⟩ := hRa.addr (by omega)
      obtain ⟨b2, off2, rfl, _⟩ := hRb.addr (by omega)
      have hJ : (nth it1 i).j = (nth it2 i).j := by rw [nth_j hil1, nth_j hil2, HJ.out]
      have hCMP1 := fun w' (hw' : Below wr.heap.size wr w') => (same_any _ (nth it1 i) (nth it2 i) w' (Nat.lt_succ_self _) ((hRa.at hil1).below hw' _) ((hRb.at hil2).below hw' _)).mono (fun e w'' h => (show e = .returned (.bool true) ∧ Below w'.heap.size w' w'' from by
        obtain ⟨⟨bb, rfl, hbb⟩, hq⟩ := h
        rw [hbb.2 hJ]
        exact ⟨rfl, hq⟩))
      have hF1 := fun w' (hw' : Below wr.heap.size wr w') x0 x1 x2 x3 x4 (e : (nth it1 i).cells = [x0, x1, x2, x3, x4]) => (hRa.below hw').five hil1 e
      have hG1 := fun w' (hw' : Below wr.heap.size wr w') x0 x1 x2 x3 x4 (e : (nth it2 i).cells = [x0, x1, x2, x3, x4]) => (hRb.below hw').five hil2 e
      obtain ⟨x, hx⟩ : ∃ x, nth it1 i = x := ⟨_, rfl⟩
      obtain ⟨y, hy⟩ : ∃ y, nth it2 i = y := ⟨_, rfl⟩
      rw [hx] at hCMP1 hF1
      rw [hy] at hCMP1 hG1
      clear hJ
      obtain ⟨k1, n1, s1, An1, ns1, cn1, Ai1, is1, ci1⟩ := x
      obtain ⟨k2, n2, s2, An2, ns2, cn2, Ai2, is2, ci2⟩ := y
      have HCMP : Hid (∀ w', Below wr.heap.size wr w' → Calls Tryd.prog 14 #[.agg #[.int .i64 k1, .int .i64 n1, .string s1, .slice An1 ns1.length cn1, .slice Ai1 is1.length ci1], .agg #[.int .i64 k2, .int .i64 n2, .string s2, .slice An2 ns2.length cn2, .slice Ai2 is2.length ci2]] w' fun e w'' => e = .returned (.bool true) ∧ Below w'.heap.size w' w'') := Lib.hid hCMP1
      have HG : Hid (∀ w', Below wr.heap.size wr w' → _) := Lib.hid fun w' hw' => hG1 w' hw' _ _ _ _ _ rfl
      have HF : Hid (∀ w', Below wr.heap.size wr w' → _) := Lib.hid fun w' hw' => hF1 w' hw' _ _ _ _ _ rfl
      have HB := Lib.hid hB
      clear hCMP1 hF1 hG1 hx hy hRa hRb hil1 hil2 hB
      go_wp2_with fail
      refine region_calm (by kernel_rfl) (by kernel_rfl) ?_
      repeat (first
        | go_big_quiet_skip
        | (go_big_quiet_want
           apply quiet_at
           · intro w' hw'
             (obtain ⟨c0, c1, c2, c3, c4⟩ := HF.out _ (by assumption); obtain ⟨d0, d1, d2, d3, d4⟩ := HG.out _ (by assumption))
             go_simp
             first
               | done
               | exact rfl
               | ((go_at_call 14; refine (HCMP.out _ (by assumption)).mono ?_; rintro e w9 ⟨h1, h2⟩; exact ⟨h1, Below.trans (by assumption) (h2.mono (Below.size (by assumption)))⟩))
           (try simp only [Act.put, List.setIfInBounds_toArray, List.set_cons_zero, List.set_cons_succ])
           go_big_quiet_on))
      refine wpQuiet_nil ?_
      intro w5 hb5
      have HB5 := Lib.hid (HB.out.trans ((show Below wr.heap.size wr w5 from hb5).mono HB.out.size))
      clear hb5
      go_wp2
      go_roundw
      case measure => simp [RowKit.intOf]; omega
      case rel => exact ⟨i + 1, by go_num, by omega, HB5.out⟩
    · have hiI : ¬ (i : Int) < (m : Int) := by omega
      go_wp2
      go_ret
      exact ⟨rfl, hB6.trans (hB.mono hB6.size)⟩
end Go.Proofs.YtmobolefijneoaaDoor
