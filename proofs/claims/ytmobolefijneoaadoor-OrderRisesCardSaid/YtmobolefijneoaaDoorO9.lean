/-
  OrderRises' walk.
-/
import Derived.Test.YtmobolefijneoaaDoorO8
set_option linter.unusedVariables false
namespace Go.Proofs.YtmobolefijneoaaDoor
open Go.RowKit Go.Joins Go.Deep

/-- What is sorted begins with the least one. -/
theorem rises_first {l m : List JV} {k n : Nat} (hp : m.Perm l) (hs : SortOn m 0 n) (hm : m.length = n) (h0 : 0 < n) (hk : k < n) (hle : ∀ q, q < n → leJ (jat l k) (jat l q)) : cmpJ (jat m 0) (jat l k) = 0 := by
  have hl : l.length = n := by rw [← hp.length_eq, hm]
  have h1 : leJ (jat l k) (jat m 0) := by
    have hmem : jat m 0 ∈ l := by rw [jat_lt (by omega)]; exact hp.mem_iff.1 (List.getElem_mem _)
    obtain ⟨q, hq, e⟩ := List.mem_iff_getElem.1 hmem
    rw [← e, ← jat_lt hq]
    exact hle q (by omega)
  have h2 : leJ (jat m 0) (jat l k) := by
    have hmem : jat l k ∈ m := by rw [jat_lt (by omega)]; exact hp.mem_iff.2 (List.getElem_mem _)
    obtain ⟨q, hq, e⟩ := List.mem_iff_getElem.1 hmem
    rw [← e, ← jat_lt hq]
    by_cases e0 : q = 0
    · rw [e0]; exact leJ_refl _
    · exact hs 0 q (Nat.le_refl _) (by omega) (by omega)
  unfold leJ at h1 h2
  have := cmpJ_neg (jat l k) (jat m 0)
  omega

set_option maxHeartbeats 16000000 in
set_option maxRecDepth 20000 in
theorem rises_walk (A : Option Addr) (is : List LV) (c : Nat) (w : World) (hT : Tabs w) (hR : RowAt w A is c) :
    Calls Tryd.prog 8 #[.slice A is.length c] w fun e w' => e = .returned (.bool true) ∧ Below w.heap.size w w' := by
  have hcap := hR.cap
  have HT := Lib.hid hT
  have HR := Lib.hid hR
  have HA := Lib.hid (fun w1 (hb : Below w.heap.size w w1) => awake03_any w1 (hT.below hb))
  have HFEW := Lib.hid (fun w1 (hb : Below w.heap.size w w1) => few03_len A is c w1 (hR.below hb))
  have HS1 := Lib.hid (fun (hl : is.length ≤ 1000) w1 (hb : Below w.heap.size w w1) => osort_any A is c w1 (hT.below hb) (hR.below hb) hl)
  have HL1 := Lib.hid (fun (hl : is.length ≤ 1000) w1 (hb : Below w.heap.size w w1) => oleast_any A is c w1 (hT.below hb) (hR.below hb) hl)
  have HFM := Lib.hid (fun w1 (hb : Below w.heap.size w w1) v (hv : v.At w1) => jformed_any v w1 hv (hT.below hb))
  have HCT := Lib.hid (fun (hl : is.length ≤ 1000) w1 (hb : Below w.heap.size w w1) v (hv : v.At w1) => count_any A is c v w1 (hR.below hb) hv hl)
  obtain ⟨n, hn⟩ : ∃ n, is.length = n := ⟨_, rfl⟩
  rw [hn] at HFEW HS1 HL1 HCT hcap ⊢
  have HN := Lib.hid hn
  clear hn hT hR
  go_enter Tryd.func8, Tryd.ntmps8
  go_wp2_with fail
  refine (HA.out w (Below.refl _ _)).mono ?_
  rintro e w1 ⟨rfl, hb1⟩
  go_wp2_with fail
  refine (HFEW.out w1 hb1).mono ?_
  rintro e w2 ⟨⟨bf, rfl, hbf⟩, hb2⟩
  have hB2 := hb1.trans (hb2.mono hb1.size)
  have HBF := Lib.hid hbf
  clear hb1 hb2 hbf HFEW
  cases bf with
  | false =>
    go_wp2_with fail
    refine (HA.out w2 hB2).mono ?_
    rintro e w3 ⟨rfl, hb3⟩
    go_wp2
    go_ret
    exact ⟨rfl, hB2.trans (hb3.mono hB2.size)⟩
  | true =>
  have hl : n ≤ 1000 := Nat.le_trans (HBF.out rfl) (by omega)
  clear HBF HA
  have K1 := Lib.hid (HS1.out hl w2 hB2)
  clear HS1
  go_wp2_with fail
  refine K1.out.mono ?_
  rintro e w3 ⟨A1, it, c1, rfl, hR1, hb3, x1, y1⟩
  have hB3 := hB2.trans (hb3.mono hB2.size)
  have HR1 := Lib.hid hR1
  have X1 := Lib.hid x1
  have Y1 := Lib.hid y1
  obtain ⟨m, hm⟩ : ∃ m, it.length = m := ⟨_, rfl⟩
  have hcap1 := hR1.cap
  rw [hm] at hcap1 ⊢
  have HM := Lib.hid hm
  clear hb3 hR1 x1 y1 hm K1 hB2
  go_wp2
  go_loopw [4] (fun vi wr => ∃ i : Nat, vi = .int .i64 i ∧ i ≤ n ∧ Hid (∀ j, j < i → FormedP (nth is j).j 6) ∧ Below w3.heap.size w3 wr) (fun vi _ => n - (RowKit.intOf vi).toNat)
  case atStart => exact ⟨0, rfl, Nat.zero_le _, Lib.hid fun j h => absurd h (by omega), Below.refl _ _⟩
  case round =>
    obtain ⟨i, rfl, hi, HQ, hB⟩ := hrel
    have hBW := hB3.trans (hB.mono hB3.size)
    by_cases hlt : i < n
    · have hiI : (i : Int) < (n : Int) := by omega
      have hi0 : (0 : Int) ≤ (i : Int) := by omega
      have hil : i < is.length := by rw [HN.out]; exact hlt
      have hRa := HR.out.below hBW
      obtain ⟨b, off, rfl, _⟩ := hRa.addr (by omega)
      have hF1 := fun x0 x1 x2 x3 x4 (e : (nth is i).cells = [x0, x1, x2, x3, x4]) => hRa.five hil e
      have hC1 := HFM.out wr hBW (nth is i) (hRa.at hil)
      have HM1 := Lib.hid (fun x (hx : nth is i = x) => show x ∈ is from by rw [← hx]; exact nth_mem hil)
      have HQ1 := Lib.hid (fun x (hx : nth is i = x) (hf : FormedP x.j 6) => show ∀ j, j < i + 1 → FormedP (nth is j).j 6 from fun j hj => by
        by_cases e : j = i
        · rw [e, hx]; exact hf
        · exact HQ.out j (by omega))
      obtain ⟨x, hx⟩ : ∃ x, nth is i = x := ⟨_, rfl⟩
      have HM2 := Lib.hid (HM1.out x hx)
      have HQ2 := Lib.hid (HQ1.out x hx)
      rw [hx] at hF1 hC1
      obtain ⟨k1, n1, s1, An1, ns1, cn1, Ai1, is1, ci1⟩ := x
      obtain ⟨d0, d1, d2, d3, d4⟩ := hF1 _ _ _ _ _ rfl
      have HC : Hid (Calls Tryd.prog 13 #[.agg #[.int .i64 k1, .int .i64 n1, .string s1, .slice An1 ns1.length cn1, .slice Ai1 is1.length ci1]] wr _) := Lib.hid hC1
      obtain ⟨P, hP⟩ : ∃ P : Prop, P = FormedP (LV.mk k1 n1 s1 An1 ns1 cn1 Ai1 is1 ci1).j 6 := ⟨_, rfl⟩
      have HP := Lib.hid hP
      rw [← hP] at HC
      clear hF1 hC1 hx HM1 HQ1 hP hil hRa
      go_wp2_with fail
      refine HC.out.mono ?_
      rintro e w4 ⟨⟨bb, rfl, hbb⟩, hb4⟩
      have HBB := Lib.hid hbb
      have hB4 := hBW.trans (hb4.mono hBW.size)
      clear hbb d0 d1 d2 d3 d4 HC
      cases bb with
      | false =>
        have HNF : Hid (¬ AllF is) := Lib.hid (fun h => by
          have := HBB.out.2 (by rw [HP.out]; exact h _ HM2.out)
          cases this)
        obtain rfl : m = 0 := by rw [← HM.out, X1.out HNF.out]; rfl
        have L1 := Lib.hid (HL1.out hl w4 hB4)
        clear HBB HQ2 HM2 HP
        go_wp2_with fail
        refine L1.out.mono ?_
        rintro e w5 ⟨⟨r, rfl, hr⟩, hb5⟩
        obtain rfl : r = -1 := hr.1 (.inl HNF.out)
        clear hr
        go_wp2
        go_ret
        exact ⟨rfl, hB4.trans (hb5.mono hB4.size)⟩
      | true =>
        have HB1 := Lib.hid (HBB.out.1 rfl)
        clear HBB
        go_wp2
        go_roundw
        case rel => exact ⟨i + 1, by go_num, by omega, Lib.hid (HQ2.out (by rw [← HP.out]; exact HB1.out)), hB.trans (hb4.mono hB.size)⟩
        case measure => simp [RowKit.intOf]; omega
    · have hiI : ¬ (i : Int) < (n : Int) := by omega
      obtain rfl : i = n := by omega
      have HAF : Hid (AllF is) := Lib.hid (fun x hx => by
        obtain ⟨j, hj, rfl⟩ := List.mem_iff_getElem.1 hx
        have := HQ.out j (by have := HN.out; omega)
        rwa [nth_lt hj] at this)
      have HPE := Lib.hid (Y1.out HAF.out)
      obtain rfl : m = i := by
        have := HPE.out.1.length_eq
        rw [js_length, js_length, HM.out, HN.out] at this
        exact this
      have HR1b := Lib.hid (HR1.out.below hB)
      clear HQ X1 Y1 HR1 HFM hB3
      rcases Nat.eq_zero_or_pos m with h0 | h0
      · subst h0
        go_wp2
        go_region
        go_wp2
        refine wp_loop_rounds 1 ?_
        rw [rounds_succ]
        go_wp2
        refine wp_loop_rounds 1 ?_
        rw [rounds_succ]
        go_wp2
        go_ret
        exact ⟨rfl, hBW.drew⟩
      · obtain ⟨k, hk, hkl, hkle⟩ := least_there HAF.out (by rw [HN.out]; exact h0)
        rw [HN.out] at hk hkle
        have hki : k < is.length := by rw [HN.out]; exact hk
        have h0t : 0 < it.length := by rw [HM.out]; exact h0
        have hRa := HR1b.out
        have hRb := HR.out.below hBW
        obtain ⟨b1, off1, rfl, _⟩ := hRa.addr h0t
        obtain ⟨b, off, rfl, _⟩ := hRb.addr (by omega)
        have h0J : (LV.js it).length = m := by rw [js_length]; exact HM.out
        have hD : cmpX (nth it 0).j (nth is k).j = 0 := by
          rw [nth_j h0t, nth_j hki, cmpX_of]
          · exact rises_first HPE.out.1 (by have := HPE.out.2; rwa [HM.out] at this) h0J h0 hk hkle
          · have hm : jat (LV.js it) 0 ∈ LV.js is := by rw [jat_lt (by omega)]; exact HPE.out.1.mem_iff.1 (List.getElem_mem _)
            rw [LV.js_map] at hm
            obtain ⟨v, hv, e⟩ := List.mem_map.1 hm
            rw [← e]; exact HAF.out v hv
          · rw [← nth_j hki]; exact HAF.out _ (nth_mem hki)
        have hLE := HL1.out hl
        have HLE : Hid (∀ w', Below wr.heap.size wr w' → Calls Tryd.prog 18 #[.slice (some ⟨b, off, none⟩) m c] w' fun e w'' => e = .returned (.int .i64 k) ∧ Below w'.heap.size w' w'') := Lib.hid fun w' hw' => (hLE w' (hBW.trans (hw'.mono hBW.size))).mono (fun e w'' h => by
          obtain ⟨⟨r, rfl, hr⟩, hq⟩ := h
          rw [hr.one hkl]
          exact ⟨rfl, hq⟩)
        have hCMP1 := fun w' (hw' : Below wr.heap.size wr w') => oCompare_any (nth it 0) (nth is k) w' (HT.out.below (hBW.trans (hw'.mono hBW.size))) ((hRa.at h0t).below hw' _) ((hRb.at hki).below hw' _)
        rw [hD] at hCMP1
        have hF1 := fun w' (hw' : Below wr.heap.size wr w') x0 x1 x2 x3 x4 (e : (nth it 0).cells = [x0, x1, x2, x3, x4]) => (show w'.cell? ⟨b1, off1, none⟩ = some x0 ∧ w'.cell? ⟨b1, off1 + 1, none⟩ = some x1 ∧ w'.cell? ⟨b1, off1 + 2, none⟩ = some x2 ∧ w'.cell? ⟨b1, off1 + 3, none⟩ = some x3 ∧ w'.cell? ⟨b1, off1 + 4, none⟩ = some x4 from by have := (hRa.below hw').five h0t e; simpa using this)
        have hG1 := fun w' (hw' : Below wr.heap.size wr w') x0 x1 x2 x3 x4 (e : (nth is k).cells = [x0, x1, x2, x3, x4]) => (hRb.below hw').five hki e
        obtain ⟨x, hx⟩ : ∃ x, nth it 0 = x := ⟨_, rfl⟩
        obtain ⟨y, hy⟩ : ∃ y, nth is k = y := ⟨_, rfl⟩
        rw [hx] at hCMP1 hF1
        rw [hy] at hCMP1 hG1
        clear hD
        obtain ⟨k1, n1, s1, An1, ns1, cn1, Ai1, is1, ci1⟩ := x
        obtain ⟨k2, n2, s2, An2, ns2, cn2, Ai2, is2, ci2⟩ := y
        have HCMP : Hid (∀ w', Below wr.heap.size wr w' → Calls Tryd.prog 11 #[.agg #[.int .i64 k1, .int .i64 n1, .string s1, .slice An1 ns1.length cn1, .slice Ai1 is1.length ci1], .agg #[.int .i64 k2, .int .i64 n2, .string s2, .slice An2 ns2.length cn2, .slice Ai2 is2.length ci2]] w' fun e w'' => e = .returned (.int .i64 0) ∧ Below w'.heap.size w' w'') := Lib.hid hCMP1
        have HF : Hid (∀ w', Below wr.heap.size wr w' → _) := Lib.hid fun w' hw' => hF1 w' hw' _ _ _ _ _ rfl
        have HG : Hid (∀ w', Below wr.heap.size wr w' → _) := Lib.hid fun w' hw' => hG1 w' hw' _ _ _ _ _ rfl
        have HBW := Lib.hid hBW
        have hDb : decide (0 < m) = true := decide_eq_true h0
        have h0I : (0 : Int) < (m : Int) := by omega
        have hkI : (k : Int) < (m : Int) := by omega
        have hk0 : (0 : Int) ≤ (k : Int) := by omega
        have HPS := Lib.hid (show ∀ q, q + 1 < m → cmpX (nth it q).j (nth it (q + 1)).j ≤ 0 from fun q hq => by
          have hq1 : q < it.length := by rw [HM.out]; omega
          have hq2 : q + 1 < it.length := by rw [HM.out]; omega
          have hfo : ∀ p, p < it.length → FormedP (nth it p).j 6 := fun p hp => by
            have hm : jat (LV.js it) p ∈ LV.js is := by rw [jat_lt (by rw [js_length]; exact hp)]; exact HPE.out.1.mem_iff.1 (List.getElem_mem _)
            rw [LV.js_map] at hm
            obtain ⟨v, hv, e⟩ := List.mem_map.1 hm
            rw [nth_j hp, ← e]; exact HAF.out v hv
          rw [cmpX_of (hfo q hq1) (hfo _ hq2), nth_j hq1, nth_j hq2]
          exact HPE.out.2 q (q + 1) (Nat.zero_le _) (by omega) hq2)
        have HCN := Lib.hid (show ∀ v, cnt (LV.js it) v = cnt (LV.js is) v from fun v => cnt_perm HPE.out.1 v)
        have HBC : Hid (∀ w', Calm wr w' → Below wr.heap.size wr w') := Lib.hid fun w' h => h
        clear hCMP1 hF1 hG1 hx hy hRa hRb hBW hB hk hkl hkle hki h0t h0J hLE HL1 HPE HAF
        go_wp2_with fail
        refine region_calm (by kernel_rfl) (by kernel_rfl) ?_
        repeat (first
          | go_big_quiet_skip
          | (go_big_quiet_want
             apply quiet_at
             · intro w' hw'
               (obtain ⟨c0, c1, c2, c3, c4⟩ := HF.out _ (by assumption); obtain ⟨d0, d1, d2, d3, d4⟩ := HG.out _ (by assumption))
               go_simp
               first
                 | done
                 | exact rfl
                 | ((first | (go_at_call 18; (with_reducible refine (HLE.out _ (HBC.out _ (by assumption))).mono ?_); rintro e w9 ⟨h1, h2⟩; exact ⟨h1, Below.trans (by assumption) (h2.mono (Below.size (by assumption)))⟩) | (go_at_call 11; (with_reducible refine (HCMP.out _ (HBC.out _ (by assumption))).mono ?_); rintro e w9 ⟨h1, h2⟩; exact ⟨h1, Below.trans (by assumption) (h2.mono (Below.size (by assumption)))⟩)))
             (try simp only [Act.put, List.setIfInBounds_toArray, List.set_cons_zero, List.set_cons_succ])
             go_big_quiet_on))
        refine wpQuiet_nil ?_
        intro w5 hb5
        have hB5a : Below w.heap.size w w5 := HBW.out.trans ((show Below wr.heap.size wr w5 from hb5).mono HBW.out.size)
        have HR5 := Lib.hid (HR.out.below hB5a)
        have HI5 := Lib.hid (HR1b.out.below (show Below wr.heap.size wr w5 from hb5))
        have HT5 := Lib.hid (HT.out.below hB5a)
        have HB5 := Lib.hid hB5a
        clear hb5 hB5a HCMP HF HG HLE HBC HBW HR1b HR HT hDb hkI hk0
        go_wp2
        go_loopw [5] (fun vi wr => ∃ q : Nat, vi = .int .i64 ((q + 1 : Nat) : Int) ∧ q + 1 ≤ m ∧ Below w5.heap.size w5 wr) (fun vi _ => m + 1 - (RowKit.intOf vi).toNat)
        case atStart => exact ⟨0, rfl, by omega, Below.refl _ _⟩
        case round =>
          obtain ⟨q, rfl, hq, hB⟩ := hrel
          obtain ⟨i, hi⟩ : ∃ i, i = q + 1 := ⟨_, rfl⟩
          rw [← hi] at hq
          rw [← hi]
          by_cases hlt : i < m
          · have hiI : (i : Int) < (m : Int) := by omega
            have hi0 : (0 : Int) ≤ (i : Int) := by omega
            have hqI : (q : Int) < (m : Int) := by omega
            have hq0 : (0 : Int) ≤ (q : Int) := by omega
            have hqw : IntKind.i64.wrap ((i : Int) - 1) = (q : Int) := by rw [IntKind.wrap_i64]; omega
            have hil1 : q < it.length := by rw [HM.out]; omega
            have hil2 : i < it.length := by rw [HM.out]; exact hlt
            have hRa := HI5.out.below hB
            obtain ⟨D, hD⟩ : ∃ D, cmpX (nth it q).j (nth it i).j = D := ⟨_, rfl⟩
            have hDle : D ≤ 0 := by rw [← hD, hi]; exact HPS.out q (by omega)
            have hCMP1 := fun w' (hw' : Below wr.heap.size wr w') => oCompare_any (nth it q) (nth it i) w' ((HT5.out.below hB).below hw') ((hRa.at hil1).below hw' _) ((hRa.at hil2).below hw' _)
            rw [hD] at hCMP1
            have hF1 := fun w' (hw' : Below wr.heap.size wr w') x0 x1 x2 x3 x4 (e : (nth it q).cells = [x0, x1, x2, x3, x4]) => (hRa.below hw').five hil1 e
            have hG1 := fun w' (hw' : Below wr.heap.size wr w') x0 x1 x2 x3 x4 (e : (nth it i).cells = [x0, x1, x2, x3, x4]) => (hRa.below hw').five hil2 e
            obtain ⟨x, hx⟩ : ∃ x, nth it q = x := ⟨_, rfl⟩
            obtain ⟨y, hy⟩ : ∃ y, nth it i = y := ⟨_, rfl⟩
            rw [hx] at hCMP1 hF1
            rw [hy] at hCMP1 hG1
            obtain ⟨k1, n1, s1, An1, ns1, cn1, Ai1, is1, ci1⟩ := x
            obtain ⟨k2, n2, s2, An2, ns2, cn2, Ai2, is2, ci2⟩ := y
            have HCMP : Hid (∀ w', Below wr.heap.size wr w' → Calls Tryd.prog 11 #[.agg #[.int .i64 k1, .int .i64 n1, .string s1, .slice An1 ns1.length cn1, .slice Ai1 is1.length ci1], .agg #[.int .i64 k2, .int .i64 n2, .string s2, .slice An2 ns2.length cn2, .slice Ai2 is2.length ci2]] w' fun e w'' => e = .returned (.int .i64 D) ∧ Below w'.heap.size w' w'') := Lib.hid hCMP1
            have HG : Hid (∀ w', Below wr.heap.size wr w' → _) := Lib.hid fun w' hw' => hG1 w' hw' _ _ _ _ _ rfl
            have HF : Hid (∀ w', Below wr.heap.size wr w' → _) := Lib.hid fun w' hw' => hF1 w' hw' _ _ _ _ _ rfl
            have HB := Lib.hid hB
            have HI := Lib.hid hi
            have hDb : decide (0 < D) = false := decide_eq_false (by omega)
            have hDn : ¬ 0 < D := by omega
            have HBC : Hid (∀ w', Calm wr w' → Below wr.heap.size wr w') := Lib.hid fun w' h => h
            clear hCMP1 hF1 hG1 hx hy hRa hil1 hil2 hB hD hi hDle
            go_wp2_with fail
            refine region_calm (by kernel_rfl) (by kernel_rfl) ?_
            repeat (first
              | go_big_quiet_skip
              | (go_big_quiet_want
                 apply quiet_at
                 · intro w' hw'
                   (obtain ⟨c0, c1, c2, c3, c4⟩ := HF.out _ (by assumption); obtain ⟨d0, d1, d2, d3, d4⟩ := HG.out _ (by assumption))
                   go_simp
                   first
                     | done
                     | exact rfl
                     | ((go_at_call 11; (with_reducible refine (HCMP.out _ (HBC.out _ (by assumption))).mono ?_); rintro e w9 ⟨h1, h2⟩; exact ⟨h1, Below.trans (by assumption) (h2.mono (Below.size (by assumption)))⟩))
                 (try simp only [Act.put, List.setIfInBounds_toArray, List.set_cons_zero, List.set_cons_succ])
                 go_big_quiet_on))
            refine wpQuiet_nil ?_
            intro w5 hb5
            have HB6 := Lib.hid (HB.out.trans ((show Below wr.heap.size wr w5 from hb5).mono HB.out.size))
            clear hb5
            go_wp2
            go_roundw
            case measure => have := HI.out; simp [RowKit.intOf]; omega
            case rel => exact ⟨q + 1, by rw [← HI.out]; go_num, by have := HI.out; omega, HB6.out⟩
          · have hiI : ¬ (i : Int) < (m : Int) := by omega
            have hB6a := HB5.out.trans (hB.mono HB5.out.size)
            have HR6 := Lib.hid (HR5.out.below hB)
            have HI6 := Lib.hid (HI5.out.below hB)
            have HB6 := Lib.hid hB6a
            clear HR5 HI5 HT5 HB5 HPS hB hB6a hi hq
            go_wp2
            go_loopw [6] (fun vi wq => ∃ p : Nat, vi = .int .i64 p ∧ p ≤ m ∧ Below wr.heap.size wr wq) (fun vi _ => m - (RowKit.intOf vi).toNat)
            case atStart => exact ⟨0, rfl, Nat.zero_le _, Below.refl _ _⟩
            case round =>
              clear hlt hiI
              obtain ⟨p, rfl, hp, hB⟩ := hrel
              have hBW := HB6.out.trans (hB.mono HB6.out.size)
              by_cases hpl : p < m
              · have hpI : (p : Int) < (m : Int) := by omega
                have hp0 : (0 : Int) ≤ (p : Int) := by omega
                have hil : p < is.length := by rw [HN.out]; exact hpl
                have hRa := HR6.out.below hB
                have hRb := HI6.out.below hB
                have hCT1 := fun w' (hw' : Below wr.heap.size wr w') => HCT.out hl w' (hBW.trans (hw'.mono hBW.size)) (nth is p) ((hRa.at hil).below hw' _)
                have hCT2 := fun w' (hw' : Below wr.heap.size wr w') => count_any (some ⟨b1, off1, none⟩) it c1 (nth is p) w' (hRb.below hw') ((hRa.at hil).below hw' _) (by rw [HM.out]; exact hl)
                rw [HM.out, HCN.out] at hCT2
                obtain ⟨N, hNN⟩ : ∃ N, cnt (LV.js is) (nth is p).j = N := ⟨_, rfl⟩
                rw [hNN] at hCT1 hCT2
                have hF1 := fun w' (hw' : Below wr.heap.size wr w') x0 x1 x2 x3 x4 (e : (nth is p).cells = [x0, x1, x2, x3, x4]) => (hRa.below hw').five hil e
                clear hNN
                obtain ⟨x, hx⟩ : ∃ x, nth is p = x := ⟨_, rfl⟩
                rw [hx] at hCT1 hCT2 hF1
                obtain ⟨k3, n3, s3, An3, ns3, cn3, Ai3, is3, ci3⟩ := x
                have HC1 : Hid (∀ w', Below wr.heap.size wr w' → Calls Tryd.prog 20 #[.slice (some ⟨b, off, none⟩) m c, .agg #[.int .i64 k3, .int .i64 n3, .string s3, .slice An3 ns3.length cn3, .slice Ai3 is3.length ci3]] w' fun e w'' => e = .returned (.int .i64 N) ∧ Below w'.heap.size w' w'') := Lib.hid hCT1
                have HC2 : Hid (∀ w', Below wr.heap.size wr w' → Calls Tryd.prog 20 #[.slice (some ⟨b1, off1, none⟩) m c1, .agg #[.int .i64 k3, .int .i64 n3, .string s3, .slice An3 ns3.length cn3, .slice Ai3 is3.length ci3]] w' fun e w'' => e = .returned (.int .i64 N) ∧ Below w'.heap.size w' w'') := Lib.hid hCT2
                have HF : Hid (∀ w', Below wr.heap.size wr w' → _) := Lib.hid fun w' hw' => hF1 w' hw' _ _ _ _ _ rfl
                have HB := Lib.hid hB
                have HBC : Hid (∀ w', Calm wr w' → Below wr.heap.size wr w') := Lib.hid fun w' h => h
                clear hCT1 hCT2 hF1 hx hRa hRb hil hB hBW
                go_wp2_with fail
                refine region_calm (by kernel_rfl) (by kernel_rfl) ?_
                repeat (first
                  | go_big_quiet_skip
                  | (go_big_quiet_want
                     apply quiet_at
                     · intro w' hw'
                       (obtain ⟨c0, c1, c2, c3, c4⟩ := HF.out _ (by assumption))
                       go_simp
                       first
                         | done
                         | exact rfl
                         | ((first | (go_at_call 20; (with_reducible refine (HC1.out _ (HBC.out _ (by assumption))).mono ?_); rintro e w9 ⟨h1, h2⟩; exact ⟨h1, Below.trans (by assumption) (h2.mono (Below.size (by assumption)))⟩) | (go_at_call 20; (with_reducible refine (HC2.out _ (HBC.out _ (by assumption))).mono ?_); rintro e w9 ⟨h1, h2⟩; exact ⟨h1, Below.trans (by assumption) (h2.mono (Below.size (by assumption)))⟩)))
                     (try simp only [Act.put, List.setIfInBounds_toArray, List.set_cons_zero, List.set_cons_succ])
                     go_big_quiet_on))
                refine wpQuiet_nil ?_
                intro w5 hb5
                have HB7 := Lib.hid (HB.out.trans ((show Below wr.heap.size wr w5 from hb5).mono HB.out.size))
                clear hb5
                go_wp2
                go_roundw
                case measure => simp [RowKit.intOf]; omega
                case rel => exact ⟨p + 1, by go_num, by omega, HB7.out⟩
              · have hpI : ¬ (p : Int) < (m : Int) := by omega
                go_wp2
                go_ret
                exact ⟨rfl, hBW⟩
end Go.Proofs.YtmobolefijneoaaDoor
