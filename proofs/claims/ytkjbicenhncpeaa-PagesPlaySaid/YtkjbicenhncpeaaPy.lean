/-
  PagesPlay's walk.
-/
import Derived.Test.YtkjbicenhncpeaaPx
import Derived.Test.YtkjbicenhncpeaaCl
set_option linter.unusedVariables false
namespace Go.Proofs.Ytkjbicenhncpeaa
open Go.RowKit

theorem isOf_zero (C : Nat) (n : Int) : isOf (List.replicate C 0) n = 0 := by
  unfold isOf
  split
  · rfl
  · rename_i h
    rw [List.length_replicate] at h
    rw [List.getD_eq_getElem?_getD, List.getElem?_replicate, if_pos (by omega)]
    rfl
theorem nums_cells {w w' : World} {base : Nat} {v : Value} {l : List Int} (h : Nums w base v l) (hb : Below w.heap.size w w') : ∃ A c, v = .slice A l.length c ∧ Cells w' w'.heap.size A (I64 l) := by
  obtain ⟨A, c, e, _, _, hc⟩ := ownsRow_shape h
  exact ⟨A, c, e, (hc.below hb).whole⟩
/-- What is asked behind each act. -/
theorem fresh_at (g gd : Nat) (s : PG) (t : DS) (F : Nat → Prop) (n : Int) (w w' : World) (h : PD w g gd s t F) (hc : Calm w w') (b : Bool) (hb : (isOf s.is n == 2) = b) : Calls Try.prog 20 #[.pointer (some ⟨g, 0, none⟩), .int .i64 n] w' fun e w'' => e = .returned (.bool b) ∧ Below w'.heap.size w' w'' := by
  subst hb
  refine (fresh_any g gd s t F n w' (h.below hc)).mono ?_
  rintro e w'' ⟨rfl, rfl⟩
  exact ⟨rfl, Below.refl _ _⟩
theorem start_ok (C : Nat) (K : Int) (hC : C ≤ 11) (h1 : 1 ≤ K) (h6 : K ≤ 6) : Ok K C 0 (newPG 3 K (List.replicate C 0)) (newDS (3 + 4 * (C : Int))) ⟨List.replicate C 0, List.replicate C zeroPage⟩ := by
  have hs : (newDS (3 + 4 * (C : Int))).size = 3 + 4 * (C : Int) := by show min (max _ _) _ = _; omega
  refine ⟨newPG_inv 3 K _ _ (by decide) ⟨h1, by omega⟩ (by rw [hs]; simp) (by rw [hs]; omega) (by show (-1 : Int) ≤ 9223372036854775807; decide), ⟨rfl, by show (-1 : Int) < 0; decide⟩, rfl, by simp [newPG], Nat.le_refl _, ⟨rfl, by simp, fun n hn => ?_⟩⟩
  have hn : isOf (List.replicate C 0) n = 1 ∨ isOf (List.replicate C 0) n = 2 := hn
  rw [isOf_zero] at hn
  omega

set_option maxHeartbeats 4000000 in
set_option maxRecDepth 20000 in
theorem play_walk (a0 a1 : Int) (A : Option Addr) (ops : List OpP) (c : Nat) (W : World) (h00 : 0 ≤ a0) (h01 : a0 ≤ 255) (h10 : 0 ≤ a1) (h11 : a1 ≤ 255) (hops : Ops W A ops) (hol : ops.length ≤ 9223372036854775807) :
    Calls Try.prog 4 #[.int .u8 a0, .int .u8 a1, .slice A ops.length c] W fun e W' => e = .returned (.bool true) ∧ Below W.heap.size W W' := by
  obtain ⟨L, hL⟩ : ∃ L, ops.length = L := ⟨_, rfl⟩
  rw [hL] at hol ⊢
  have HL := Lib.hid hL
  have HOPS := Lib.hid hops
  clear hL hops
  obtain ⟨C, hCt⟩ : ∃ C : Nat, a0.tmod 12 = (C : Int) := ⟨(a0.tmod 12).toNat, by rw [Int.tmod_eq_emod_of_nonneg h00]; omega⟩
  obtain ⟨K0, hKt⟩ : ∃ K0 : Int, a1.tmod 6 = K0 := ⟨_, rfl⟩
  have hC11 : C ≤ 11 := by rw [Int.tmod_eq_emod_of_nonneg h00] at hCt; omega
  have hK05 : 0 ≤ K0 ∧ K0 ≤ 5 := by rw [Int.tmod_eq_emod_of_nonneg h10] at hKt; omega
  have w1 : IntKind.u8.wrap (C : Int) = (C : Int) := by rw [IntKind.wrap_u8]; omega
  have w2 : IntKind.i64.wrap (C : Int) = (C : Int) := by rw [IntKind.wrap_i64]; omega
  have w3 : IntKind.u8.wrap K0 = K0 := by rw [IntKind.wrap_u8]; omega
  have w4 : IntKind.i64.wrap K0 = K0 := by rw [IntKind.wrap_i64]; omega
  obtain ⟨K, hK⟩ : ∃ K, 1 + K0 = K := ⟨_, rfl⟩
  have w5 : IntKind.i64.wrap (1 + K0) = K := by rw [IntKind.wrap_i64]; omega
  have hK1 : 1 ≤ K := by omega
  have hK6 : K ≤ 6 := by omega
  obtain ⟨Z, hZ⟩ : ∃ Z, 3 + 4 * (C : Int) = Z := ⟨_, rfl⟩
  have w6 : IntKind.i64.wrap (4 * (C : Int)) = 4 * (C : Int) := by rw [IntKind.wrap_i64]; omega
  have w7 : IntKind.i64.wrap (3 + 4 * (C : Int)) = Z := by rw [IntKind.wrap_i64]; omega
  have HCT := Lib.hid hCt
  have HZ := Lib.hid hZ
  clear hK hK05 hZ
  go_enter Try.func4, Try.ntmps4
  go_wp2_with fail
  refine (awake_any W).mono ?_
  rintro e w0 ⟨rfl, hb0⟩
  by_cases hlen : L ≤ 60
  · have hlI : ¬ (L : Int) > 60 := by omega
    have hHB0 := Lib.hid hb0
    clear hb0
    go_wp2_with fail
    refine (new_w Z w0).mono ?_
    rintro e wd ⟨gd, D, rfl, hD, hDw, hB1⟩
    have hsz : (newDS Z).size = Z := by show min (max _ _) _ = _; have := HZ.out; omega
    have HO : Hid (Calls Try.prog 7 #[.pointer (some ⟨gd, 0, none⟩), .int .i64 3, .int .i64 C, .int .i64 K, .slice none 0 0] wd (OpenRes gd (newDS Z) D 3 K C [] wd)) := Lib.hid (open_any gd (newDS Z) D 3 K C none [] 0 wd hD (by decide) hK1 (by rw [hsz]; have := HZ.out; omega) (by rw [hsz]; have := HZ.out; omega) Cells.nil (by decide) (by simp) (by simp))
    have HB1 := Lib.hid hB1
    have HDW := Lib.hid hDw
    clear hD hDw hB1 hsz
    go_wp2_with fail
    refine HO.out.mono ?_
    rintro e w3' ⟨g, F', rfl, hpd, hF', hB3⟩
    have HRO := Lib.hid (ropen_any 3 K Z C w3' (by decide) hK1 (by have := HZ.out; omega) (by have := HZ.out; omega))
    have hsz0 := hHB0.out.size
    have hsz1 := HB1.out.size
    have hF0 : ∀ k, F' k → W.heap.size ≤ k := fun k hk => by
      rcases hF' k hk with x | x
      · have := HDW.out k x; omega
      · omega
    have hBW3 : Below W.heap.size W w3' := (hHB0.out.trans (HB1.out.mono hsz0)).trans (hB3.mono (by omega))
    have HPD := Lib.hid hpd
    have HF0 := Lib.hid hF0
    have HBW3 := Lib.hid hBW3
    clear hpd hF' hB3 hF0 hBW3 hsz0 hsz1
    go_wp2_with fail
    refine HRO.out.mono ?_
    rintro e w4' ⟨gr, R, rfl, hR, hRw, hB4⟩
    have hbo : Both W.heap.size g gd gr w4' (newPG 3 K (List.replicate C 0)) (newDS Z) F' ⟨List.replicate C 0, List.replicate C zeroPage⟩ R := ⟨HPD.out.below hB4, hR, HF0.out, fun k hk => Nat.le_trans HBW3.out.size (hRw k hk), fun k hk hr => by have := HPD.out.lt k hk; have := hRw k hr; omega⟩
    have HST : Hid (StB W.heap.size g gd gr K C 0 w4') := Lib.hid ⟨_, _, _, _, _, hbo, by rw [← HZ.out]; exact start_ok C K hC11 hK1 hK6⟩
    have HBW4 : Hid (Below W.heap.size W w4') := Lib.hid (HBW3.out.trans (hB4.mono HBW3.out.size))
    clear hbo hR hRw hB4
    go_wp2
    go_loopw [13] (fun vi wr => ∃ k : Nat, vi = .int .i64 k ∧ k ≤ L ∧ Below W.heap.size W wr ∧ StB W.heap.size g gd gr K C (24 * k) wr) (fun vi _ => L - (RowKit.intOf vi).toNat)
    case atStart => exact ⟨0, rfl, Nat.zero_le _, HBW4.out, HST.out⟩
    case round =>
      obtain ⟨k, rfl, hk, hB, hst⟩ := hrel
      by_cases hlt : k < L
      · have hkI : (k : Int) < (L : Int) := by omega
        have hkl : k < ops.length := by rw [HL.out]; exact hlt
        obtain ⟨b, off, rfl, hbW, c0, c1, c2⟩ := HOPS.out.at_ hkl
        obtain ⟨op, hop⟩ : ∃ op, ops[k] = op := ⟨_, rfl⟩
        rw [hop] at c0 c1 c2
        have d0 : wr.cell? ⟨b, off + k * 3, none⟩ = some (.int .i64 op.kind) := (hB.cell (p := ⟨b, off + k * 3, none⟩) hbW).trans c0
        have d1 : wr.cell? ⟨b, off + k * 3 + 1, none⟩ = some (.int .i64 op.n) := (hB.cell (p := ⟨b, off + k * 3 + 1, none⟩) hbW).trans c1
        have d2 : wr.cell? ⟨b, off + k * 3 + 2, none⟩ = some (.int .i64 op.m) := (hB.cell (p := ⟨b, off + k * 3 + 2, none⟩) hbW).trans c2
        have HC1 : Hid (∀ w', Below W.heap.size W w' → w'.cell? ⟨b, off + k * 3 + 1, none⟩ = some (.int .i64 op.n)) := Lib.hid fun w' hw' => (hw'.cell (p := ⟨b, off + k * 3 + 1, none⟩) hbW).trans c1
        have HACT := Lib.hid (act_any W.heap.size g gd gr K C (24 * k) op wr hst hB.size (by omega) (by omega) hK6)
        have HB := Lib.hid hB
        clear c0 c1 c2 hop hkl hB hst hbW
        go_wp2_with fail
        refine HACT.out.mono ?_
        rintro e w5' ⟨rfl, hb5, s, t, F, r, R5, hbo, hok⟩
        have hBW5 : Below W.heap.size W w5' := HB.out.trans hb5
        have hcnt : r.is.length ≤ 100000 := by rw [hok.sim.is, hok.cnt]; omega
        have hroom := room_any g gd s t F w5' hbo.pd hok.inv
        have hrc := rcount_any gr r R5 w5' hbo.ref hcnt
        rw [hok.sim.is] at hrc
        obtain ⟨M, hM⟩ : ∃ M, room s.is = M := ⟨_, rfl⟩
        rw [hM] at hroom hrc
        have HROOM := Lib.hid hroom
        have HRC := Lib.hid hrc
        have HUSED := Lib.hid (used_any g gd s t F w5' hbo.pd hok.inv)
        have HCNT := Lib.hid hcnt
        have HBO := Lib.hid hbo
        have HOK := Lib.hid hok
        have HBW5 := Lib.hid hBW5
        clear hb5 hbo hok hBW5 hcnt hroom hrc hM d0 d1 d2
        go_wp2_with fail
        refine HROOM.out.mono ?_
        rintro e w6' ⟨rfl, rfl⟩
        go_wp2_with fail
        refine HRC.out.mono ?_
        rintro e w6' ⟨rfl, rfl⟩
        go_wp2_with fail
        refine HUSED.out.mono ?_
        rintro e w6' ⟨v6, rfl, hn6, hb6⟩
        have hru := rused_any gr r R5 w6' (HBO.out.ref.below hb6) HCNT.out
        rw [HOK.out.sim.is] at hru
        have HRU := Lib.hid hru
        have HN6 := Lib.hid hn6
        have HB6 := Lib.hid hb6
        obtain ⟨A6, c6, e6, _⟩ := nums_cells hn6 (Below.refl _ _)
        obtain ⟨U, hU⟩ : ∃ U, (usedL s.is).length = U := ⟨_, rfl⟩
        rw [hU] at e6
        have HE6 := Lib.hid e6
        have HU := Lib.hid hU
        subst e6
        clear hru hn6 hb6 hU
        go_wp2_with fail
        refine HRU.out.mono ?_
        rintro e w7' ⟨v7, rfl, hn7, hb7⟩
        obtain ⟨A6', c6', e6', hc6⟩ := nums_cells HN6.out hb7
        obtain ⟨A7, c7, e7, hc7⟩ := nums_cells hn7 (Below.refl _ _)
        rw [HU.out] at e6' e7
        injection e6' with x1 x2 x3
        subst x1 x3 e7
        have hint := ints_same A6 A7 (usedL s.is) c6 c7 w7' hc6 hc7 (by have := usedK_le s.is s.is.length; have := HOK.out.cnt; unfold usedL; omega)
        rw [HU.out] at hint
        have HINT := Lib.hid hint
        have HB7 : Hid (Below w5'.heap.size w5' w7') := Lib.hid (HB6.out.trans (hb7.mono HB6.out.size))
        clear hint hc6 hc7 hn7 hb7 x2
        go_wp2_with fail
        refine HINT.out.mono ?_
        rintro e w8' ⟨rfl, hb8⟩
        have hB8 : Below w5'.heap.size w5' w8' := HB7.out.trans (hb8.mono HB7.out.size)
        have hbo8 := HBO.out.below hB8
        have hBW8 : Below W.heap.size W w8' := HBW5.out.trans (hB8.mono HBW5.out.size)
        have HCA := Lib.hid (cached_any g gd s t F w8' hbo8.pd HOK.out.inv)
        have hcap := HOK.out.inv.cap
        rw [HOK.out.pool] at hcap
        obtain ⟨V, hV⟩ : ∃ V, s.used.length = V := ⟨_, rfl⟩
        rw [hV] at hcap HCA
        have hVI : ¬ (V : Int) > K := by omega
        have HBO8 := Lib.hid hbo8
        have HBW8 := Lib.hid hBW8
        clear hb8 hB8 hbo8 hBW8 hV hcap
        go_wp2_with fail
        refine HCA.out.mono ?_
        rintro e w9' ⟨rfl, rfl⟩
        obtain ⟨q, hq, hqR⟩ := HBO8.out.ref
        have hql : r.is.length = C := by rw [HOK.out.sim.is, HOK.out.cnt]
        have hcw : ∀ w', Calm w8' w' → w'.cell? ⟨b, off + k * 3 + 1, none⟩ = some (.int .i64 op.n) ∧ w'.cell? ⟨gr, 0, none⟩ = some (.slice (some ⟨q.gi, 0, none⟩) C C) := fun w' hw' => ⟨HC1.out w' (HBW8.out.trans (Below.mono hw' HBW8.out.size)), by
          have h1 := (hq.below hw').blk.cell 0
          rw [hql] at h1
          exact h1⟩
        have HCW := Lib.hid hcw
        have HQ := Lib.hid hq
        have HQL := Lib.hid hql
        clear hcw hq hqR hql
        obtain ⟨n, hn⟩ : ∃ n, op.n = n := ⟨_, rfl⟩
        rw [hn] at HCW
        have HNN := Lib.hid hn
        clear hn HC1
        by_cases hn0 : n < 0
        · have t1 : decide (n ≥ 0) = false := by simp; omega
          have HFR : Hid (∀ w', Calm w8' w' → Calls Try.prog 20 #[.pointer (some ⟨g, 0, none⟩), .int .i64 n] w' fun e w'' => e = .returned (.bool false) ∧ Below w'.heap.size w' w'') := Lib.hid fun w' hw' => fresh_at g gd s t F n w8' w' HBO8.out.pd hw' false (by unfold isOf; rw [if_pos (.inl hn0)]; rfl)
          go_wp2
          refine region_calm (by kernel_rfl) (by kernel_rfl) ?_
          repeat (first
            | go_big_quiet_skip
            | (go_big_quiet_want
               apply quiet_at
               · intro w' hw'
                 (obtain ⟨z1, z2⟩ := HCW.out _ (by assumption))
                 go_simp
                 first
                   | done
                   | exact rfl
                   | ((go_at_call 20; refine (HFR.out _ (by assumption)).mono ?_; rintro e w9 ⟨h1, h2⟩; exact ⟨h1, Below.trans (by assumption) (h2.mono (Below.size (by assumption)))⟩))
               (try simp only [Act.put, List.setIfInBounds_toArray, List.set_cons_zero, List.set_cons_succ])
               go_big_quiet_on))
          refine wpQuiet_nil ?_
          intro w5 hb5
          have HB9 : Hid (Below W.heap.size W w5) := Lib.hid (HBW8.out.trans (Below.mono (show Below w8'.heap.size w8' w5 from hb5) HBW8.out.size))
          have HS9 : Hid (StB W.heap.size g gd gr K C (24 * (k + 1)) w5) := Lib.hid ⟨s, t, F, r, R5, HBO8.out.below hb5, HOK.out⟩
          clear hb5
          go_wp2
          go_roundw
          case rel => exact ⟨k + 1, by go_num, by omega, HB9.out, HS9.out⟩
          case measure => simp [RowKit.intOf]; omega
        · have t1 : decide (n ≥ 0) = true := by simp; omega
          by_cases hn1 : (C : Int) ≤ n
          · have t2 : decide (n < (C : Int)) = false := by simp; omega
            have HFR : Hid (∀ w', Calm w8' w' → Calls Try.prog 20 #[.pointer (some ⟨g, 0, none⟩), .int .i64 n] w' fun e w'' => e = .returned (.bool false) ∧ Below w'.heap.size w' w'') := Lib.hid fun w' hw' => fresh_at g gd s t F n w8' w' HBO8.out.pd hw' false (by unfold isOf; rw [if_pos (.inr (by rw [HOK.out.cnt]; exact hn1))]; rfl)
            go_wp2
            refine region_calm (by kernel_rfl) (by kernel_rfl) ?_
            repeat (first
              | go_big_quiet_skip
              | (go_big_quiet_want
                 apply quiet_at
                 · intro w' hw'
                   (obtain ⟨z1, z2⟩ := HCW.out _ (by assumption))
                   go_simp
                   first
                     | done
                     | exact rfl
                     | ((go_at_call 20; refine (HFR.out _ (by assumption)).mono ?_; rintro e w9 ⟨h1, h2⟩; exact ⟨h1, Below.trans (by assumption) (h2.mono (Below.size (by assumption)))⟩))
                 (try simp only [Act.put, List.setIfInBounds_toArray, List.set_cons_zero, List.set_cons_succ])
                 go_big_quiet_on))
            refine wpQuiet_nil ?_
            intro w5 hb5
            have HB9 : Hid (Below W.heap.size W w5) := Lib.hid (HBW8.out.trans (Below.mono (show Below w8'.heap.size w8' w5 from hb5) HBW8.out.size))
            have HS9 : Hid (StB W.heap.size g gd gr K C (24 * (k + 1)) w5) := Lib.hid ⟨s, t, F, r, R5, HBO8.out.below hb5, HOK.out⟩
            clear hb5
            go_wp2
            go_roundw
            case rel => exact ⟨k + 1, by go_num, by omega, HB9.out, HS9.out⟩
            case measure => simp [RowKit.intOf]; omega
          · have t2 : decide (n < (C : Int)) = true := by simp; omega
            obtain ⟨j, rfl⟩ : ∃ j : Nat, n = j := ⟨n.toNat, by omega⟩
            have hjl : j < r.is.length := by rw [HQL.out]; omega
            obtain ⟨x, hx⟩ : ∃ x, r.is[j] = x := ⟨_, rfl⟩
            have hxo : isOf s.is j = x := by
              rw [← HOK.out.sim.is, isOf_lt hjl, hx]
            have HXC : Hid (∀ w', Calm w8' w' → w'.cell? ⟨q.gi, j, none⟩ = some (.int .i64 x)) := Lib.hid fun w' hw' => by rw [← hx]; exact (HQ.out.below hw').stateAt hjl
            have hjC : (j : Int) < (C : Int) := by omega
            have hj0 : (0 : Int) ≤ (j : Int) := by omega
            clear hx hjl
            by_cases h2 : x = 2
            · subst h2
              have HFR : Hid (∀ w', Calm w8' w' → Calls Try.prog 20 #[.pointer (some ⟨g, 0, none⟩), .int .i64 (j : Int)] w' fun e w'' => e = .returned (.bool true) ∧ Below w'.heap.size w' w'') := Lib.hid fun w' hw' => fresh_at g gd s t F (j : Int) w8' w' HBO8.out.pd hw' true (by rw [hxo]; rfl)
              go_wp2
              refine region_calm (by kernel_rfl) (by kernel_rfl) ?_
              repeat (first
                | go_big_quiet_skip
                | (go_big_quiet_want
                   apply quiet_at
                   · intro w' hw'
                     (obtain ⟨z1, z2⟩ := HCW.out _ (by assumption); have z3 := HXC.out _ (by assumption))
                     go_simp
                     first
                       | done
                       | exact rfl
                       | ((go_at_call 20; refine (HFR.out _ (by assumption)).mono ?_; rintro e w9 ⟨h1, h2⟩; exact ⟨h1, Below.trans (by assumption) (h2.mono (Below.size (by assumption)))⟩))
                   (try simp only [Act.put, List.setIfInBounds_toArray, List.set_cons_zero, List.set_cons_succ])
                   go_big_quiet_on))
              refine wpQuiet_nil ?_
              intro w5 hb5
              have HB9 : Hid (Below W.heap.size W w5) := Lib.hid (HBW8.out.trans (Below.mono (show Below w8'.heap.size w8' w5 from hb5) HBW8.out.size))
              have HS9 : Hid (StB W.heap.size g gd gr K C (24 * (k + 1)) w5) := Lib.hid ⟨s, t, F, r, R5, HBO8.out.below hb5, HOK.out⟩
              clear hb5
              go_wp2
              go_roundw
              case rel => exact ⟨k + 1, by go_num, by omega, HB9.out, HS9.out⟩
              case measure => simp [RowKit.intOf]; omega
            · have t3 : (x == 2) = false := by simpa using h2
              have HFR : Hid (∀ w', Calm w8' w' → Calls Try.prog 20 #[.pointer (some ⟨g, 0, none⟩), .int .i64 (j : Int)] w' fun e w'' => e = .returned (.bool false) ∧ Below w'.heap.size w' w'') := Lib.hid fun w' hw' => fresh_at g gd s t F (j : Int) w8' w' HBO8.out.pd hw' false (by rw [hxo]; exact t3)
              go_wp2
              refine region_calm (by kernel_rfl) (by kernel_rfl) ?_
              repeat (first
                | go_big_quiet_skip
                | (go_big_quiet_want
                   apply quiet_at
                   · intro w' hw'
                     (obtain ⟨z1, z2⟩ := HCW.out _ (by assumption); have z3 := HXC.out _ (by assumption))
                     go_simp
                     first
                       | done
                       | exact rfl
                       | ((go_at_call 20; refine (HFR.out _ (by assumption)).mono ?_; rintro e w9 ⟨h1, h2⟩; exact ⟨h1, Below.trans (by assumption) (h2.mono (Below.size (by assumption)))⟩))
                   (try simp only [Act.put, List.setIfInBounds_toArray, List.set_cons_zero, List.set_cons_succ])
                   go_big_quiet_on))
              refine wpQuiet_nil ?_
              intro w5 hb5
              have HB9 : Hid (Below W.heap.size W w5) := Lib.hid (HBW8.out.trans (Below.mono (show Below w8'.heap.size w8' w5 from hb5) HBW8.out.size))
              have HS9 : Hid (StB W.heap.size g gd gr K C (24 * (k + 1)) w5) := Lib.hid ⟨s, t, F, r, R5, HBO8.out.below hb5, HOK.out⟩
              clear hb5
              go_wp2
              go_roundw
              case rel => exact ⟨k + 1, by go_num, by omega, HB9.out, HS9.out⟩
              case measure => simp [RowKit.intOf]; omega
      · have hkI : ¬ (k : Int) < (L : Int) := by omega
        have HB := Lib.hid hB
        clear hB hst
        go_wp2
        go_ret
        exact ⟨rfl, HB.out⟩
  · have hlI : (L : Int) > 60 := by omega
    have HB0 := Lib.hid hb0
    clear hb0
    go_wp2_with fail
    refine (awake_any w0).mono ?_
    rintro e w1' ⟨rfl, hb1⟩
    have HB1 := Lib.hid hb1
    clear hb1
    go_wp2
    go_ret
    exact ⟨rfl, HB0.out.trans (HB1.out.mono HB0.out.size)⟩
end Go.Proofs.Ytkjbicenhncpeaa
