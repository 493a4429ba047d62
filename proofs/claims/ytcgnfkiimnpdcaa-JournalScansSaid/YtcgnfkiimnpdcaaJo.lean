/-
  The contract of munimentlaw07.play.
-/
import Derived.Test.YtcgnfkiimnpdcaaJn
import Derived.Test.YtcgnfkiimnpdcaaJm
import Derived.Test.YtcgnfkiimnpdcaaJe
set_option linter.unusedVariables false
namespace Go.Proofs.Ytcgnfkiimnpdcaa
open Go.RowKit

theorem Many.grew {B base : Nat} {w w' : World} {L : List (Nat × DS)} (h : Many B w L) {e : TypeId} {size n : Nat} {v v' : Value} {xs : List Value} (hr : w.ownsRow base e size v n xs) (he : Free e) (h8 : e ≠ 5) (hg : Grew w v w' v') : Many B w' L := by
  obtain ⟨F, h1, h2⟩ := h
  refine ⟨F, fun j g s e' => ⟨(h1 j g s e').1.chg (Chg.grown hg.by_) (fun k hk hkb => ?_) (fun k cur mk hkb hk => ?_), (h1 j g s e').2⟩, h2⟩
  · obtain ⟨cur, hc⟩ := row_block hr hkb
    exact (h1 j g s e').1.notT k cur e (0, 0) he hk hc
  · obtain ⟨cur', hc⟩ := row_block hr hkb
    rw [hc] at hk
    injection hk with hk
    injection hk with _ hk
    exact h8 hk
theorem row_bkj {w w' : World} {base : Nat} {e : TypeId} {size n : Nat} {v : Value} {xs : List Value} (h : w.ownsRow base e size v n xs) (hk : BKJ w w') (he : Free e) (hj : e ≠ 72) : w'.ownsRow base e size v n xs := by
  refine ⟨h.1, ?_⟩
  rcases h.2 with hn | ⟨g, cap, cur, rfl, hb, hgg, rest⟩
  · exact .inl hn
  · exact .inr ⟨g, cap, cur, rfl, hb, (hk g cur e (0, 0) he hj hgg).trans hgg, rest⟩
theorem OwnR.bkj {w w' : World} {base : Nat} {v : Value} {ls : List (List Int)} (h : OwnR w base v ls) (hk : BKJ w w') : OwnR w' base v ls := by
  obtain ⟨vs, h1, h2⟩ := h
  exact ⟨vs, row_bkj h1 hk ⟨by decide, by decide⟩ (by decide), h2.keep hk.b⟩
theorem free_rows : Free 27 := ⟨by decide, by decide⟩
theorem jsync_val (s : DS) (j : JS) : (jsyncE s j).1 = 0 ∨ (jsyncE s j).1 = 7 := by
  unfold jsyncE
  split
  · exact .inr rfl
  · split
    · exact .inl rfl
    · exact .inr rfl
theorem set_get {L : List (Nat × DS)} {i : Nat} {x y : Nat × DS} (hi : L[i]? = some x) : (L.set i y)[i]? = some y := by
  refine List.getElem?_set_self ?_
  rcases Nat.lt_or_ge i L.length with h | h
  · exact h
  · rw [List.getElem?_eq_none h] at hi; cases hi

/-- What play answers, and leaves. -/
def PlayD (W : World) (z : Int) (frm cnt : Nat) (E : Int) (base : Nat → List Int) (L : List (Nat × DS)) (i g a : Nat) (w : World) (e : Ending) (w' : World) : Prop :=
  ∃ (s' : DS) (j' : JS) (l : List (List Int)) (sy : Nat) (A : Option Addr) (c : Nat), e = .returned (.tuple #[.slice A l.length c, .int .i64 sy, .bool true]) ∧ Many W.heap.size w' (L.set i (g, s')) ∧ JAt w' a g j' ∧ OwnR w' W.heap.size (.slice A l.length c) l ∧ PL z frm cnt E base s' j' l sy ∧ l.length ≤ 30 ∧ Below W.heap.size w w'

set_option maxHeartbeats 8000000 in
theorem play_any {W w : World} {L : List (Nat × DS)} {i g a : Nat} {s : DS} {j : JS} {z : Int} {frm cnt : Nat} {E : Int} {base : Nat → List Int} (h : Many W.heap.size w L) (hbW : Below W.heap.size W w) (hi : L[i]? = some (g, s)) (hj : JAt w a g j) (ha : W.heap.size ≤ a)
    (hpl : PL z frm cnt E base s j [] 0) (hz : z ≤ 65536) (hE0 : 0 ≤ E) (hE1 : E ≤ 18446744073709551615) (A : Option Addr) (ops : List OpM) (c : Nat) (hops : Ops W A ops) (hol : ops.length ≤ 30) (hof : ∀ o ∈ ops, o.l.length ≤ 9000) :
    Calls Try.prog 19 #[.pointer (some ⟨g, 0, none⟩), .pointer (some ⟨a, 0, none⟩), .slice A ops.length c] w (PlayD W z frm cnt E base L i g a w) := by
  have hsame := set_same hi
  have HSAME := Lib.hid hsame
  have HI := Lib.hid hi
  clear hsame hi
  go_enter Try.func19, Try.ntmps19
  go_wp2
  go_loopw [9, 10, 11] (fun vl vs vi wr => ∃ (k : Nat) (t : DS) (q : JS) (l : List (List Int)) (sy : Nat), vi = .int .i64 k ∧ k ≤ ops.length ∧ vs = .int .i64 sy ∧ OwnR wr W.heap.size vl l ∧ l.length ≤ k ∧ Many W.heap.size wr (L.set i (g, t)) ∧ JAt wr a g q ∧ PL z frm cnt E base t q l sy ∧ Below W.heap.size w wr) (fun _ _ vi _ => ops.length - (intOf vi).toNat)
  case atStart => exact ⟨0, s, j, [], 0, rfl, by omega, rfl, OwnR.nil _ _, by simp, by rw [HSAME.out]; exact h, hj, hpl, Below.refl _ _⟩
  case round =>
    obtain ⟨k, t, q, l, sy, rfl, hk, rfl, hown, hlk, hM, hJ, hPL, hB⟩ := hrel
    have hBW := hbW.trans hB
    have hsz := hBW.size
    obtain ⟨Al, cl, vs, e9, hlc, hcm, hvl, hrow, hrows⟩ := hown.len
    subst e9
    unfold maxLen at hcm
    have HVL := Lib.hid hvl
    clear hvl
    obtain ⟨l', hPC⟩ := hPL.pc
    have b1 : q.nxt ≤ 65536 := by have := hPC.nx; have := hPC.tot; have := hPC.fits; omega
    have b2 : q.rcs ≤ 30 := by rw [hPL.jr]; omega
    have b3 : q.cnt ≤ 65536 := by rw [hPL.jc]; have := hPC.fits; omega
    have b4 : q.frm ≤ 65536 := by rw [hPL.jf]; have := hPC.fits; omega
    have b5 : t.fuse ≤ 9223372036854775807 := hPC.fu
    have b6 : t.pend.length ≤ 65536 := by have := hPC.pl; omega
    have b7 : 0 ≤ q.E ∧ q.E ≤ 18446744073709551615 := by rw [hPL.jE]; exact ⟨hE0, hE1⟩
    clear hPC
    by_cases hlt : k < ops.length
    · have g1 : (k : Int) < (ops.length : Int) := by omega
      obtain ⟨bo, oo, eA, hbo, c0, c1, c2⟩ := hops.at_ hlt
      have hfit := hops.fits _ (List.getElem_mem hlt)
      have hf9 := hof _ (List.getElem_mem hlt)
      obtain ⟨o, ho⟩ : ∃ o, o = ops[k] := ⟨_, rfl⟩
      rw [← ho] at c0 c1 c2 hfit hf9
      clear ho
      obtain ⟨kd, n, Ab, lb, cb⟩ := o
      simp only at c0 c1 c2 hf9
      have hn := hfit.hn
      have hob := hfit.ho
      have hcb := hfit.hc
      simp only at hn hob hcb
      clear hfit
      subst eA
      have d0 : wr.cell? ⟨bo, oo + k * 3, none⟩ = some (.int .i64 kd) := (hBW.cell (p := ⟨bo, oo + k * 3, none⟩) hbo).trans c0
      have d1 : wr.cell? ⟨bo, oo + k * 3 + 1, none⟩ = some (.int .i64 n) := (hBW.cell (p := ⟨bo, oo + k * 3 + 1, none⟩) hbo).trans c1
      have d2 : wr.cell? ⟨bo, oo + k * 3 + 2, none⟩ = some (.slice Ab lb.length cb) := (hBW.cell (p := ⟨bo, oo + k * 3 + 2, none⟩) hbo).trans c2
      clear c0 c1 c2
      by_cases k1 : kd = 1
      · have e1 : (kd == 1) = true := by simpa using k1
        clear k1
        have HRB := Lib.hid (recb_any kd n Ab lb cb wr (hcb.below hBW).whole hob hf9)
        go_wp2_with fail
        refine HRB.out.mono ?_
        clear HRB
        rintro e w3 ⟨A3, b, c3, rfl, hown3, hoct, hbl, hb3⟩
        have hM3 := hM.below hb3
        have hJ3 := hJ.below hb3 hJ.lt
        have hO3 := hown.below hb3
        have hs3 := Nat.le_trans hsz hb3.size
        obtain ⟨A3', c3', e3, hc31, hc32, _⟩ := hown3.shape
        injection e3 with e31 e32 e33
        subst e31 e33
        unfold maxLen at hc32
        have hC := jappend_any hM3 hs3 (i := i) (set_get HI.out) hJ3 ha A3 b c3 (KeptJ.of_bytes hown3.bytes) hoct hc31 (by omega) b7.1 b7.2 (by omega) (by omega) b3 b4 b5 (by omega)
        unfold JDone at hC
        rw [List.set_set] at hC
        have hPA := hPL.append b
        obtain ⟨x, hx⟩ : ∃ x, (appendE t q b).1 = x := ⟨_, rfl⟩
        rw [hx] at hC hPA
        have HC := Lib.hid hC
        have HX := Lib.hid hx
        clear hC hx
        have hB3 := hB.trans (hb3.mono hsz)
        by_cases hx0 : x = 0
        · subst hx0
          rw [if_pos rfl] at hPA
          go_wp2_with (first | (go_at_call 14; refine HC.out.mono ?_; rintro e w4 ⟨rfl, hM4, hJ4, hb4, hk4⟩; have hO4 := hO3.bkj hk4; have hrv4 := (hown3.rowV hoct).keep hk4.b; have hb4' := Nat.le_trans hs3 hb4.size; obtain ⟨vs4, hr4, hv4⟩ := hO4; have hl4 := hv4.len; rw [hl4] at hr4; have HL4 := Lib.hid hl4; clear hl4; have hr4' := World.ownsRow.alloc hr4 (.cells #[.slice A3 b.length c3] 27)) | (at_builtin; refine appG_anyS Try.underlying22 info_rows rfl (by decide) rfl (.tmp 35) (.tmp 37) rfl W.heap.size _ l.length vs4 rfl hr4' _ _ 1 1 [.slice A3 b.length c3] rfl (cells_blk w4 _ _) (by simp) (by intro u hu; simp at hu; subst hu; rfl) (by unfold maxLen; omega) (by omega) (by simp; omega) ?_; intro A6 c6 w6 hrow6 hg6))
          have hba : Below w4.heap.size w4 (w4.alloc (.cells #[.slice A3 b.length c3] 27)) := (Below.refl _ _).alloc (Nat.le_refl _) _
          have hbg := grew_low hg6 hr4' (by simp; omega)
          have hownN : OwnR w6 W.heap.size _ (l ++ [b]) := OwnR.snoc hr4' (hv4.keep (BK.of_below hba)) (hrv4.keep (BK.of_below hba)) hrow6 hg6
          have hMN := (hM4.below hba).grew hr4' free_rows (by decide) hg6
          have hJa : JAt _ a g _ := hJ4.below hba hJ4.lt
          have hJN := hJa.grown hg6.by_ (row_type hr4' hJa (by decide))
          have hBN := (hB3.trans hb4).trans ((hba.mono hb4').trans hbg)
          go_roundw
          case rel => exact ⟨k + 1, _, _, l ++ [b], sy, by go_num, by omega, rfl, by simpa using hownN, by simp; omega, hMN, hJN, hPA, hBN⟩
          case measure => simp [intOf]; omega
        · rw [if_neg hx0] at hPA
          have hxb : (x == 0) = false := by simpa using hx0
          go_wp2_with (go_at_call 14; refine HC.out.mono ?_; rintro e w4 ⟨rfl, hM4, hJ4, hb4, hk4⟩; have hO4 := hO3.bkj hk4)
          go_roundw
          case rel => exact ⟨k + 1, _, _, l, sy, by go_num, by omega, rfl, hO4, by omega, hM4, hJ4, hPA, hB3.trans hb4⟩
          case measure => simp [intOf]; omega
      · have e1 : (kd == 1) = false := by simpa using k1
        by_cases k2 : kd = 2
        · have e2 : (kd == 2) = true := by simpa using k2
          clear k1 k2
          have hC := jsync_any hM hsz (i := i) (set_get HI.out) hJ ha b5 (by omega)
          unfold JDone at hC
          rw [List.set_set] at hC
          have hPS := hPL.sync
          rcases jsync_val t q with hv | hv
          · rw [hv] at hC hPS
            rw [if_pos rfl] at hPS
            have HC := Lib.hid hC
            clear hC hv
            go_wp2_with (go_at_call 15; refine HC.out.mono ?_; rintro e w4 ⟨rfl, hM4, hJ4, hb4, hk4⟩; have hO4 := hown.bkj hk4)
            go_roundw
            case rel => exact ⟨k + 1, _, _, l, l.length, by go_num, by omega, rfl, hO4, by omega, hM4, hJ4, hPS, hB.trans hb4⟩
            case measure => simp [intOf]; omega
          · rw [hv] at hC hPS
            rw [if_neg (by decide)] at hPS
            have HC := Lib.hid hC
            clear hC hv
            go_wp2_with (go_at_call 15; refine HC.out.mono ?_; rintro e w4 ⟨rfl, hM4, hJ4, hb4, hk4⟩; have hO4 := hown.bkj hk4)
            go_roundw
            case rel => exact ⟨k + 1, _, _, l, sy, by go_num, by omega, rfl, hO4, by omega, hM4, hJ4, hPS, hB.trans hb4⟩
            case measure => simp [intOf]; omega
        · have e2 : (kd == 2) = false := by simpa using k2
          by_cases k3 : kd = 3
          · have e3 : (kd == 3) = true := by simpa using k3
            clear k1 k2 k3
            have hC := many_fuse hM hsz (i := i) (set_get HI.out) n
            rw [List.set_set] at hC
            have hPF := hPL.fuse n hn.2
            have HC := Lib.hid hC
            clear hC
            go_wp2_with (go_at_call 36; refine HC.out.mono ?_; rintro e w4 ⟨rfl, hM4, hb4, hk4⟩; have hO4 := hown.bkj hk4.j)
            go_roundw
            case rel => exact ⟨k + 1, _, q, l, sy, by go_num, by omega, rfl, hO4, by omega, hM4, hk4.blk hJ free_j, hPF, hB.trans hb4⟩
            case measure => simp [intOf]; omega
          · have e3 : (kd == 3) = false := by simpa using k3
            clear k1 k2 k3
            go_wp2
            go_roundw
            case rel => exact ⟨k + 1, t, q, l, sy, by go_num, by omega, rfl, hown, by omega, hM, hJ, hPL, hB⟩
            case measure => simp [intOf]; omega
    · have g1 : ¬ (k : Int) < (ops.length : Int) := by omega
      have hR := records_any a g q wr hJ
      rw [hPL.jr] at hR
      have HR := Lib.hid hR
      clear hR
      go_wp2_with (go_at_call 17; refine HR.out.mono ?_; rintro e w4 ⟨rfl, rfl⟩)
      exact bodyPost_ret (v := .tuple #[.slice Al l.length cl, .int .i64 sy, .bool true]) (by simp [results, Try.results19, go_sem]) rfl ⟨t, q, l, sy, Al, cl, rfl, hM, hJ, hown, hPL, by omega, hB⟩
end Go.Proofs.Ytcgnfkiimnpdcaa
