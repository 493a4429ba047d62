/-
  NodeBack: its walk.
-/
import Derived.Test.YtbngcinhjoigaaaVy
set_option linter.unusedVariables false
namespace Go.Proofs.Ytbngcinhjoigaaa
open Go.RowKit

theorem fewN_iff {ks vs : List (List Int)} {is : List Int} (h : fewN ks vs is = true) : ks.length ≤ 120 ∧ vs.length ≤ 120 ∧ is.length ≤ 120 ∧ LenLe ks 300 ∧ LenLe vs 300 := of_decide_eq_true h
/-- Same of two nodes that are alike, whatever the world. -/
def SameP (W : World) (lf : Bool) (Ak : Option Addr) (ks : List (List Int)) (ck : Nat) (Av : Option Addr) (vs : List (List Int)) (cv : Nat) (Ai : Option Addr) (is : List Int) (ci : Nat) (Bk : Option Addr) (dk : Nat) (Bv : Option Addr) (dv : Nat) (Bi : Option Addr) (di : Nat) : Prop :=
  ∀ w', Below W.heap.size W w' → Calls Try.prog 17 #[nodeV lf Ak ks ck Av vs cv Ai is ci, nodeV lf Bk ks dk Bv vs dv Bi is di] w' fun e w'' => e = .returned (.bool true) ∧ Below w'.heap.size w' w''

set_option maxRecDepth 8000 in
set_option maxHeartbeats 16000000 in
theorem back_walk (lf : Bool) (Ak : Option Addr) (ks : List (List Int)) (ck : Nat) (Av : Option Addr) (vs : List (List Int)) (cv : Nat) (Ai : Option Addr) (is : List Int) (ci : Nat) (A : Option Addr) (l : List Int) (c : Nat) (w : World) (h : NodeAt w Ak ks ck Av vs cv Ai is ci) (ha : Cells w w.heap.size A (U8 l)) (ho : Oct l) (hcap : l.length ≤ c ∧ c ≤ 9223372036854775807) :
    Calls Try.prog 6 #[nodeV lf Ak ks ck Av vs cv Ai is ci, .slice A l.length c] w fun e w' => e = .returned (.bool true) ∧ Below w.heap.size w w' := by
  obtain ⟨W, hW⟩ : ∃ W, W = w.alloc (.cells #[.bool lf, .slice Ak ks.length ck, .slice Av vs.length cv, .slice Ai is.length ci] 25) := ⟨_, rfl⟩
  have hWz : W.heap.size = w.heap.size + 1 := by rw [hW]; simp
  have hF : Blk W w.heap.size 25 #[.bool lf, .slice Ak ks.length ck, .slice Av vs.length cv, .slice Ai is.length ci] := by rw [hW]; exact Blk.new w _ _
  have hB0 : Below w.heap.size w W := by rw [hW]; exact (Below.refl _ _).alloc (Nat.le_refl _) _
  have hN := h.below hB0
  have HW := Lib.hid hW
  have HWZ := Lib.hid hWz
  have hlt0 := hF.lt
  clear hW h hWz
  obtain ⟨lf', ks', vs', is', E, ⟨t1, t2, t3, t4, t5⟩, hE, hres⟩ := read_form l
  have HR : Hid (l.length ≤ 3000 → ∀ w1, Below w.heap.size w w1 → Calls Try.prog 15 #[.slice A l.length c] w1 (NodeRes lf' ks' vs' is' E w1)) := Lib.hid fun hl w1 hb => (read_any A l c w1 (ha.below hb).whole ho (by omega) hcap).mono fun e w' h => hres _ _ _ h
  have HE := Lib.hid hE
  have HT := Lib.hid (⟨t1, t2, t3, t4, t5⟩ : LenLe ks' 100000 ∧ LenLe vs' 100000 ∧ ks'.length ≤ 1024 ∧ vs'.length ≤ 1024 ∧ is'.length ≤ 1025)
  clear hres hE t1 t2 t3 t4 t5
  go_enter Try.func6, Try.ntmps6
  go_wp2_with fail
  rw [← HW.out]
  refine (awake_any W).mono ?_
  rintro e w1 ⟨rfl, hb1⟩
  have hF1 := hF.below hb1 hF.lt
  obtain ⟨c0, c1, c2, c3⟩ : w1.cell? ⟨w.heap.size, 0, none⟩ = some (.bool lf) ∧ w1.cell? ⟨w.heap.size, 1, none⟩ = some (.slice Ak ks.length ck) ∧ w1.cell? ⟨w.heap.size, 2, none⟩ = some (.slice Av vs.length cv) ∧ w1.cell? ⟨w.heap.size, 3, none⟩ = some (.slice Ai is.length ci) := ⟨hF1.cell 0, hF1.cell 1, hF1.cell 2, hF1.cell 3⟩
  go_wp2_with fail
  refine (plain_any _ _ _ _ lf Ak Av Ai ks.length ck vs.length cv is.length ci w1 rfl rfl rfl rfl).mono ?_
  rintro e w2 ⟨rfl, hb2⟩
  have hB2 := hb1.trans (hb2.mono hb1.size)
  have HFW := Lib.hid (few_any lf Ak ks ck Av vs cv Ai is ci w2 (hN.below hB2))
  cases hfew : fewN ks vs is with
  | false =>
    rw [hfew] at HFW
    clear hfew
    go_wp2_with fail
    refine HFW.out.mono ?_
    rintro e w3 ⟨rfl, hb3⟩
    have hB3 := hB2.trans (hb3.mono hB2.size)
    go_wp2_with fail
    refine (awake_any w3).mono ?_
    rintro e w4 ⟨rfl, hb4⟩
    go_wp2
    go_ret
    have hB4 := hB3.trans (hb4.mono hB3.size)
    exact ⟨rfl, hB0.trans (hB4.mono hB0.size)⟩
  | true =>
    rw [hfew] at HFW
    obtain ⟨s1, s2, s3, s4, s5⟩ := fewN_iff hfew
    clear hfew
    by_cases hk : 3000 < l.length
    · have hkI : (3000 : Int) < (l.length : Int) := by omega
      go_wp2_with fail
      refine HFW.out.mono ?_
      rintro e w3 ⟨rfl, hb3⟩
      have hB3 := hB2.trans (hb3.mono hB2.size)
      go_wp2_with fail
      refine (awake_any w3).mono ?_
      rintro e w4 ⟨rfl, hb4⟩
      go_wp2
      go_ret
      have hB4 := hB3.trans (hb4.mono hB3.size)
      exact ⟨rfl, hB0.trans (hB4.mono hB0.size)⟩
    · have hkI : ¬ (3000 : Int) < (l.length : Int) := by omega
      have HR' := Lib.hid (HR.out (by omega))
      have hl3 : l.length ≤ 3000 := by omega
      clear HR hk
      go_wp2_with fail
      refine HFW.out.mono ?_
      rintro e w3 ⟨rfl, hb3⟩
      have hB3 := hB2.trans (hb3.mono hB2.size)
      clear HFW hb3 hb2 hB2 hb1 c0 c1 c2 c3 hF1
      have hF3 := hF.below hB3 hF.lt
      obtain ⟨c0, c1, c2, c3⟩ : w3.cell? ⟨w.heap.size, 0, none⟩ = some (.bool lf) ∧ w3.cell? ⟨w.heap.size, 1, none⟩ = some (.slice Ak ks.length ck) ∧ w3.cell? ⟨w.heap.size, 2, none⟩ = some (.slice Av vs.length cv) ∧ w3.cell? ⟨w.heap.size, 3, none⟩ = some (.slice Ai is.length ci) := ⟨hF3.cell 0, hF3.cell 1, hF3.cell 2, hF3.cell 3⟩
      have HWR := Lib.hid (write_any lf Ak ks ck Av vs cv Ai is ci w3 (hN.below hB3) (s4.mono (by omega)) (s5.mono (by omega)) (by omega) (by omega) (by omega))
      clear hF3
      cases hf : frmB lf ks vs is with
      | false =>
        rw [hf] at HWR
        clear hf
        go_wp2_with fail
        refine HWR.out.mono ?_
        rintro e w8 ⟨⟨v8, rfl, hown8⟩, hb8⟩
        have hB8 := hB0.trans ((hB3.trans (hb8.mono hB3.size)).mono hB0.size)
        clear hown8
        go_wp2_with fail
        refine (HR'.out _ hB8).mono ?_
        rintro e wa ⟨⟨Ck, ek, Cv, ev, Ci, ei, rfl, hna⟩, hba⟩
        have hBa := hB8.trans (hba.mono hB8.size)
        obtain ⟨Wb, hWb⟩ : ∃ Wb, Wb = wa.alloc (.cells #[.bool lf', .slice Ck ks'.length ek, .slice Cv vs'.length ev, .slice Ci is'.length ei] 25) := ⟨_, rfl⟩
        have hBWb : Below wa.heap.size wa Wb := by rw [hWb]; exact (Below.refl _ _).alloc (Nat.le_refl _) _
        have hGb : Blk Wb wa.heap.size 25 #[.bool lf', .slice Ck ks'.length ek, .slice Cv vs'.length ev, .slice Ci is'.length ei] := by rw [hWb]; exact Blk.new wa _ _
        have hBb := hBa.trans (hBWb.mono hBa.size)
        have hnb := hna.below hBWb
        obtain ⟨x0, x1, x2, x3⟩ : Wb.cell? ⟨wa.heap.size, 0, none⟩ = some (.bool lf') ∧ Wb.cell? ⟨wa.heap.size, 1, none⟩ = some (.slice Ck ks'.length ek) ∧ Wb.cell? ⟨wa.heap.size, 2, none⟩ = some (.slice Cv vs'.length ev) ∧ Wb.cell? ⟨wa.heap.size, 3, none⟩ = some (.slice Ci is'.length ei) := ⟨hGb.cell 0, hGb.cell 1, hGb.cell 2, hGb.cell 3⟩
        have HWb := Lib.hid hWb
        clear hWb
        rcases HE.out with ⟨hE0, hIP⟩ | ⟨hE1, _⟩
        · subst hE0
          obtain ⟨t1, t2, t3, t4, t5⟩ := HT.out
          have HWRb := Lib.hid (write_any lf' Ck ks' ek Cv vs' ev Ci is' ei Wb hnb t1 t2 (by omega) (by omega) (by omega))
          unfold WriteRes at HWRb
          rw [hIP.1, hIP.2, if_pos rfl, if_pos rfl] at HWRb
          clear hIP
          go_wp2_with fail
          rw [← HWb.out]
          refine HWRb.out.mono ?_
          rintro e wd ⟨⟨vd, rfl, hownd⟩, hbd⟩
          obtain ⟨Ad, ad, rfl, hd1, hd2, hcld⟩ := hownd.parts
          have hBd2 := hBb.trans (hbd.mono hBb.size)
          have HSM : Hid (Calls Try.prog 14 #[.slice A l.length c, .slice Ad l.length ad] wd fun e w' => e = .returned (.bool true) ∧ Below wd.heap.size wd w') := Lib.hid ((same_b A Ad l l c ad wd (ha.below hBd2).whole hcld (by omega)).mono fun e w' ⟨h1, h2⟩ => ⟨by rw [h1]; simp [sameB], h2⟩)
          go_wp2_with (first | (go_at_call 14; refine HSM.out.mono ?_; rintro e we ⟨rfl, hbe⟩))
          go_ret
          exact ⟨rfl, hBd2.trans (hbe.mono hBd2.size)⟩
        · subst hE1
          go_wp2_with fail
          rw [← HWb.out]
          go_ret
          exact ⟨rfl, hBb⟩
      | true =>
        rw [hf] at HWR
        have hIP : IsPage (pageL lf ks vs is) lf ks vs is := ⟨hf, rfl⟩
        have HRP : Hid (∀ (A' : Option Addr) (n c' : Nat) (w' : World), n = 1024 → n ≤ c' ∧ c' ≤ 9223372036854775807 → Cells w' w'.heap.size A' (U8 (pageL lf ks vs is)) → Oct (pageL lf ks vs is) → Calls Try.prog 15 #[.slice A' n c'] w' (NodeRes lf ks vs is 0 w')) := Lib.hid fun A' n c' w' hn h1 h2 h3 => by
          have hn2 := hIP.len
          obtain rfl : n = (pageL lf ks vs is).length := by omega
          refine (read_any A' (pageL lf ks vs is) c' w' h2 h3 (by omega) h1).mono fun e w'' hr => ⟨?_, hr.2⟩
          rcases hr.1 with ⟨lf2, Ak2, ks2, ck2, Av2, vs2, cv2, Ai2, is2, ci2, hp2, he2, hn2⟩ | ⟨hno, _⟩
          · obtain ⟨rfl, rfl, rfl, rfl⟩ := hIP.one hp2
            exact ⟨Ak2, ck2, Av2, cv2, Ai2, ci2, he2, hn2⟩
          · exact absurd hIP (hno _ _ _ _)
        have hPO : Oct (pageL lf ks vs is) := page_oct hf (oct_rows hN.keys) (oct_rows hN.vals)
        have hPL := hIP.len
        clear hf hIP
        go_wp2_with fail
        refine HWR.out.mono ?_
        rintro e w4 ⟨⟨v4, rfl, hown4⟩, hb4⟩
        rw [if_pos rfl] at hown4 ⊢
        obtain ⟨A4, a4, rfl, h41, h42, hcl4⟩ := hown4.parts
        have hB4 := hB3.trans (hb4.mono hB3.size)
        clear hown4 HWR c0 c1 c2 c3
        obtain ⟨N, hN1024⟩ : ∃ N, (pageL lf ks vs is).length = N := ⟨_, rfl⟩
        rw [hN1024] at h41 ⊢
        have HRP4 := Lib.hid (HRP.out A4 N a4 w4 (by omega) ⟨h41, h42⟩ hcl4 hPO)
        have hNn : ((N : Int) != 1024) = false := by simp; omega
        clear HRP hPO hcl4 hPL hN1024
        go_wp2_with fail
        refine HRP4.out.mono ?_
        rintro e w5 ⟨⟨Bk, dk, Bv, dv, Bi, di, rfl, hM⟩, hb5⟩
        have hB5 := hB4.trans (hb5.mono hB4.size)
        obtain ⟨W5, hW5⟩ : ∃ W5, W5 = w5.alloc (.cells #[.bool lf, .slice Bk ks.length dk, .slice Bv vs.length dv, .slice Bi is.length di] 25) := ⟨_, rfl⟩
        have hBW5 : Below w5.heap.size w5 W5 := by rw [hW5]; exact (Below.refl _ _).alloc (Nat.le_refl _) _
        have hG5 : Blk W5 w5.heap.size 25 #[.bool lf, .slice Bk ks.length dk, .slice Bv vs.length dv, .slice Bi is.length di] := by rw [hW5]; exact Blk.new w5 _ _
        have hB6 := hB5.trans (hBW5.mono hB5.size)
        have hF5 := hF.below hB6 hF.lt
        have ln := hF5.lt
        have lm := hG5.lt
        have hN5 := hN.below hB6
        have hM5 := hM.below hBW5
        have HS : Hid (SameP W5 lf Bk ks dk Bv vs dv Bi is di Ak ck Av cv Ai ci) := Lib.hid fun w' hb => rsame_true lf Bk ks dk Bv vs dv Bi is di Ak ck Av cv Ai ci w' (hM5.below hb) (hN5.below hb) (s4.mono (by omega)) (s5.mono (by omega)) (by omega) (by omega) (by omega)
        obtain ⟨c0, c1, c2, c3⟩ : W5.cell? ⟨w.heap.size, 0, none⟩ = some (.bool lf) ∧ W5.cell? ⟨w.heap.size, 1, none⟩ = some (.slice Ak ks.length ck) ∧ W5.cell? ⟨w.heap.size, 2, none⟩ = some (.slice Av vs.length cv) ∧ W5.cell? ⟨w.heap.size, 3, none⟩ = some (.slice Ai is.length ci) := ⟨hF5.cell 0, hF5.cell 1, hF5.cell 2, hF5.cell 3⟩
        obtain ⟨d0, d1, d2, d3⟩ : W5.cell? ⟨w5.heap.size, 0, none⟩ = some (.bool lf) ∧ W5.cell? ⟨w5.heap.size, 1, none⟩ = some (.slice Bk ks.length dk) ∧ W5.cell? ⟨w5.heap.size, 2, none⟩ = some (.slice Bv vs.length dv) ∧ W5.cell? ⟨w5.heap.size, 3, none⟩ = some (.slice Bi is.length di) := ⟨hG5.cell 0, hG5.cell 1, hG5.cell 2, hG5.cell 3⟩
        have HW5 := Lib.hid hW5
        clear hW5 hM hM5 hN5 hF5 hG5
        go_wp2_with fail
        rw [← HW5.out]
        have hBc : Below W5.heap.size W5 W5.drew := (Below.refl _ _).drew
        go_region_held3 (fun w' => (w'.cell? ⟨w.heap.size, 0, none⟩ = some (.bool lf) ∧ w'.cell? ⟨w.heap.size, 1, none⟩ = some (.slice Ak ks.length ck) ∧ w'.cell? ⟨w.heap.size, 2, none⟩ = some (.slice Av vs.length cv) ∧ w'.cell? ⟨w.heap.size, 3, none⟩ = some (.slice Ai is.length ci)) ∧ w'.cell? ⟨w5.heap.size, 0, none⟩ = some (.bool lf) ∧ w'.cell? ⟨w5.heap.size, 1, none⟩ = some (.slice Bk ks.length dk) ∧ w'.cell? ⟨w5.heap.size, 2, none⟩ = some (.slice Bv vs.length dv) ∧ w'.cell? ⟨w5.heap.size, 3, none⟩ = some (.slice Bi is.length di)) (go_keep)
          (first
            | (go_at_call 9; refine (plain_any _ _ _ _ lf Ak Av Ai ks.length ck vs.length cv is.length ci _ rfl rfl rfl rfl).mono ?_; rintro e w6 ⟨rfl, hb6⟩; replace hBc := hBc.trans (hb6.mono (by exact hBc.size)); have pf0 : w6.cell? ⟨w.heap.size, 0, none⟩ = some (.bool lf) := (hBc.cell (p := ⟨w.heap.size, 0, none⟩) ln).trans c0; have pf1 : w6.cell? ⟨w.heap.size, 1, none⟩ = some (.slice Ak ks.length ck) := (hBc.cell (p := ⟨w.heap.size, 1, none⟩) ln).trans c1; have pf2 : w6.cell? ⟨w.heap.size, 2, none⟩ = some (.slice Av vs.length cv) := (hBc.cell (p := ⟨w.heap.size, 2, none⟩) ln).trans c2; have pf3 : w6.cell? ⟨w.heap.size, 3, none⟩ = some (.slice Ai is.length ci) := (hBc.cell (p := ⟨w.heap.size, 3, none⟩) ln).trans c3; have pg0 : w6.cell? ⟨w5.heap.size, 0, none⟩ = some (.bool lf) := (hBc.cell (p := ⟨w5.heap.size, 0, none⟩) lm).trans d0; have pg1 : w6.cell? ⟨w5.heap.size, 1, none⟩ = some (.slice Bk ks.length dk) := (hBc.cell (p := ⟨w5.heap.size, 1, none⟩) lm).trans d1; have pg2 : w6.cell? ⟨w5.heap.size, 2, none⟩ = some (.slice Bv vs.length dv) := (hBc.cell (p := ⟨w5.heap.size, 2, none⟩) lm).trans d2; have pg3 : w6.cell? ⟨w5.heap.size, 3, none⟩ = some (.slice Bi is.length di) := (hBc.cell (p := ⟨w5.heap.size, 3, none⟩) lm).trans d3)
            | (go_at_call 9; refine (plain_any _ _ _ _ lf Bk Bv Bi ks.length dk vs.length dv is.length di _ rfl rfl rfl rfl).mono ?_; rintro e w6 ⟨rfl, hb6⟩; replace hBc := hBc.trans (hb6.mono (by exact hBc.size)); have pf0 : w6.cell? ⟨w.heap.size, 0, none⟩ = some (.bool lf) := (hBc.cell (p := ⟨w.heap.size, 0, none⟩) ln).trans c0; have pf1 : w6.cell? ⟨w.heap.size, 1, none⟩ = some (.slice Ak ks.length ck) := (hBc.cell (p := ⟨w.heap.size, 1, none⟩) ln).trans c1; have pf2 : w6.cell? ⟨w.heap.size, 2, none⟩ = some (.slice Av vs.length cv) := (hBc.cell (p := ⟨w.heap.size, 2, none⟩) ln).trans c2; have pf3 : w6.cell? ⟨w.heap.size, 3, none⟩ = some (.slice Ai is.length ci) := (hBc.cell (p := ⟨w.heap.size, 3, none⟩) ln).trans c3; have pg0 : w6.cell? ⟨w5.heap.size, 0, none⟩ = some (.bool lf) := (hBc.cell (p := ⟨w5.heap.size, 0, none⟩) lm).trans d0; have pg1 : w6.cell? ⟨w5.heap.size, 1, none⟩ = some (.slice Bk ks.length dk) := (hBc.cell (p := ⟨w5.heap.size, 1, none⟩) lm).trans d1; have pg2 : w6.cell? ⟨w5.heap.size, 2, none⟩ = some (.slice Bv vs.length dv) := (hBc.cell (p := ⟨w5.heap.size, 2, none⟩) lm).trans d2; have pg3 : w6.cell? ⟨w5.heap.size, 3, none⟩ = some (.slice Bi is.length di) := (hBc.cell (p := ⟨w5.heap.size, 3, none⟩) lm).trans d3)
            | (go_at_call 17; refine (HS.out _ (by exact hBc)).mono ?_; rintro e w7 ⟨rfl, hb7⟩; have hBd := hBc.trans (hb7.mono (by exact hBc.size)); have qf0 : w7.cell? ⟨w.heap.size, 0, none⟩ = some (.bool lf) := (hBd.cell (p := ⟨w.heap.size, 0, none⟩) ln).trans c0; have qf1 : w7.cell? ⟨w.heap.size, 1, none⟩ = some (.slice Ak ks.length ck) := (hBd.cell (p := ⟨w.heap.size, 1, none⟩) ln).trans c1; have qf2 : w7.cell? ⟨w.heap.size, 2, none⟩ = some (.slice Av vs.length cv) := (hBd.cell (p := ⟨w.heap.size, 2, none⟩) ln).trans c2; have qf3 : w7.cell? ⟨w.heap.size, 3, none⟩ = some (.slice Ai is.length ci) := (hBd.cell (p := ⟨w.heap.size, 3, none⟩) ln).trans c3; have qg0 : w7.cell? ⟨w5.heap.size, 0, none⟩ = some (.bool lf) := (hBd.cell (p := ⟨w5.heap.size, 0, none⟩) lm).trans d0; have qg1 : w7.cell? ⟨w5.heap.size, 1, none⟩ = some (.slice Bk ks.length dk) := (hBd.cell (p := ⟨w5.heap.size, 1, none⟩) lm).trans d1; have qg2 : w7.cell? ⟨w5.heap.size, 2, none⟩ = some (.slice Bv vs.length dv) := (hBd.cell (p := ⟨w5.heap.size, 2, none⟩) lm).trans d2; have qg3 : w7.cell? ⟨w5.heap.size, 3, none⟩ = some (.slice Bi is.length di) := (hBd.cell (p := ⟨w5.heap.size, 3, none⟩) lm).trans d3))
        all_goals
          have hB8 := hB0.trans ((hB6.trans (hBd.mono hB6.size)).mono hB0.size)
          go_wp2_with fail
          refine (HR'.out _ hB8).mono ?_
          rintro e wa ⟨⟨Ck, ek, Cv, ev, Ci, ei, rfl, hna⟩, hba⟩
          have hBa := hB8.trans (hba.mono hB8.size)
          obtain ⟨Wb, hWb⟩ : ∃ Wb, Wb = wa.alloc (.cells #[.bool lf', .slice Ck ks'.length ek, .slice Cv vs'.length ev, .slice Ci is'.length ei] 25) := ⟨_, rfl⟩
          have hBWb : Below wa.heap.size wa Wb := by rw [hWb]; exact (Below.refl _ _).alloc (Nat.le_refl _) _
          have hGb : Blk Wb wa.heap.size 25 #[.bool lf', .slice Ck ks'.length ek, .slice Cv vs'.length ev, .slice Ci is'.length ei] := by rw [hWb]; exact Blk.new wa _ _
          have hBb := hBa.trans (hBWb.mono hBa.size)
          have hnb := hna.below hBWb
          obtain ⟨x0, x1, x2, x3⟩ : Wb.cell? ⟨wa.heap.size, 0, none⟩ = some (.bool lf') ∧ Wb.cell? ⟨wa.heap.size, 1, none⟩ = some (.slice Ck ks'.length ek) ∧ Wb.cell? ⟨wa.heap.size, 2, none⟩ = some (.slice Cv vs'.length ev) ∧ Wb.cell? ⟨wa.heap.size, 3, none⟩ = some (.slice Ci is'.length ei) := ⟨hGb.cell 0, hGb.cell 1, hGb.cell 2, hGb.cell 3⟩
          have HWb := Lib.hid hWb
          clear hWb
          rcases HE.out with ⟨hE0, hIP⟩ | ⟨hE1, _⟩
          · subst hE0
            obtain ⟨t1, t2, t3, t4, t5⟩ := HT.out
            have HWRb := Lib.hid (write_any lf' Ck ks' ek Cv vs' ev Ci is' ei Wb hnb t1 t2 (by omega) (by omega) (by omega))
            unfold WriteRes at HWRb
            rw [hIP.1, hIP.2, if_pos rfl, if_pos rfl] at HWRb
            clear hIP
            go_wp2_with fail
            rw [← HWb.out]
            refine HWRb.out.mono ?_
            rintro e wd ⟨⟨vd, rfl, hownd⟩, hbd⟩
            obtain ⟨Ad, ad, rfl, hd1, hd2, hcld⟩ := hownd.parts
            have hBd2 := hBb.trans (hbd.mono hBb.size)
            have HSM : Hid (Calls Try.prog 14 #[.slice A l.length c, .slice Ad l.length ad] wd fun e w' => e = .returned (.bool true) ∧ Below wd.heap.size wd w') := Lib.hid ((same_b A Ad l l c ad wd (ha.below hBd2).whole hcld (by omega)).mono fun e w' ⟨h1, h2⟩ => ⟨by rw [h1]; simp [sameB], h2⟩)
            go_wp2_with (first | (go_at_call 14; refine HSM.out.mono ?_; rintro e we ⟨rfl, hbe⟩))
            go_ret
            exact ⟨rfl, hBd2.trans (hbe.mono hBd2.size)⟩
          · subst hE1
            go_wp2_with fail
            rw [← HWb.out]
            go_ret
            exact ⟨rfl, hBb⟩
end Go.Proofs.Ytbngcinhjoigaaa
