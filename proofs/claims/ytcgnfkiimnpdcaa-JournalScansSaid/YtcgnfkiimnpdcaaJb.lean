/-
  The contract of journal.sector.
-/
import Derived.Test.YtcgnfkiimnpdcaaJa
set_option linter.unusedVariables false
namespace Go.Proofs.Ytcgnfkiimnpdcaa
open Go.RowKit

set_option maxRecDepth 8000 in
set_option maxHeartbeats 2000000 in
theorem jsector_any (E : Int) (n r p : Nat) (A : Option Addr) (b : List Int) (c : Nat) (w : World) (h0 : 0 ≤ E) (h1 : E ≤ 18446744073709551615) (hn : n ≤ 4294967295) (hr : r ≤ 4294967295) (hp : 234 * p < b.length) (hbl : b.length ≤ 100000) (hbc : b.length ≤ c) (hcm : c ≤ 9223372036854775807) (hc : Cells w w.heap.size A (U8 b)) :
    Calls Try.prog 33 #[.int .u64 E, .int .i64 n, .int .i64 r, .int .i64 p, .slice A b.length c] w fun e w' => ∃ v, e = .returned v ∧ Own w' w.heap.size v (jsec E n r p b) ∧ Below w.heap.size w w' := by
  obtain ⟨bk, off, rfl, hlt, hfirst⟩ := hc.u8 (Nat.lt_of_le_of_lt (Nat.zero_le _) hp)
  have hmt : (min (b.length : Int) (((p : Int) + 1) * 234)).toNat - p * 234 = plen b p := by rw [plen_eq]; omega
  have hml := plen_le b p
  have hmz : plen b p ≤ b.length - 234 * p := by rw [plen_eq]; omega
  obtain ⟨m, hm⟩ : ∃ m : Nat, plen b p = m := ⟨_, rfl⟩
  rw [hm] at hmt hml hmz
  have hsub : Cells w w.heap.size (some ⟨bk, off + 234 * p, none⟩) (U8 (piece b p)) := (hc.subU _).takeU _
  have hpb : partsN b.length ≤ 65535 := by unfold partsN; omega
  obtain ⟨q, hq⟩ : ∃ q : Nat, partsN b.length = q := ⟨_, rfl⟩
  have HPA : Hid (∀ w : World, Calls Try.prog 22 #[.int .i64 b.length] w fun e w' => e = .returned (.int .i64 (partsN b.length)) ∧ w = w') := Lib.hid fun w => parts_any b.length w (by omega)
  rw [hq] at hpb HPA
  have HMT := Lib.hid hmt
  have HM := Lib.hid hm
  have HQ := Lib.hid hq
  clear hmt hm hq
  go_enter Try.func33, Try.ntmps33
  go_wp2_with fail
  rw [HMT.out, Nat.mul_comm p 234]
  refine (append64_any (.slice none 0 0) [] E w w.heap.size h0 h1 (by simp) (Own.nil _ _) (by simp)).mono ?_
  rintro e w1 ⟨v1, rfl, hown1, hg1⟩
  have hB1 := hg1.below (Own.nil w w.heap.size) (Nat.le_refl _)
  have hs1 := hB1.size
  go_wp2_with fail
  refine (append32_any v1 _ n w1 w.heap.size (by omega) (by omega) (by simp [be64_len]) hown1 hs1).mono ?_
  rintro e w2 ⟨v2, rfl, hown2, hg2⟩
  have hB2 := hB1.trans (hg2.below hown1 hs1)
  have hs2 := hB2.size
  go_wp2_with fail
  refine (append32_any v2 _ r w2 w.heap.size (by omega) (by omega) (by simp [be64_len, be32_len]) hown2 hs2).mono ?_
  rintro e w3 ⟨v3, rfl, hown3, hg3⟩
  have hB3 := hB2.trans (hg3.below hown2 hs2)
  have hs3 := hB3.size
  go_wp2_with fail
  refine (append16_any v3 _ p w3 w.heap.size (by omega) (by omega) (by simp [be64_len, be32_len]) hown3 hs3).mono ?_
  rintro e w4 ⟨v4, rfl, hown4, hg4⟩
  have hB4 := hB3.trans (hg4.below hown3 hs3)
  have hs4 := hB4.size
  go_wp2_with fail
  refine (HPA.out w4).mono ?_
  rintro e w4' ⟨rfl, rfl⟩
  go_wp2_with fail
  refine (append16_any v4 _ q w4 w.heap.size (by omega) (by omega) (by simp [be64_len, be32_len, be16_len]) hown4 hs4).mono ?_
  rintro e w5 ⟨v5, rfl, hown5, hg5⟩
  have hB5 := hB4.trans (hg5.below hown4 hs4)
  have hs5 := hB5.size
  go_wp2_with fail
  refine (append16_any v5 _ m w5 w.heap.size (by omega) (by omega) (by simp [be64_len, be32_len, be16_len]) hown5 hs5).mono ?_
  rintro e w6 ⟨v6, rfl, hown6, hg6⟩
  have hB6 := hB5.trans (hg6.below hown5 hs5)
  have hs6 := hB6.size
  have hown6' := own_as hown6 (show _ = jhead E n r p q m by unfold jhead; rw [List.nil_append])
  have hc6 := (hsub.below hB6).whole
  clear hown1 hown2 hown3 hown4 hown5 hown6 hg1 hg2 hg3 hg4 hg5 hg6
  have hhl := jhead_len E n r p q m
  have hpl : (piece b p).length = m := HM.out
  obtain ⟨z, hz⟩ : ∃ z : Nat, z = 234 - m := ⟨_, rfl⟩
  have HZ := Lib.hid hz
  have hz234 : z ≤ 234 := by omega
  clear hz
  go_wp2_with (first | (at_builtin; (refine app_any rfl (.tmp 49) (.tmp 50) rfl w.heap.size _ _ rfl hown6' w6.heap.size (some ⟨bk, off + 234 * p, none⟩) (c - 234 * p) (piece b p) (by rw [hpl]; rfl) hc6 (by rw [hhl, hpl]; omega) hs6 ?_; intro v7 w7 hown7 hg7; have hB7 := hB6.trans (hg7.below hown6' hs6); have hs7 := hB7.size; obtain ⟨L, hL, hLl⟩ : ∃ L, jhead E n r p q m ++ piece b p = L ∧ L.length = 22 + m := ⟨_, rfl, by rw [List.length_append, hhl, hpl]⟩; rw [hL] at hown7; have HL := Lib.hid hL; have hsb : (256 : Int) - (L.length : Int) = (z : Int) := (by have := HZ.out; omega); have hL9 : 22 ≤ L.length := (by omega); have hLu : L.length ≤ 256 := (by omega); clear hL hLl hhl hpl; obtain ⟨A7, c7, e7, _⟩ := hown7.shape; subst e7)) | (at_builtin; (refine app_zeros rfl (.tmp 52) (.tmp 55) rfl w.heap.size _ L rfl hown7 (by omega) z rfl (by omega) hs7 ?_; intro v8 w8 hown8 hg8)))
  go_ret
  refine ⟨v8, rfl, own_as hown8 ?_, hB7.trans (hg8.below hown7 hs7)⟩
  rw [← HL.out, HZ.out]
  unfold jsec
  rw [HM.out, HQ.out]
end Go.Proofs.Ytcgnfkiimnpdcaa
