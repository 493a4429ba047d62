/-
  The contracts of keys.turned, keys.Compound, bytes.Equal.
-/
import Derived.Test.YtpnbmgfnnmmokaaDoorQi
import Derived.Test.YtpnbmgfnnmmokaaDoorQg
import Derived.Test.YtpnbmgfnnmmokaaDoorOi
import Derived.Deep.OwnRows
import Derived.LoopTactic
set_option linter.unusedVariables false
namespace Go.Proofs.YtpnbmgfnnmmokaaDoor
open Go.RowKit

def zer (k : Nat) : List Int := List.replicate k 0
theorem zer_len (k : Nat) : (zer k).length = k := by unfold zer; simp
theorem make_zer (k : Nat) (hk : k ≤ 9000000000000) : ∃ l : List Int, l.length = k ∧ l = zer k ∧ ∀ w, (Instr.makeSlice 28 (.int .i64 k) (.int .i64 k)).run Tryd.prog w = .ok (.slice (some ⟨w.heap.size, 0, none⟩) k k) (w.alloc (.cells (U8 l).toArray 5)) := by
  refine ⟨zer k, zer_len k, rfl, fun w => ?_⟩
  have hmc : madeCells #[.int .u8 0] k = (U8 (zer k)).toArray := by
    apply Array.ext'
    simp [madeCells, U8, zer, List.map_replicate, List.eq_replicate_iff]
    intro a _
    rw [Nat.mod_one]
    rfl
  rw [← hmc]
  exact run_make_row' 28 5 (.int .u8 0) 1 Tryd.underlying28 info8 rfl .i64 .i64 k (by omega) (by omega) w
theorem str_inj (a b : List Int) (ha : Oct a) (hb : Oct b) (h : (strOfNums a).toList = (strOfNums b).toList) : a = b := by
  have h' : (a.map fun n => UInt8.ofNat n.toNat) = b.map fun n => UInt8.ofNat n.toNat := by
    have e : ∀ l : List Int, (strOfNums l).toList = l.map fun n => UInt8.ofNat n.toNat := fun l => by
      rw [show (strOfNums l).toList = (strOfNums l).data.toList from by simp [ByteArray.toList_eq], strOfNums_data]
    rwa [e, e] at h
  clear h
  induction a generalizing b with
  | nil => cases b <;> simp_all
  | cons x r ih =>
    rcases b with _ | ⟨y, s⟩
    · simp at h'
    · simp only [List.map_cons, List.cons.injEq] at h'
      have hx := ha x (by simp)
      have hy := hb y (by simp)
      have e := congrArg UInt8.toNat h'.1
      simp at e
      rw [ih s (fun z hz => ha z (by simp [hz])) (fun z hz => hb z (by simp [hz])) h'.2, show x = y from by omega]

set_option maxHeartbeats 1000000 in
theorem bytes_equal (A B : Option Addr) (a b : List Int) (c d : Nat) (w : World) (ha : Cells w w.heap.size A (U8 a)) (hb : Cells w w.heap.size B (U8 b)) (hoa : Oct a) (hob : Oct b) :
    Calls Tryd.prog 32 #[.slice A a.length c, .slice B b.length d] w fun e w' => e = .returned (.bool (sameB a b)) ∧ w = w' := by
  have k1 := conv_str A a c w ha
  have k2 := conv_str B b d w hb
  go_enter Tryd.func32, Tryd.ntmps32
  go_wp2
  go_ret
  refine ⟨ret_bool ?_, rfl⟩
  by_cases h : a = b
  · subst h; simp [sameB]
  · rw [sameB, decide_eq_false h, beq_eq_false_iff_ne]
    exact fun e => h (str_inj a b hoa hob e)

theorem not_u8 (x : Int) (h0 : 0 ≤ x) (h1 : x ≤ 255) : bits .xor .u8 IntKind.u8.max x = 255 - x := by
  obtain ⟨n, rfl⟩ : ∃ n : Nat, x = (n : Int) := ⟨x.toNat, by omega⟩
  have hn : n < 256 := by omega
  have h : ∀ m : Fin 256, bits .xor .u8 IntKind.u8.max ((m.val : Nat) : Int) = 255 - ((m.val : Nat) : Int) := by decide +kernel
  exact h ⟨n, hn⟩
theorem turnB_at {b : List Int} {q : Nat} (h : q < b.length) : (turnB b)[q]'(by rw [turnB_len]; exact h) = 255 - b[q] := by unfold turnB; simp
set_option maxHeartbeats 4000000 in
theorem turned_any (A : Option Addr) (c : Nat) (b : List Int) (w : World) (hB : BRow w A c b) (hl : b.length ≤ 9000000000000) :
    Calls Tryd.prog 31 #[.slice A b.length c] w fun e w' => ∃ v, e = .returned v ∧ Own w' w.heap.size v (turnB b) ∧ Below w.heap.size w w' := by
  obtain ⟨N, hN⟩ : ∃ N, b.length = N := ⟨_, rfl⟩
  rw [hN] at hl ⊢
  obtain ⟨l0, hl0, hzz, hmk⟩ := make_zer N hl
  clear hzz
  have HN := Lib.hid hN
  have HL0 := Lib.hid hl0
  have hlT : (turnB b).length = N := by rw [turnB_len]; exact hN
  have HLT := Lib.hid hlT
  have HB := Lib.hid hB
  have HO : Hid (∀ q (h : q < b.length), 0 ≤ b[q] ∧ b[q] ≤ 255) := Lib.hid fun q h => hB.oct.at_ (List.getElem?_eq_getElem h)
  have HT : Hid (∀ q (h : q < b.length), (turnB b)[q]? = some (255 - b[q])) := Lib.hid fun q h => by rw [List.getElem?_eq_getElem (by rw [turnB_len]; exact h), turnB_at h]
  obtain ⟨T, hT⟩ : ∃ T, turnB b = T := ⟨_, rfl⟩
  rw [hT] at HLT HT ⊢
  clear hN hl0 hlT hB hT
  obtain ⟨g, hg⟩ : ∃ g, w.heap.size = g := ⟨_, rfl⟩
  have HG := Lib.hid hg
  go_enter Tryd.func31, Tryd.ntmps31
  go_wp2
  have hO0 : Blk (w.alloc (.cells (U8 l0).toArray 5)) g 5 (U8 l0).toArray := by rw [← hg]; exact Blk.new w _ _
  have hBw : Below w.heap.size w (w.alloc (.cells (U8 l0).toArray 5)) := (Below.refl _ _).alloc (Nat.le_refl _) _
  rw [hg] at hBw
  clear hg
  go_loopw [11] (fun i wr => ∃ (q : Nat) (l : List Int), i = .int .i64 q ∧ q ≤ N ∧ Hid (l.length = N ∧ ∀ j, j < q → l[j]? = T[j]?) ∧ Blk wr g 5 (U8 l).toArray ∧ Below g w wr)
    (fun i _ => N - (RowKit.intOf i).toNat)
  case atStart => exact ⟨0, l0, rfl, Nat.zero_le _, Lib.hid ⟨HL0.out, fun j hj => by omega⟩, hO0, hBw⟩
  case round =>
    obtain ⟨q, l, rfl, hq, HQ, hO, hBr⟩ := hrel
    clear hO0 hBw
    have hBW : Below w.heap.size w wr := by rw [HG.out]; exact hBr
    by_cases hlt : q < N
    · have hqI : (q : Int) < (N : Int) := by omega
      have hq0 : (0 : Int) ≤ (q : Int) := by omega
      have hqb : q < b.length := by rw [HN.out]; exact hlt
      have hql : q < l.length := by rw [HQ.out.1]; exact hlt
      obtain ⟨bb, off, rfl, hbb, hcell⟩ := ((HB.out.below hBW).cells).u8 hqb
      have hob := HO.out q hqb
      have HTQ := Lib.hid (HT.out q hqb)
      have u5 : wr.cell? ⟨g, q, none⟩ = some (.int .u8 l[q]) := by rw [hO.cell q]; simp [List.getElem?_eq_getElem hql]
      have u5' := hO.free q
      generalize b[q] = x at *
      generalize l[q] = old at *
      have hnx : bits .xor .u8 (if IntKind.u8.signed = true then -1 else IntKind.u8.max) x = 255 - x := by rw [if_neg (by decide)]; exact not_u8 x hob.1 hob.2
      have hN6 : Blk (wr.setCell ⟨g, q, none⟩ (.int .u8 (255 - x))) g 5 (U8 (l.set q (255 - x))).toArray := by have := hO.set_ q (.int .u8 (255 - x)); simpa [List.map_set] using this
      have hB6 : Below g w (wr.setCell ⟨g, q, none⟩ (.int .u8 (255 - x))) := hBr.setCell (p := ⟨g, q, none⟩) (Nat.le_refl _) _
      go_wp2
      go_roundw
      case rel =>
        refine ⟨q + 1, l.set q (255 - x), by go_num, by omega, Lib.hid ⟨by rw [List.length_set]; exact HQ.out.1, fun j hj => ?_⟩, hN6, hB6⟩
        by_cases hjq : j = q
        · subst hjq
          rw [List.getElem?_set_self hql, HTQ.out]
        · rw [List.getElem?_set_ne (by omega)]; exact HQ.out.2 j (by omega)
      case measure => simp [RowKit.intOf]; omega
    · have hqe : q = N := by omega
      have HE : Hid (l = T) := Lib.hid (by
        apply List.ext_getElem?
        intro j
        by_cases hj : j < q
        · exact HQ.out.2 j hj
        · rw [List.getElem?_eq_none (by rw [HQ.out.1]; omega), List.getElem?_eq_none (by rw [HLT.out]; omega)])
      have hqI : ¬ (q : Int) < (N : Int) := by omega
      clear hqe
      go_wp2
      go_ret
      refine ⟨_, rfl, ?_, hBW⟩
      have hE := HE.out
      subst hE
      unfold Own
      rw [HLT.out]
      refine ⟨by simp [HLT.out], .inr ⟨g, N, (U8 l).toArray, rfl, ?_, hO, Nat.le_refl _, ?_, ?_, ?_⟩⟩
      · first | exact Nat.le_of_eq HG.out | omega | exact Nat.le_refl _
      · unfold maxLen; omega
      · simp [HLT.out]
      · show List.take _ (U8 l) = U8 l
        exact List.take_of_length_le (by simp [HLT.out])
/-- The bytes of a list's key grow by so much a value at most. -/
theorem part_len {x : JV} (h : FormedP x 6) (dn : Bool) : (partK dn x).length ≤ 732421875000 ∧ (partK dn x).length = (keyJ x).length := by
  have h1 : (keyJ x).length ≤ 732421875000 := Nat.le_trans (keyJ_len x 6 h) (by decide)
  unfold partK
  split
  · rw [turnB_len]; exact ⟨h1, rfl⟩
  · exact ⟨h1, rfl⟩
set_option maxRecDepth 8000 in
set_option maxHeartbeats 8000000 in
theorem compound_any (A : Option Addr) (is : List LV) (c : Nat) (D : Option Addr) (ds : List Bool) (cd : Nat) (w : World) (hT : Tabs w) (hR : RowAt w A is c) (hD : Cells w w.heap.size D (ds.map Value.bool)) (hn : is.length ≤ 100) :
    Calls Tryd.prog 20 #[.slice A is.length c, .slice D ds.length cd] w fun e w' => KeyRes (compX ds (LV.js is)).1 (compX ds (LV.js is)).2 w.heap.size e w' ∧ Below w.heap.size w w' := by
  obtain ⟨X, hX⟩ : ∃ X, compX ds (LV.js is) = X := ⟨_, rfl⟩
  rw [hX]
  have hcap := hR.cap
  have HX := Lib.hid hX
  have HT := Lib.hid hT
  have HR := Lib.hid hR
  have HD := Lib.hid hD
  obtain ⟨K, hK⟩ : ∃ K, compR ds 0 (LV.js is) = K := ⟨_, rfl⟩
  have HK : Hid (([] : List Int) ++ compR ds 0 ((LV.js is).drop 0) = K) := Lib.hid (by rw [List.drop_zero]; exact hK)
  have HKX := Lib.hid hK
  obtain ⟨N, hN⟩ : ∃ N, is.length = N := ⟨_, rfl⟩
  have HN := Lib.hid hN
  rw [hN] at hcap hn ⊢
  obtain ⟨M, hM⟩ : ∃ M, ds.length = M := ⟨_, rfl⟩
  have HM := Lib.hid hM
  rw [hM]
  clear hX hT hR hD hK hN hM
  go_enter Tryd.func20, Tryd.ntmps20
  go_wp2
  go_loopw [6, 9, 10, 13] (fun o s9 s10 i wr => ∃ (q : Nat) (cur : List Int) (u : Value), u = o ∧ i = .int .i64 q ∧ q ≤ N ∧ Hid (cur ++ compR ds q ((LV.js is).drop q) = K) ∧ cur.length ≤ q * 732421875000 ∧ Own wr w.heap.size u cur ∧ Below w.heap.size w wr ∧ Hid (∀ j (h : j < is.length), j < q → FormedP is[j].j 6))
    (fun _ _ _ i _ => N - (RowKit.intOf i).toNat)
  case atStart => exact ⟨0, [], _, rfl, rfl, Nat.zero_le _, HK, by simp, Own.nil _ _, Below.refl _ _, Lib.hid fun j h hj => by omega⟩
  case round =>
    obtain ⟨q, cur, u, rfl, rfl, hq, HQ, hlen, hown, hB, HFQ⟩ := hrel
    clear HK
    have hsz := hB.size
    by_cases hlt : q < N
    · have hqI : (q : Int) < (N : Int) := by omega
      have hq0 : (0 : Int) ≤ (q : Int) := by omega
      have hqi : q < is.length := by rw [HN.out]; exact hlt
      obtain ⟨b, off, rfl, hb, hit, hcell⟩ := (HR.out.below hB).item hqi
      have HQ2 : Hid (cur ++ (partK (ds.getD q false) is[q].j ++ compR ds (q + 1) ((LV.js is).drop (q + 1))) = K) := Lib.hid (by rw [← HQ.out, compR_drop ds (LV.js is) q (by rw [js_len]; exact hqi), js_at hqi])
      have HNF : Hid (¬ FormedP is[q].j 6 → X = ([], 2)) := Lib.hid fun h => by
        rw [← HX.out, compX, if_neg]
        intro hall
        exact h (hall _ (by rw [LV.js_map]; exact List.mem_map.2 ⟨_, List.getElem_mem hqi, rfl⟩))
      have HKC : Hid (∀ w', Below wr.heap.size wr w' → Calls Tryd.prog 11 #[(is[q]).val] w' fun e w'' => KeyRes (keyX is[q].j) (keyE is[q].j) w'.heap.size e w'' ∧ Below w'.heap.size w' w'') := Lib.hid fun w' hb' => key_any is[q] w' (HT.out.below (hB.trans (hb'.mono hB.size))) (LV.At.below hb' _ hit)
      have HXP : Hid (FormedP is[q].j 6 → keyX is[q].j = keyJ is[q].j ∧ keyE is[q].j = 0 ∧ (partK (ds.getD q false) is[q].j).length ≤ 732421875000 ∧ (partK (ds.getD q false) is[q].j).length = (keyJ is[q].j).length ∧ Oct (keyJ is[q].j) ∧ Hid (∀ j (h : j < is.length), j < q + 1 → FormedP is[j].j 6)) := Lib.hid fun h => ⟨(keyX_pos h).1, (keyX_pos h).2, (part_len h _).1, (part_len h _).2, keyJ_oct _ _ h, Lib.hid fun j hj hjq => by
        by_cases e : j = q
        · subst e; exact h
        · exact HFQ.out j hj (by omega)⟩
      have HXN : Hid (¬ FormedP is[q].j 6 → keyX is[q].j = [] ∧ keyE is[q].j = 2) := Lib.hid keyX_neg
      have HPK : Hid (partK (ds.getD q false) is[q].j = if ds.getD q false = true then turnB (keyJ is[q].j) else keyJ is[q].j) := Lib.hid rfl
      generalize keyX is[q].j = KX at *
      generalize keyE is[q].j = KE at *
      generalize keyJ is[q].j = KJ at *
      generalize partK (ds.getD q false) is[q].j = PK at *
      generalize FormedP is[q].j 6 = FP at *
      obtain ⟨x, hx⟩ : ∃ x, is[q] = x := ⟨_, rfl⟩
      rw [hx] at HKC hcell
      clear hit hx
      obtain ⟨k', n', s', An', ns', cn', Ai', is', ci'⟩ := x
      change Hid (∀ w', _ → Calls Tryd.prog 11 #[.agg #[.int .i64 k', .int .i64 n', .string s', .slice An' ns'.length cn', .slice Ai' is'.length ci']] w' _) at HKC
      have e0 : wr.cell? ⟨b, off + q * 5, none⟩ = some (.int .i64 k') := hcell 0 _ rfl
      have e1 : wr.cell? ⟨b, off + q * 5 + 1, none⟩ = some (.int .i64 n') := hcell 1 _ rfl
      have e2 : wr.cell? ⟨b, off + q * 5 + 2, none⟩ = some (.string s') := hcell 2 _ rfl
      have e3 : wr.cell? ⟨b, off + q * 5 + 3, none⟩ = some (.slice An' ns'.length cn') := hcell 3 _ rfl
      have e4 : wr.cell? ⟨b, off + q * 5 + 4, none⟩ = some (.slice Ai' is'.length ci') := hcell 4 _ rfl
      clear hcell
      obtain ⟨w1, hw1⟩ : ∃ w1, w1 = wr.alloc (.cells #[.int .i64 k', .int .i64 n', .string s', .slice An' ns'.length cn', .slice Ai' is'.length ci'] 25) := ⟨_, rfl⟩
      have hI1 : Blk w1 wr.heap.size 25 #[.int .i64 k', .int .i64 n', .string s', .slice An' ns'.length cn', .slice Ai' is'.length ci'] := by rw [hw1]; exact Blk.new wr _ _
      have hb1 : Below wr.heap.size wr w1 := by rw [hw1]; exact (Below.refl _ _).alloc (Nat.le_refl _) _
      have HKC1 := Lib.hid (HKC.out w1 hb1)
      obtain ⟨gz, hgz⟩ : ∃ g, wr.heap.size = g := ⟨_, rfl⟩
      rw [hgz] at hI1
      have HW1 := Lib.hid hw1
      clear hw1
      go_upto_region 5 with fail
      first | rw [← HW1.out, hgz] | rw [← HW1.out]
      clear hgz
      obtain ⟨f0, f1, f2, f3, f4⟩ : w1.cell? ⟨gz, 0, none⟩ = some (.int .i64 k') ∧ w1.cell? ⟨gz, 1, none⟩ = some (.int .i64 n') ∧ w1.cell? ⟨gz, 2, none⟩ = some (.string s') ∧ w1.cell? ⟨gz, 3, none⟩ = some (.slice An' ns'.length cn') ∧ w1.cell? ⟨gz, 4, none⟩ = some (.slice Ai' is'.length ci') := ⟨hI1.cell 0, hI1.cell 1, hI1.cell 2, hI1.cell 3, hI1.cell 4⟩
      go_wp2_with fail
      (with_reducible refine HKC1.out.mono ?_)
      rintro e w2 ⟨⟨v2, A2, c2, rfl, hv2, hq2, hm2, hown2, hc2⟩, hb2⟩
      clear f0 f1 f2 f3 f4 e0 e1 e2 e3 e4
      have hB2 : Below w.heap.size w w2 := hB.trans ((hb1.trans (hb2.mono hb1.size)).mono hB.size)
      have hcur2 : Own w2 w.heap.size u cur := (hown.below hb1).below hb2
      by_cases hfp : FP
      rotate_left
      · obtain ⟨e1, e2⟩ := HXN.out hfp
        have HE := Lib.hid (HNF.out hfp)
        subst e1 e2
        clear hfp
        go_wp2
        go_ret2
        exact ⟨by rw [HE.out]; exact KeyRes.of (Own.nil _ _), hB2⟩
      obtain ⟨e1, e2, hp1, hp2, hoJ, HF2⟩ := HXP.out hfp
      subst e1 e2
      have HOJ := Lib.hid hoJ
      have HP2 := Lib.hid hp2
      clear hfp hoJ hp2
      have hs2 := hB2.size
      subst hv2
      by_cases hdn : ds.getD q false = true
      · have hqM : q < ds.length := by
          rcases Nat.lt_or_ge q ds.length with h | h
          · exact h
          · rw [List.getD_eq_getElem?_getD, List.getElem?_eq_none h] at hdn; cases hdn
        have hqMI : (q : Int) < (M : Int) := by rw [HM.out] at hqM; omega
        have hdq : ds[q] = true := by rw [List.getD_eq_getElem?_getD, List.getElem?_eq_getElem hqM] at hdn; exact hdn
        obtain ⟨bd, od, rfl, hbd, hcd⟩ := (HD.out.below hB2) q (.bool true) (by rw [List.getElem?_map, List.getElem?_eq_getElem hqM, hdq]; rfl)
        have HPE : Hid (PK = turnB KX) := Lib.hid (by rw [HPK.out, if_pos hdn])
        have HTC := Lib.hid (turned_any A2 c2 KX w2 ⟨hc2, hq2, hm2, HOJ.out⟩ (by have := HP2.out; omega))
        clear hdn hdq hqM
        go_wp2_with fail
        refine HTC.out.mono ?_
        rintro e w3 ⟨v3, rfl, hown3, hb3⟩
        have hcur3 := hcur2.below hb3
        obtain ⟨A3, c3, rfl, _, _, hc3⟩ := hown3.shape
        have hl3 : (turnB KX).length = PK.length := by rw [HPE.out]
        have HL3 := Lib.hid hl3
        have hB3 := hB2.trans (hb3.mono hB2.size)
        have hs3 := hB3.size
        clear hcd hl3
        go_wp2_with (first | (at_builtin; refine app_any rfl (.tmp 38) (.tmp 39) rfl w.heap.size u cur rfl hcur3 _ A3 c3 (turnB KX) rfl hc3 (by rw [HL3.out]; omega) hs3 ?_; intro v4 w4 hown4 hg4))
        have hB4 := hB3.trans (hg4.below hcur3 hs3)
        go_roundw
        case rel => exact ⟨q + 1, _, _, rfl, by go_num, by omega, Lib.hid (by rw [← HQ2.out, HPE.out, List.append_assoc]), by rw [List.length_append, HL3.out]; omega, hown4, hB4, HF2⟩
        case measure => simp [RowKit.intOf]; omega
      · have HPE : Hid (PK = KX) := Lib.hid (by rw [HPK.out, if_neg hdn])
        have hlK : KX.length ≤ 732421875000 := by rw [← HPE.out]; exact hp1
        by_cases hqM : q < ds.length
        · have hqMI : (q : Int) < (M : Int) := by rw [HM.out] at hqM; omega
          have hdq : ds[q] = false := by
            rw [List.getD_eq_getElem?_getD, List.getElem?_eq_getElem hqM] at hdn
            simpa using hdn
          obtain ⟨bd, od, rfl, hbd, hcd⟩ := (HD.out.below hB2) q (.bool false) (by rw [List.getElem?_map, List.getElem?_eq_getElem hqM, hdq]; rfl)
          clear hdn hdq hqM
          go_wp2_with (first | (at_builtin; refine app_any rfl (.tmp 38) (.tmp 39) rfl w.heap.size u cur rfl hcur2 _ A2 c2 KX rfl hc2 (by omega) hs2 ?_; intro v4 w4 hown4 hg4))
          have hB4 := hB2.trans (hg4.below hcur2 hs2)
          go_roundw
          case rel => exact ⟨q + 1, _, _, rfl, by go_num, by omega, Lib.hid (by rw [← HQ2.out, HPE.out, List.append_assoc]), by rw [List.length_append]; omega, hown4, hB4, HF2⟩
          case measure => simp [RowKit.intOf]; omega
        · have hqMI : ¬ (q : Int) < (M : Int) := by rw [HM.out] at hqM; omega
          clear hdn hqM
          go_wp2_with (first | (at_builtin; refine app_any rfl (.tmp 38) (.tmp 39) rfl w.heap.size u cur rfl hcur2 _ A2 c2 KX rfl hc2 (by omega) hs2 ?_; intro v4 w4 hown4 hg4))
          have hB4 := hB2.trans (hg4.below hcur2 hs2)
          go_roundw
          case rel => exact ⟨q + 1, _, _, rfl, by go_num, by omega, Lib.hid (by rw [← HQ2.out, HPE.out, List.append_assoc]), by rw [List.length_append]; omega, hown4, hB4, HF2⟩
          case measure => simp [RowKit.intOf]; omega
    · have hqI : ¬ (q : Int) < (N : Int) := by omega
      have HE : Hid (cur = K) := Lib.hid (by rw [← HQ.out, List.drop_of_length_le (by rw [js_len, HN.out]; omega), compR, List.append_nil])
      have HALL : Hid (∀ x ∈ LV.js is, FormedP x 6) := Lib.hid fun x hx => by
        rw [LV.js_map] at hx
        obtain ⟨y, hy, rfl⟩ := List.mem_map.1 hx
        obtain ⟨j, hj, rfl⟩ := List.mem_iff_getElem.1 hy
        exact HFQ.out j hj (by rw [HN.out] at hj; omega)
      obtain ⟨A2, c2, hu, hl2, hm2, _⟩ := hown.shape
      subst hu
      unfold maxLen at hm2
      by_cases h2 : 200 < cur.length
      · have h2I : (200 : Int) < (cur.length : Int) := by omega
        have HEX : Hid (X = ([], 3)) := Lib.hid (by rw [← HX.out, compX, if_pos HALL.out, HKX.out, ← HE.out, if_pos h2])
        clear h2
        go_wp2
        go_ret2
        exact ⟨by rw [HEX.out]; exact KeyRes.of (Own.nil _ _), hB⟩
      · have h2I : ¬ (200 : Int) < (cur.length : Int) := by omega
        have HEX : Hid (X = (cur, 0)) := Lib.hid (by rw [← HX.out, compX, if_pos HALL.out, HKX.out, ← HE.out, if_neg h2])
        clear h2
        go_wp2
        go_ret2
        exact ⟨by rw [HEX.out]; exact KeyRes.of hown, hB⟩
end Go.Proofs.YtpnbmgfnnmmokaaDoor
