/-
  The contract of munimentref05.Read.
-/
import Derived.Test.YtamfhjjepeggcaaSe
set_option linter.unusedVariables false
namespace Go.Proofs.Ytamfhjjepeggcaa
open Go.RowKit

/-- What the reference's Read answers. -/
def RReadPost (l : List Int) (w : World) (e : Ending) (w' : World) : Prop :=
  match rkey l with
  | some (sp, nm, t) => ∃ A c, e = .returned (.tuple #[.agg #[.int .i64 sp, .slice A nm.length c, .int .u64 t], .int .i64 0]) ∧ Cells w' w'.heap.size A (U8 nm) ∧ Below w.heap.size w w'
  | none => e = .returned (.tuple #[zeroKey, .int .i64 11]) ∧ Below w.heap.size w w'

set_option maxHeartbeats 1000000 in
theorem rread_none (A : Option Addr) (c : Nat) (w : World) :
    Calls Try.prog 18 #[.slice A 0 c] w (RReadPost [] w) := by
  go_enter Try.func18, Try.ntmps18
  go_wp2
  exact bodyPost_ret (v := .tuple #[zeroKey, .int .i64 11]) (by simp [results, Try.results18, go_sem]) rfl ⟨rfl, ((Below.refl _ _).alloc (Nat.le_refl _) _).alloc (by simp) _⟩

theorem rkey_of {sp : Int} {r : List Int} {nm T : List Int} (h : scan r [] = some (nm, 0 :: 0 :: T)) (hT : T.length = 8) (hn : nm.length ≤ 200) : rkey (sp :: r) = some (sp, nm, 18446744073709551615 - num T 0) := by
  rw [rkey, h]
  simp only
  rw [if_pos ⟨by simp [hT], hn⟩]
  rfl
theorem rkey_not {sp : Int} {r : List Int} {nm rest : List Int} (h : scan r [] = some (nm, rest)) (hc : ¬ (rest.length = 10 ∧ nm.length ≤ 200)) : rkey (sp :: r) = none := by
  rw [rkey, h]
  simp only
  rw [if_neg hc]
theorem rkey_no {sp : Int} {r : List Int} (h : scan r [] = none) : rkey (sp :: r) = none := by rw [rkey, h]
theorem rpost_none {l : List Int} {w w' : World} {e : Ending} (h : rkey l = none) (he : e = .returned (.tuple #[zeroKey, .int .i64 11])) (hb : Below w.heap.size w w') : RReadPost l w e w' := by
  unfold RReadPost; rw [h]; exact ⟨he, hb⟩

theorem push_key2 {w wr w2 : World} {a z : Value} {zs : Array Value} {nm : List Int} {x : Int} {v v2 : Value} {t : TypeId} (ht : 5 ≠ t) (hown : Own wr (w.heap.size + 2) v nm) (hK : Blk wr (w.heap.size + 1) t #[a, v, z])
    (hR : Blk wr w.heap.size t zs) (hB : Below w.heap.size w wr) (hown2 : Own w2 (w.heap.size + 2) v2 (nm ++ [x])) (hg2 : Grew wr v w2 v2) :
    Own (w2.setCell ⟨w.heap.size + 1, 1, none⟩ v2) (w.heap.size + 2) v2 (nm ++ [x]) ∧ Blk (w2.setCell ⟨w.heap.size + 1, 1, none⟩ v2) (w.heap.size + 1) t #[a, v2, z] ∧
      Blk (w2.setCell ⟨w.heap.size + 1, 1, none⟩ v2) w.heap.size t zs ∧ Below w.heap.size w (w2.setCell ⟨w.heap.size + 1, 1, none⟩ v2) := by
  have hK2 := hK.grown hg2.by_ (hown.other hK ht)
  have hR2 := hR.grown hg2.by_ (hown.other hR ht)
  have h1 := hK.lt
  refine ⟨hown2.store hK2 ht 1 _, hK2.set_ 1 v2, hR2.far (p := ⟨w.heap.size + 1, 1, none⟩) (by show w.heap.size ≠ w.heap.size + 1; omega) _, ?_⟩
  refine Below.setCell ?_ (by show w.heap.size ≤ w.heap.size + 1; omega) _
  refine hB.trans ((Below.refl _ _).grown hg2.by_ hB.size fun g hg => ?_)
  have := (hown.lt g hg).1
  omega
theorem app_oneS {ops : Array Oper} {rest : List Oper} {o : Oper} {a : Act} {Q : Exit → Act → World → Prop} {w : World} (hgd : o.guard = none) (s x : Operand)
    (ho : o.op = .call { callee := .builtin .append, args := #[s, x], argTypes := #[22, 22] })
    (base : Nat) (v : Value) (l : List Int) (y : Int) (hs : a.eval s = v) (hown : Own w base v l) (hx : a.eval x = .slice (some ⟨w.heap.size, 0, none⟩) 1 1)
    (hlen : l.length + 1 ≤ 140737488355328) (hbase : base ≤ w.heap.size)
    (h : ∀ A' c' w', Own w' base (.slice A' (l.length + 1) c') (l ++ [y]) → Grew w v w' (.slice A' (l.length + 1) c') → wpList Try.prog ops Q rest (a.put o.dst (.slice A' (l.length + 1) c')) w') : wpList Try.prog ops Q (o :: rest) a (w.alloc (.cells #[.int .u8 y] 5)) :=
  app_one hgd s x ho base v l y hs hown hx hlen hbase fun v' w' h1 h2 => by
    obtain ⟨A', c', e, _⟩ := h1.shape
    rw [List.length_append] at e
    subst e
    exact h A' c' w' h1 h2

theorem scan_short (l nm : List Int) (h : l.length ≤ 1) : scan l nm = none := by
  match l, h with
  | [], _ => rfl
  | [c], _ => rfl
theorem num_at (l : List Int) (k q : Nat) (hk : k ≤ q) (hq : q < l.length) : num ((l.drop k).take (q + 1 - k)) 0 = num ((l.drop k).take (q - k)) 0 * 256 + l[q] := by
  have hlt : q - k < (l.drop k).length := by simp; omega
  have e : q + 1 - k = q - k + 1 := by omega
  rw [e, take_snoc _ (q - k) hlt, num_snoc, List.getElem_drop]
  have e2 : k + (q - k) = q := by omega
  simp only [e2]

/-- What is left behind k bytes. -/
theorem drop_two (l : List Int) (k : Nat) (h : k + 1 < l.length) : l.drop k = l[k] :: l[k + 1] :: l.drop (k + 2) := by
  rw [List.drop_eq_getElem_cons (by omega), List.drop_eq_getElem_cons h]

set_option maxHeartbeats 8000000 in
theorem rread_some (b0 off m : Nat) (l : List Int) (c : Nat) (w : World) (hl : l.length = m + 1) (hm : m ≤ 100000000) (hcap : m + 1 ≤ c) (hcm : c ≤ 9223372036854775807) (hc : Cells w w.heap.size (some ⟨b0, off, none⟩) (U8 l)) (ho : Oct l) :
    Calls Try.prog 18 #[.slice (some ⟨b0, off, none⟩) (m + 1) c] w (RReadPost l w) := by
  obtain ⟨sp, r, hlr⟩ : ∃ sp r, l = sp :: r := by
    rcases l with _ | ⟨x, r⟩
    · simp at hl
    · exact ⟨x, r, rfl⟩
  have HLR := Lib.hid hlr; clear hlr
  have HL := Lib.hid hl; clear hl
  have hcell0 : w.cell? ⟨b0, off, none⟩ = some (.int .u8 sp) := hc.known (k := 0) (by rw [HLR.out]; rfl)
  have hbb : b0 < w.heap.size := World.block_lt_of_cell? w _ hcell0
  have hs0 : 0 ≤ sp ∧ sp ≤ 255 := ho sp (by rw [HLR.out]; simp)
  have f1 : (0 : Int) < (m : Int) + 1 := by omega
  have f0 : (((m : Int) + 1) == 0) = false := by simp; omega
  have hd1 : l.drop 1 = r := by rw [HLR.out]; rfl
  have HD1 := Lib.hid hd1; clear hd1
  go_enter Try.func18, Try.ntmps18
  go_wp2
  go_loopw [5] (fun a wr => ∃ (k : Nat) (nm : List Int) (v : Value), a = .int .i64 k ∧ 1 ≤ k ∧ k ≤ m + 2 ∧ nm.length ≤ k ∧ Own wr (w.heap.size + 2) v nm ∧ scan r [] = scan (l.drop k) nm ∧
      Blk wr (w.heap.size + 1) 31 #[.int .i64 sp, v, .int .u64 0] ∧ Blk wr w.heap.size 31 #[.int .i64 0, .slice none 0 0, .int .u64 0] ∧ Below w.heap.size w wr)
    (fun a _ => m + 2 - (intOf a).toNat)
  case atStart => exact ⟨1, [], .slice none 0 0, rfl, by omega, by omega, by simp, Own.nil _ _, by rw [HD1.out], (Blk.second w _ _ _), ((Blk.new w _ _).alloc _), (((Below.refl _ _).alloc (Nat.le_refl _) _).alloc (by simp) _)⟩
  case round =>
    obtain ⟨k, nm, v, rfl, hk1, hk2, hnl, hown, hscan, hK, hR, hB⟩ := hrel
    have HS := Lib.hid hscan; clear hscan
    have hsz : w.heap.size + 2 ≤ wr.heap.size := by have := hK.lt; omega
    obtain ⟨A1, c1, e1, _, _, hcn⟩ := hown.shape
    subst e1
    have q0 := hK.cell 0
    have q1 := hK.cell 1
    have q2 := hK.cell 2
    have z1 := hK.free 1
    have z2 := hK.free 2
    have r0 := hR.cell 0
    have r1 := hR.cell 1
    have r2 := hR.cell 2
    have zr0 := hR.free 0
    have zr1 := hR.free 1
    have zr2 := hR.free 2
    have hnl2 : nm.length ≤ 100000002 := by omega
    have hW := hR.three (.int .i64 0) (.slice none 0 0) (.int .u64 0)
    have hWB := below_three hB (Nat.le_refl w.heap.size) (.int .i64 0) (.slice none 0 0) (.int .u64 0)
    have hW0 := Lib.hid hW
    clear hW
    by_cases hend : m ≤ k
    · have hsn : rkey l = none := by rw [HLR.out]; exact rkey_no (by rw [HS.out, scan_short _ _ (by have := HL.out; simp; omega)])
      have HSN := Lib.hid hsn; clear hsn
      go_wp2
      exact bodyPost_ret (v := .tuple #[zeroKey, .int .i64 11]) (by simp [results, Try.results18, go_sem, hW0.out.cell]) rfl (rpost_none HSN.out rfl hWB)
    have hlt : k < l.length := by have := HL.out; omega
    have hlt1 : k + 1 < l.length := by have := HL.out; omega
    have hd2 := drop_two l k hlt1
    have HD2 := Lib.hid hd2; clear hd2
    by_cases hbig : 200 < nm.length
    · have hsn : rkey l = none := by rw [HLR.out]; exact rkey_no (by rw [HS.out, HD2.out, scan, if_pos hbig])
      have HSN := Lib.hid hsn; clear hsn
      go_wp2
      exact bodyPost_ret (v := .tuple #[zeroKey, .int .i64 11]) (by simp [results, Try.results18, go_sem, hW0.out.cell]) rfl (rpost_none HSN.out rfl hWB)
    have hx := (hc.below hB).knownU hlt
    have hx1 := (hc.below hB).knownU hlt1
    have hoct := ho.at_ (List.getElem?_eq_getElem hlt)
    have hoct1 := ho.at_ (List.getElem?_eq_getElem hlt1)
    obtain ⟨x, hxx⟩ : ∃ x, l[k]'hlt = x := ⟨_, rfl⟩
    obtain ⟨y, hyy⟩ : ∃ y, l[k + 1]'hlt1 = y := ⟨_, rfl⟩
    rw [hxx] at hx hoct
    rw [hyy] at hx1 hoct1
    have HX := Lib.hid hxx
    have HY := Lib.hid hyy
    clear hxx hyy
    by_cases hx0 : x = 0
    · subst hx0
      by_cases hy0 : y = 0
      · subst hy0
        have hsc : scan r [] = some (nm, 0 :: 0 :: l.drop (k + 2)) := by rw [HS.out, HD2.out, HX.out, HY.out, scan, if_neg hbig, if_neg (by simp), if_pos rfl]
        by_cases hten : m + 1 = k + 10
        · have ht8 : (l.drop (k + 2)).length = 8 := by have := HL.out; simp; omega
          have hkey := rkey_of (sp := sp) hsc ht8 (by omega)
          have HKEY := Lib.hid hkey
          have HT8 := Lib.hid ht8
          clear hkey ht8 hsc
          have hb1 : ((m : Int) + 1 != (k : Int) + 10) = false := by simp; omega
          have hm1 : m + 1 ≤ k + 10 := by omega
          have hm2 : k + 10 ≤ m + 1 := by omega
          clear hten
          go_wp2
          go_loop [6, 7] (fun n i => ∃ q : Nat, k + 2 ≤ q ∧ q ≤ m + 1 ∧ i = .int .i64 q ∧ n = .int .u64 (num ((l.drop (k + 2)).take (q - (k + 2))) 0)) (fun _ i => m + 1 - (intOf i).toNat)
          case atStart => exact ⟨k + 2, by omega, by omega, by go_num, by simp [num]⟩
          case round =>
            obtain ⟨q, hq1, hq2, rfl, rfl⟩ := hrel
            by_cases hq : q < m + 1
            · have hltq : q < l.length := by have := HL.out; omega
              have hcq := (hc.below hB).knownU hltq
              have hoq := ho.at_ (List.getElem?_eq_getElem hltq)
              have hbd := num_take_bd (l.drop (k + 2)) (ho.drop _) HT8.out (q - (k + 2)) (by omega)
              have hst := num_at l (k + 2) q hq1 hltq
              have HST := Lib.hid hst
              clear hst
              go_wp2
              go_round
              case rel => exact ⟨q + 1, by omega, by omega, by go_num, by rw [HST.out]⟩
              case measure => simp [intOf]; omega
            · have hqe : q - (k + 2) = 8 := by omega
              have hfull : (l.drop (k + 2)).take (q - (k + 2)) = l.drop (k + 2) := List.take_of_length_le (by rw [HT8.out]; omega)
              rw [hfull]
              clear hfull hqe
              have hn8 := num_eight _ (ho.drop (k + 2)) HT8.out
              have hK9 := hK.set_ 2 (.int .u64 (18446744073709551615 - num (List.drop (k + 2) l) 0))
              have hR9 := hR.far (p := ⟨w.heap.size + 1, 2, none⟩) (by show w.heap.size ≠ w.heap.size + 1; omega) (.int .u64 (18446744073709551615 - num (List.drop (k + 2) l) 0))
              have hB9 := hB.setCell (p := ⟨w.heap.size + 1, 2, none⟩) (by show w.heap.size ≤ w.heap.size + 1; omega) (.int .u64 (18446744073709551615 - num (List.drop (k + 2) l) 0))
              have hO9 := hown.store hK (by decide) 2 (.int .u64 (18446744073709551615 - num (List.drop (k + 2) l) 0))
              go_wp2
              have hW9 := hR9.three (.int .i64 sp) (.slice A1 nm.length c1) (.int .u64 (18446744073709551615 - num (List.drop (k + 2) l) 0))
              have hWB9 := below_three hB9 (Nat.le_refl w.heap.size) (.int .i64 sp) (.slice A1 nm.length c1) (.int .u64 (18446744073709551615 - num (List.drop (k + 2) l) 0))
              have hC9 := (hO9.storeT hR9 (by decide) (.int .i64 sp) (.slice A1 nm.length c1) (.int .u64 (18446744073709551615 - num (List.drop (k + 2) l) 0))).cells
              refine bodyPost_ret (v := .tuple #[.agg #[.int .i64 sp, .slice A1 nm.length c1, .int .u64 (18446744073709551615 - num (List.drop (k + 2) l) 0)], .int .i64 0]) (by simp [results, Try.results18, go_sem, hW9.cell]) rfl ?_
              unfold RReadPost
              rw [HLR.out, HKEY.out, ← HLR.out]
              exact ⟨A1, c1, rfl, hC9, hWB9⟩
        · have hsn : rkey l = none := by rw [HLR.out]; exact rkey_not hsc (fun h => hten (by have h1 := h.1; have := HL.out; simp at h1; omega))
          have HSN := Lib.hid hsn; clear hsn hsc
          have hb1 : ((m : Int) + 1 != (k : Int) + 10) = true := by simp; omega
          go_wp2
          exact bodyPost_ret (v := .tuple #[zeroKey, .int .i64 11]) (by simp [results, Try.results18, go_sem, hW0.out.cell]) rfl (rpost_none HSN.out rfl hWB)
      have hyb : (y == 0) = false := by simpa using hy0
      by_cases hy1 : y = 255
      · subst hy1
        go_wp2_with (first | (at_builtin; refine app_oneS rfl (.tmp 59) (.tmp 60) rfl (w.heap.size + 2) _ nm _ rfl hown rfl (by omega) hsz ?_; intro A2 c2 w2 hown2 hg2; have hK2 := hK.grown hg2.by_ (hown.other hK (by decide)); have q12 := hK2.cell 1; have z12 := hK2.free 1))
        have P := push_key2 (by decide) hown hK hR hB hown2 hg2
        go_roundw
        case rel => exact ⟨k + 2, nm ++ [0], _, by go_num, by omega, by omega, by simp; omega, P.1, by rw [HS.out, HD2.out, HX.out, HY.out, scan, if_neg hbig, if_neg (by simp), if_neg (by decide), if_neg (by simp)], P.2.1, P.2.2.1, P.2.2.2⟩
        case measure => simp [intOf]; omega
      · have hyb1 : (y != 255) = true := by simpa using hy1
        have hsn : rkey l = none := by rw [HLR.out]; exact rkey_no (by rw [HS.out, HD2.out, HX.out, HY.out, scan, if_neg hbig, if_neg (by simp), if_neg hy0, if_pos hy1])
        have HSN := Lib.hid hsn; clear hsn
        go_wp2
        exact bodyPost_ret (v := .tuple #[zeroKey, .int .i64 11]) (by simp [results, Try.results18, go_sem, hW0.out.cell]) rfl (rpost_none HSN.out rfl hWB)
    · have hxb : (x != 0) = true := by simpa using hx0
      have q1' : ∀ o, (wr.alloc o).cell? ⟨w.heap.size + 1, 1, none⟩ = some (.slice A1 nm.length c1) := fun o => by rw [(hK.alloc o).cell]; rfl
      have hx' : ∀ o, (wr.alloc o).cell? ⟨b0, off + k, none⟩ = some (.int .u8 x) := fun o => (World.cell?_alloc_lt wr o _ (by show b0 < _; omega)).trans hx
      have g1 : (k : Int) < (m : Int) + 1 := by omega
      have g0 : (0 : Int) ≤ (k : Int) := by omega
      go_upto_region 9 with fail
      go_cut [] (fun wx => ∃ v2, Own wx (w.heap.size + 2) v2 (nm ++ [x]) ∧ Blk wx (w.heap.size + 1) 31 #[.int .i64 sp, v2, .int .u64 0] ∧ Blk wx w.heap.size 31 #[.int .i64 0, .slice none 0 0, .int .u64 0] ∧ Below w.heap.size w wx)
      case first =>
        go_region_law (refine app_stepS rfl (.tmp 35) (.tmp 40) rfl (w.heap.size + 2) (.slice A1 nm.length c1) nm ?_ ?_ (wr.heap.size + 1) (some ⟨wr.heap.size, 0, none⟩) 1 [x] ?_ ?_ ?_ ?_ ?_; (simp [Act.eval]); (exact (hown.alloc _).drew); (simp [Act.eval]); (exact (cells_new wr [x]).drew); (simp; omega); (simp; omega); intro A2 c2 w2 hown2 hg2; have hK2 := (hK.alloc (.cells #[.int .u8 x] 5)).drew.grown hg2.by_ (hown.other hK (by decide)); have q12 := hK2.cell 1; have z12 := hK2.free 1)
        all_goals (go_wp2_with fail; go_meet; exact ⟨_, push_key (by decide) hown hK hR hB hown2 hg2⟩)
      case rest =>
        obtain ⟨v2, hown2, hK2, hR2, hB2⟩ := hcut
        go_wp2
        go_roundw
        case rel => exact ⟨k + 1, nm ++ [x], v2, by go_num, by omega, by omega, by simp; omega, hown2, by rw [HS.out, HD2.out, HX.out, HY.out, scan, if_neg hbig, if_pos hx0, List.drop_eq_getElem_cons hlt1, HY.out], hK2, hR2, hB2⟩
        case measure => simp [intOf]; omega
end Go.Proofs.Ytamfhjjepeggcaa
