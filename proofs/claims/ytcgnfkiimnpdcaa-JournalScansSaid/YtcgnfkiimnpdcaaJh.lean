/-
  The contract of journal.record.
-/
import Derived.Test.YtcgnfkiimnpdcaaJg
import Derived.Deep.RegionHeld3
import Derived.StillTailTactics
set_option linter.unusedVariables false
namespace Go.Proofs.Ytcgnfkiimnpdcaa
open Go.RowKit

/-- What record answers. -/
def RecD (w : World) (g : Nat) (R : Nat → List Int) (cnt at_ : Nat) (E : Int) (num : Nat) (e : Ending) (w' : World) : Prop :=
  Lo w g w' ∧ match recAt R cnt at_ E num with
    | none => e = .returned (.tuple #[.slice none 0 0, .int .i64 0, .int .i64 0])
    | some b => ∃ v, e = .returned (.tuple #[v, .int .i64 (partsN b.length), .int .i64 0]) ∧ Own w' w.heap.size v b
theorem RecD.no {w w' : World} {g : Nat} {R : Nat → List Int} {cnt at_ : Nat} {E : Int} {num : Nat} (h : Lo w g w') (hn : ∀ b, ¬ IsRec R cnt at_ E num b) : RecD w g R cnt at_ E num (.returned (.tuple #[.slice none 0 0, .int .i64 0, .int .i64 0])) w' := by
  refine ⟨h, ?_⟩
  rw [recAt_none hn]
theorem RecD.yes {w w' : World} {g : Nat} {R : Nat → List Int} {cnt at_ : Nat} {E : Int} {num : Nat} {b : List Int} {v : Value} {q : Int} (h : Lo w g w') (hn : IsRec R cnt at_ E num b) (ho : Own w' w.heap.size v b) (hq : q = partsN b.length) : RecD w g R cnt at_ E num (.returned (.tuple #[v, .int .i64 q, .int .i64 0])) w' := by
  refine ⟨h, ?_⟩
  rw [recAt_some hn, hq]
  exact ⟨v, rfl, ho⟩
theorem IsRec.n_ {R : Nat → List Int} {count at_ : Nat} {E : Int} {num : Nat} {b : List Int} (h : IsRec R count at_ E num b) {k : Nat} (hk : k < partsN b.length) : at16 (R (at_ + k)) 20 = plen b k ∧ 1 ≤ plen b k ∧ plen b k ≤ 234 := by
  refine ⟨by rw [h.2.2.2 k hk, jsec_n], ?_, plen_le _ _⟩
  have := partsN_lt hk
  rw [plen_eq]
  omega

theorem at16_le (s : List Int) (i : Nat) (h : Oct s) : at16 s i ≤ 65535 := by
  have a : ∀ k, (s.getD k 0).toNat ≤ 255 := fun k => by
    rw [List.getD_eq_getElem?_getD]
    rcases Nat.lt_or_ge k s.length with hk | hk
    · have := h.at_ (List.getElem?_eq_getElem hk)
      rw [List.getElem?_eq_getElem hk]
      simp only [Option.getD_some]
      omega
    · rw [List.getElem?_eq_none hk]; simp
  have := a i
  have := a (i + 1)
  unfold at16
  omega
theorem RI.below {w wr w' : World} {g : Nat} {R : Nat → List Int} {at_ k : Nat} {vb va : Value} (h : RI w g R at_ k vb va wr) (hb : Below wr.heap.size wr w') : RI w g R at_ k vb va w' := by
  obtain ⟨vs, hl, hr, hs⟩ := h.rows
  have hg : wr.grownBy w' none := ⟨hb.os, hb.tape, hb.output, hb.size, fun k hk _ => hb.block k hk⟩
  refine ⟨h.lo.trans (hb.mono h.lo.size), h.own.below hb, vs, hl, World.ownsRow.kept hr hg (by cases va.ownBlock <;> simp), hs.keep fun b cur h1 h2 h3 => ⟨hb.block b (blk_lt h3), h2⟩⟩

theorem gather_le {R : Nat → List Int} (HR : Hid (∀ k, (R k).length = 256 ∧ Oct (R k))) {at_ : Nat} (k : Nat) (hk : k ≤ 100) : (gather R at_ k).length ≤ 100000 := by
  have : ∀ k, (gather R at_ k).length ≤ 256 * k := fun k => by
    induction k with
    | zero => simp [gather]
    | succ k ih =>
      rw [gather_succ, List.length_append]
      have h1 : (body (R (at_ + k))).length ≤ 256 := by
        unfold body
        rw [List.length_take, List.length_drop, (HR.out _).1]
        omega
      omega
  have := this k
  omega
theorem gather_oct {R : Nat → List Int} (HR : Hid (∀ k, (R k).length = 256 ∧ Oct (R k))) {at_ : Nat} : ∀ k, Oct (gather R at_ k)
  | 0 => by simp [gather]; exact Oct.nil
  | k + 1 => by
    rw [gather_succ]
    exact (gather_oct HR k).app ((((HR.out _).2).drop _).take _)
theorem grew_low {w w' : World} {base size n : Nat} {e : TypeId} {v v' : Value} {xs : List Value} (h : Grew w v w' v') (ho : w.ownsRow base e size v n xs) (hb : base ≤ w.heap.size) : Below base w w' :=
  (Below.refl _ _).grown h.by_ hb fun g hg => (ho.lt g hg).1
theorem info_rows : (Try.prog.info? 27).map (fun i => (i.zero, i.size, i.bytes)) = some (some (.slice none 0 0), 1, 24) := by kernel_rfl
/-- A part is taken. -/
theorem RI.app {w W w5 w6 : World} {g : Nat} {R : Nat → List Int} {at_ k bs N c : Nat} {vb va v5 v6 : Value} {vs : List Value} {cur : Array Value} (hlo : Lo w g W) (hown : Own W w.heap.size vb (gather R at_ k)) (hvl : vs.length = k) (hvr : W.ownsRow w.heap.size 27 1 va k vs) (hvs : Secs W w.heap.size vb.ownBlock R at_ vs)
    (hN1 : 256 ≤ N) (hN2 : N ≤ 256) (hNc : N ≤ c) (hcm : c ≤ maxLen) (hbw : w.heap.size ≤ bs) (hne : some bs ≠ vb.ownBlock) (hcur : W.heap[bs]? = some (.cells cur 5 (0, 0))) (hcells : Cells W W.heap.size (some ⟨bs, 0, none⟩) (U8 (R (at_ + k))))
    (hown5 : Own w5 w.heap.size v5 (gather R at_ k ++ body (R (at_ + k)))) (hg5 : Grew W vb w5 v5) (o : Obj) (hr6 : w6.ownsRow w.heap.size 27 1 v6 (k + 1) (vs ++ [.slice (some ⟨bs, 0, none⟩) N c])) (hg6 : Grew (w5.alloc o) va w6 v6) : RI w g R at_ (k + 1) v5 v6 w6 := by
  have hs0 := hlo.size
  have hvr5 := row_grew hvr hown hg5 (by decide)
  have hs5 := hg5.by_.size
  have hb5 := grew_low hg5 hown hs0
  have hvr5' := World.ownsRow.alloc hvr5 o
  have hown5' := hown5.alloc o
  have hb6 := grew_low hg6 hvr5' (by simp; omega)
  have hkeep : ∀ b cur, w.heap.size ≤ b → some b ≠ vb.ownBlock → W.heap[b]? = some (.cells cur 5 (0, 0)) → w6.heap[b]? = W.heap[b]? ∧ some b ≠ v5.ownBlock := fun b cur h1 h2 h3 => by
    have hlt := blk_lt h3
    have e5 := hg5.by_.block b hlt h2
    have ea : (w5.alloc o).heap[b]? = w5.heap[b]? := Below.heap_alloc w5 o b (by omega)
    have e6 := hg6.by_.block b (by simp; omega) (row_type hvr5' (ea.trans (e5.trans h3)) (by decide))
    refine ⟨e6.trans (ea.trans e5), ?_⟩
    rcases hg5.at_ with e | e
    · rw [e]; exact h2
    · intro e'
      have := e b e'.symm
      omega
  refine ⟨hlo.trans ((hb5.trans ((Below.refl _ _).alloc (by omega) o)).trans hb6), ?_, _, by simp [hvl], hr6, ?_⟩
  · exact own_as (row_grew hown5' hvr5' hg6 (by decide)) (gather_succ R at_ k).symm
  · have hk := hkeep bs cur hbw hne hcur
    refine Secs.snoc (hvs.keep hkeep) hN1 hN2 hNc hcm hbw hk.2 (hk.1.trans hcur) ?_
    rw [hvl]
    exact cells_same hcells hk.1

section
variable {B : Nat} {w : World} {L : List (Nat × DS)} (h : Many B w L) (hB : B ≤ w.heap.size) {i g : Nat} {s : DS} (hi : L[i]? = some (g, s))
include h hi
set_option maxRecDepth 8000 in
set_option maxHeartbeats 8000000 in
theorem record_any (frm cnt at_ num : Nat) (E : Int) (hd : s.down = false) (ha : (frm : Int) + cnt ≤ s.size) (hs1 : s.size ≤ 65536) (hat : at_ ≤ cnt) (hnum : num ≤ 100000) (hE0 : 0 ≤ E) (hE1 : E ≤ 18446744073709551615) :
    Calls Try.prog 28 #[.pointer (some ⟨g, 0, none⟩), .int .i64 frm, .int .i64 cnt, .int .i64 at_, .int .u64 E, .int .i64 num] w (RecD w g (fun k : Nat => rd s ((frm : Int) + (k : Int))) cnt at_ E num) := by
  obtain ⟨R, hR⟩ : ∃ R : Nat → List Int, R = fun k : Nat => rd s ((frm : Int) + (k : Int)) := ⟨_, rfl⟩
  rw [← hR]
  obtain ⟨z, hz⟩ : ∃ z, s.size = z := ⟨_, rfl⟩
  rw [hz] at ha hs1
  have HRl : Hid (∀ k, (R k).length = 256 ∧ Oct (R k)) := Lib.hid fun k => by rw [hR]; exact many_len h hi _
  have HRD : Hid (∀ (wr : World) (n : Nat), Lo w g wr → n < cnt → Calls Try.prog 39 #[.pointer (some ⟨g, 0, none⟩), .int .i64 ((frm : Int) + n)] wr fun e w' => ∃ b N c, e = .returned (.tuple #[.slice (some ⟨b, 0, none⟩) N c, .int .i64 0]) ∧ 256 ≤ N ∧ N ≤ 256 ∧ N ≤ c ∧ c ≤ maxLen ∧ wr.heap.size ≤ b ∧ (∃ cur, w'.heap[b]? = some (.cells cur 5 (0, 0))) ∧ Cells w' w'.heap.size (some ⟨b, 0, none⟩) (U8 (R n)) ∧ Lo w g w' ∧ Chg wr w' (fun k => k = g)) := Lib.hid fun wr n hlo hn => by
    rw [hR]
    exact read_lo h hi hlo hd _ (by omega) (by omega)
  have hlo0 := Lo.refl h hi
  obtain ⟨p0, hp0, _⟩ := h.disk hi
  have hglt : g < w.heap.size := hp0.blk.lt
  clear hR hz hp0 hd
  have HP : Hid (∀ (n : Nat) (w : World), n ≤ 10000000 → Calls Try.prog 22 #[.int .i64 n] w fun e w' => e = .returned (.int .i64 (partsN n)) ∧ w = w') := Lib.hid fun n w hn => parts_any n w (by omega)
  have hcnt : cnt ≤ 65536 := by omega
  have hfrm : frm ≤ 65536 := by omega
  clear ha hs1
  go_enter Try.func28, Try.ntmps28
  go_wp2
  go_loopw [15, 16, 17, 18] (fun vb va vp vk wr => ∃ (k q : Nat), vk = .int .i64 k ∧ vp = .int .i64 q ∧ k ≤ q ∧ 1 ≤ q ∧ q ≤ 35 ∧ (0 < k → q = at16 (R at_) 18) ∧ (k = 0 → q = 1) ∧ (at_ + k ≤ cnt) ∧ RI w g R at_ k vb va wr) (fun _ _ _ vk _ => 36 - (intOf vk).toNat)
  case atStart => exact ⟨0, 1, rfl, rfl, by omega, by omega, by omega, fun h => absurd h (by omega), fun _ => rfl, by omega, RI.start hlo0⟩
  case round =>
    obtain ⟨k, q, rfl, rfl, hkq, hq1, hq35, hqa, hq0, hns, hri⟩ := hrel
    have HQA := Lib.hid hqa
    have HQ0 := Lib.hid hq0
    have HNS := Lib.hid hns
    clear hqa hq0 hns
    by_cases hlt : k < q
    · by_cases hc : at_ + k < cnt
      · have HR1 : Hid (Calls Try.prog 39 #[.pointer (some ⟨g, 0, none⟩), .int .i64 ((frm : Int) + at_ + k)] wr fun e w' => ∃ b N c, e = .returned (.tuple #[.slice (some ⟨b, 0, none⟩) N c, .int .i64 0]) ∧ 256 ≤ N ∧ N ≤ 256 ∧ N ≤ c ∧ c ≤ maxLen ∧ wr.heap.size ≤ b ∧ (∃ cur, w'.heap[b]? = some (.cells cur 5 (0, 0))) ∧ Cells w' w'.heap.size (some ⟨b, 0, none⟩) (U8 (R (at_ + k))) ∧ Lo w g w' ∧ Chg wr w' (fun k => k = g)) := Lib.hid (by
          have := HRD.out wr (at_ + k) hri.lo hc
          rw [show (frm : Int) + at_ + k = (frm : Int) + ((at_ + k : Nat) : Int) by omega]
          exact this)
        obtain ⟨m, hm⟩ : ∃ m, at16 (R (at_ + k)) 20 = m := ⟨_, rfl⟩
        obtain ⟨q1, hq1'⟩ : ∃ q1, at16 (R (at_ + k)) 18 = q1 := ⟨_, rfl⟩
        have hmb : m ≤ 65535 := by rw [← hm]; exact at16_le _ _ (HRl.out _).2
        have hq1b : q1 ≤ 65535 := by rw [← hq1']; exact at16_le _ _ (HRl.out _).2
        have HM := Lib.hid hm
        have HQ1 := Lib.hid hq1'
        clear hm hq1'
        go_wp2_with fail
        refine HR1.out.mono ?_
        rintro e w1 ⟨bs, N, c, rfl, hN1, hN2, hNc, hcm, hbs, hcur, hcells, hlo1, hchg⟩
        unfold maxLen at hcm
        have hri1 := hri.read hglt hlo1 hchg
        have hbs' : some bs ≠ u15.ownBlock := fun e => by have := hri.own.lt' e.symm; omega
        have hbw : w.heap.size ≤ bs := Nat.le_trans hri.lo.size hbs
        have hl := HRl.out (at_ + k)
        have hsz1 := hchg.size
        have HG20 : Hid (∀ w1 : World, Cells w1 w1.heap.size (some ⟨bs, 0, none⟩) (U8 (R (at_ + k))) → Calls Try.prog 40 #[.slice (some ⟨bs, 20, none⟩) (N - 20) (c - 20)] w1 fun e w' => e = .returned (.int .u16 (m : Int)) ∧ Below w1.heap.size w1 w') := Lib.hid fun w1 hc1 => by
          have := get16_at bs 0 20 (R (at_ + k)) (N - 20) (c - 20) w1 hc1 hl.2 (by omega) (by omega) (by omega) (by omega)
          rw [HM.out] at this
          exact this
        have HG18 : Hid (∀ w1 : World, Cells w1 w1.heap.size (some ⟨bs, 0, none⟩) (U8 (R (at_ + k))) → Calls Try.prog 40 #[.slice (some ⟨bs, 18, none⟩) (N - 18) (c - 18)] w1 fun e w' => e = .returned (.int .u16 (q1 : Int)) ∧ Below w1.heap.size w1 w') := Lib.hid fun w1 hc1 => by
          have := get16_at bs 0 18 (R (at_ + k)) (N - 18) (c - 18) w1 hc1 hl.2 (by omega) (by omega) (by omega) (by omega)
          rw [HQ1.out] at this
          exact this
        clear hl
        go_wp2_with fail
        refine (HG20.out w1 hcells).mono ?_
        rintro e w2 ⟨rfl, hb2⟩
        have hri2 := hri1.below hb2
        have hcells2 := (hcells.below hb2).whole
        have hcur2 : ∃ cur, w2.heap[bs]? = some (.cells cur 5 (0, 0)) := by
          obtain ⟨cur, hcur⟩ := hcur
          exact ⟨cur, (hb2.block bs (blk_lt hcur)).trans hcur⟩
        have HNO : Hid (k < 0 ∨ ¬ (1 ≤ m ∧ m ≤ 234) ∨ (k = 0 ∧ ¬ (1 ≤ q1 ∧ q1 ≤ 35)) → ∀ b, ¬ IsRec R cnt at_ E num b) := Lib.hid fun hbad b hb => by
          have h2 := hb.parts
          have h3 := partsN_pos hb.1
          have h4 := partsN_le hb.2.1
          have h5 : k < partsN b.length := by
            rcases Nat.eq_zero_or_pos k with e | e
            · omega
            · have := HQA.out e
              omega
          have h6 := hb.n_ h5
          have h7 := HM.out
          have h8 := HQ1.out
          rcases hbad with h | h | ⟨h, h'⟩
          · omega
          · omega
          · rw [h, Nat.add_zero] at h8
            omega
        have HP35 : Hid (∀ w : World, Calls Try.prog 22 #[.int .i64 8000] w fun e w' => e = .returned (.int .i64 35) ∧ w = w') := Lib.hid fun w => HP.out 8000 w (by omega)
        by_cases hk0 : k = 0
        · have hkb : ((k : Int) == 0) = true := by simpa using hk0
          have HK0 := Lib.hid hk0
          clear hk0
          by_cases hgood : (1 ≤ m ∧ m ≤ 234) ∧ (1 ≤ q1 ∧ q1 ≤ 35)
          · obtain ⟨⟨hg1, hg2⟩, hg3, hg4⟩ := hgood
            go_wp2_with fail
            refine (HG18.out w2 hcells2).mono ?_
            rintro e w3 ⟨rfl, hb3⟩
            have hri3 := hri2.below hb3
            have hcells3 := (hcells2.below hb3).whole
            have hcur3 : ∃ cur, w3.heap[bs]? = some (.cells cur 5 (0, 0)) := by
              obtain ⟨cur, hcur⟩ := hcur2
              exact ⟨cur, (hb3.block bs (blk_lt hcur)).trans hcur⟩
            have hbl : (body (R (at_ + k))).length = m := by
              unfold body
              rw [HM.out, List.length_take, List.length_drop, (HRl.out (at_ + k)).1]
              omega
            have hcb : Cells w3 w3.heap.size (some ⟨bs, 22, none⟩) (U8 (body (R (at_ + k)))) := by
              have := (hcells3.subU 22).takeU m
              rw [show body (R (at_ + k)) = ((R (at_ + k)).drop 22).take m by unfold body; rw [HM.out]]
              rw [Nat.zero_add] at this
              exact this
            obtain ⟨vs, hvl, hvr, hvs⟩ := hri3.rows
            obtain ⟨cur, hcurX⟩ := hcur3
            have hownX := hri3.own
            have hsX := hri3.lo.size
            have hgl : (gather R at_ k).length ≤ 100000 := gather_le HRl k (by omega)
            have HVL := Lib.hid hvl
            have e22' : ((22 : Int) + (m : Int)).toNat - 22 = m := by omega
            have HLO := Lib.hid hri3.lo
            clear hvl
            go_wp2_with (first | (go_at_call 22; refine (HP35.out _).mono ?_; rintro e w4 ⟨rfl, rfl⟩) | (at_builtin; refine app_any rfl (.tmp 72) (.tmp 76) rfl w.heap.size u15 (gather R at_ k) rfl hownX w3.heap.size (some ⟨bs, 22, none⟩) (c - 22) (body (R (at_ + k))) (by rw [hbl]; rfl) hcb (by rw [hbl]; omega) hsX ?_; intro v5 w5 hown5 hg5; have hs5 := Nat.le_trans hsX hg5.by_.size; have hvr5 := World.ownsRow.alloc (row_grew hvr hownX hg5 (by decide)) (.cells #[.slice (some ⟨bs, 0, none⟩) N c] 27)) | (at_builtin; refine appG_anyS Try.underlying22 info_rows rfl (by decide) rfl (.tmp 78) (.tmp 80) rfl w.heap.size u16 k vs rfl hvr5 _ _ 1 1 [.slice (some ⟨bs, 0, none⟩) N c] rfl (cells_blk w5 _ _) (by simp) (by intro u hu; simp at hu; subst hu; rfl) (by unfold maxLen; omega) (by omega) (by simp; omega) ?_; intro A6 c6 w6 hrow6 hg6))
            have hriN := RI.app HLO.out hownX HVL.out hvr hvs hN1 hN2 hNc (by unfold maxLen; omega) hbw hbs' hcurX hcells3 hown5 hg5 _ hrow6 hg6
            go_roundw
            case rel => exact ⟨k + 1, q1, by go_num, rfl, (by have := HK0.out; omega), by omega, by omega, fun _ => (by rw [← HQ1.out, HK0.out]; rfl), fun h => absurd h (by omega), by omega, hriN⟩
            case measure => simp [intOf]; omega
          · have hbad : m < 1 ∨ (1 ≤ m ∧ 234 < m) ∨ ((1 ≤ m ∧ m ≤ 234) ∧ q1 < 1) ∨ ((1 ≤ m ∧ m ≤ 234) ∧ 1 ≤ q1 ∧ 35 < q1) := by omega
            clear hgood
            have hnr : ∀ b, ¬ IsRec R cnt at_ E num b := HNO.out (by have := HK0.out; omega)
            have HNR := Lib.hid hnr
            clear hnr
            go_wp2_with fail
            refine (HG18.out w2 hcells2).mono ?_
            rintro e w3 ⟨rfl, hb3⟩
            have hri3 := hri2.below hb3
            rcases hbad with h1 | ⟨h1, h2⟩ | ⟨⟨h1, h2⟩, h3⟩ | ⟨⟨h1, h2⟩, h3, h4⟩
            all_goals
              go_wp2_with (go_at_call 22; refine (HP35.out _).mono ?_; rintro e w4 ⟨rfl, rfl⟩)
              exact bodyPost_ret (v := .tuple #[.slice none 0 0, .int .i64 0, .int .i64 0]) (by simp [results, Try.results28, go_sem]) rfl (RecD.no hri3.lo HNR.out)
        · have hkb : ((k : Int) == 0) = false := by simpa using hk0
          by_cases hgood : 1 ≤ m ∧ m ≤ 234
          · obtain ⟨hg1, hg2⟩ := hgood
            have hbl : (body (R (at_ + k))).length = m := by
              unfold body
              rw [HM.out, List.length_take, List.length_drop, (HRl.out (at_ + k)).1]
              omega
            have hcb : Cells w2 w2.heap.size (some ⟨bs, 22, none⟩) (U8 (body (R (at_ + k)))) := by
              have := (hcells2.subU 22).takeU m
              rw [show body (R (at_ + k)) = ((R (at_ + k)).drop 22).take m by unfold body; rw [HM.out]]
              rw [Nat.zero_add] at this
              exact this
            obtain ⟨vs, hvl, hvr, hvs⟩ := hri2.rows
            obtain ⟨cur, hcurX⟩ := hcur2
            have hownX := hri2.own
            have hsX := hri2.lo.size
            have hgl : (gather R at_ k).length ≤ 100000 := gather_le HRl k (by omega)
            have HVL := Lib.hid hvl
            have e22' : ((22 : Int) + (m : Int)).toNat - 22 = m := by omega
            have HLO := Lib.hid hri2.lo
            clear hvl
            go_wp2_with (first | (go_at_call 22; refine (HP35.out _).mono ?_; rintro e w4 ⟨rfl, rfl⟩) | (at_builtin; refine app_any rfl (.tmp 72) (.tmp 76) rfl w.heap.size u15 (gather R at_ k) rfl hownX w2.heap.size (some ⟨bs, 22, none⟩) (c - 22) (body (R (at_ + k))) (by rw [hbl]; rfl) hcb (by rw [hbl]; omega) hsX ?_; intro v5 w5 hown5 hg5; have hs5 := Nat.le_trans hsX hg5.by_.size; have hvr5 := World.ownsRow.alloc (row_grew hvr hownX hg5 (by decide)) (.cells #[.slice (some ⟨bs, 0, none⟩) N c] 27)) | (at_builtin; refine appG_anyS Try.underlying22 info_rows rfl (by decide) rfl (.tmp 78) (.tmp 80) rfl w.heap.size u16 k vs rfl hvr5 _ _ 1 1 [.slice (some ⟨bs, 0, none⟩) N c] rfl (cells_blk w5 _ _) (by simp) (by intro u hu; simp at hu; subst hu; rfl) (by unfold maxLen; omega) (by omega) (by simp; omega) ?_; intro A6 c6 w6 hrow6 hg6))
            have hriN := RI.app HLO.out hownX HVL.out hvr hvs hN1 hN2 hNc (by unfold maxLen; omega) hbw hbs' hcurX hcells2 hown5 hg5 _ hrow6 hg6
            go_roundw
            case rel => exact ⟨k + 1, q, by go_num, rfl, by omega, by omega, by omega, fun _ => HQA.out (by omega), fun h => absurd h (by omega), by omega, hriN⟩
            case measure => simp [intOf]; omega
          · have hbad : m < 1 ∨ (1 ≤ m ∧ 234 < m) := by omega
            clear hgood
            have hnr : ∀ b, ¬ IsRec R cnt at_ E num b := HNO.out (by omega)
            have HNR := Lib.hid hnr
            clear hnr
            rcases hbad with h1 | ⟨h1, h2⟩
            all_goals
              go_wp2_with (go_at_call 22; refine (HP35.out _).mono ?_; rintro e w4 ⟨rfl, rfl⟩)
              exact bodyPost_ret (v := .tuple #[.slice none 0 0, .int .i64 0, .int .i64 0]) (by simp [results, Try.results28, go_sem]) rfl (RecD.no hri2.lo HNR.out)
      · go_wp2
        exact bodyPost_ret (v := .tuple #[.slice none 0 0, .int .i64 0, .int .i64 0]) (by simp [results, Try.results28, go_sem]) rfl (RecD.no hri.lo (fun b hb => by
          have h1 := hb.2.2.1
          have h2 := hb.parts
          have h3 := partsN_pos hb.1
          rcases Nat.eq_zero_or_pos k with e | e
          · omega
          · have := HQA.out e
            omega))
    · have hk : k = q := by omega
      subst hk
      obtain ⟨wx, hwx⟩ : ∃ x, x = wr := ⟨_, rfl⟩
      subst hwx
      obtain ⟨bl, hbl⟩ : ∃ l, gather R at_ k = l := ⟨_, rfl⟩
      have hbo : Oct bl := by rw [← hbl]; exact gather_oct HRl k
      have hgl : bl.length ≤ 100000 := by rw [← hbl]; exact gather_le HRl k (by omega)
      have HREC : Hid (∀ b, IsRec R cnt at_ E num b → b = bl ∧ partsN bl.length = k) := Lib.hid fun b hb => by
        have h1 := hb.parts
        have h2 := HQA.out (by omega)
        have h3 := hb.gather_
        rw [← h1, ← h2, hbl] at h3
        exact ⟨h3.symm, by rw [h3, ← h1, h2]⟩
      obtain ⟨vs, hvl, hvr, hvs⟩ := hri.rows
      have hown := hri.own
      rw [hbl] at hown
      have hlo := hri.lo
      have hsz := hlo.size
      obtain ⟨Ab, cb, e15, hbc, hbm, hbcells⟩ := hown.shape
      subst e15
      rcases hvr.2 with ⟨_, h0⟩ | ⟨g6, cap6, cur6, e16, hb6, hh6, hn6, hm6, hrest⟩
      · omega
      subst e16
      have HVC := Lib.hid (World.ownsRow.cells hvr (g := g6) rfl)
      have HBL := Lib.hid hbl
      have HVS := Lib.hid hvs
      have HVL := Lib.hid hvl
      have HHI := Lib.hid hri
      have HCN := Lib.hid HNS.out
      clear hbl hrest hvs hvl hh6 hvr hri
      unfold maxLen at hbm hm6
      have HPb : Hid (∀ w : World, Calls Try.prog 22 #[.int .i64 bl.length] w fun e w' => e = .returned (.int .i64 (partsN bl.length)) ∧ w = w') := Lib.hid fun w => HP.out bl.length w (by omega)
      by_cases hlong : 8000 < bl.length
      · have HNR : Hid (∀ b, ¬ IsRec R cnt at_ E num b) := Lib.hid fun b hb => by
          have := HREC.out b hb
          have h2 := hb.2.1
          rw [this.1] at h2
          omega
        go_wp2_with (go_at_call 22; refine (HPb.out _).mono ?_; rintro e w4 ⟨rfl, rfl⟩)
        exact bodyPost_ret (v := .tuple #[.slice none 0 0, .int .i64 0, .int .i64 0]) (by simp [results, Try.results28, go_sem]) rfl (RecD.no hlo HNR.out)
      obtain ⟨pn, hpn⟩ : ∃ pn, partsN bl.length = pn := ⟨_, rfl⟩
      rw [hpn] at HPb
      have HPN := Lib.hid hpn
      clear hpn
      by_cases hpk : pn = k
      · subst hpk
        have HSE : Hid (∀ (j : Nat) (w2 : World), j < pn → Below wx.heap.size wx w2 → Calls Try.prog 33 #[.int .u64 E, .int .i64 ((at_ : Int) + (j : Int)), .int .i64 num, .int .i64 j, .slice Ab bl.length cb] w2 fun e w' => ∃ A3 c3, e = .returned (.slice A3 (jsec E (at_ + j) num j bl).length c3) ∧ Cells w' w'.heap.size A3 (U8 (jsec E (at_ + j) num j bl)) ∧ Below w2.heap.size w2 w') := Lib.hid fun j w2 hj hb2 => by
          have := jsector_any E (at_ + j) num j Ab bl cb w2 hE0 hE1 (by omega) (by omega) (partsN_lt (by rw [HPN.out]; exact hj)) (by omega) hbc (by omega) ((hbcells.below hb2).whole)
          rw [show ((at_ + j : Nat) : Int) = (at_ : Int) + (j : Int) by omega] at this
          refine this.mono ?_
          rintro e w' ⟨v, rfl, hown3, hb3⟩
          obtain ⟨A3, c3, rfl, _, _, hc3⟩ := hown3.shape
          exact ⟨A3, c3, rfl, hc3, hb3⟩
        go_wp2_with (go_at_call 22; refine (HPb.out _).mono ?_; rintro e w4 ⟨rfl, rfl⟩)
        go_loopw [94] (fun x w2 => ∃ j : Nat, x = .int .i64 j ∧ j ≤ pn ∧ Below wx.heap.size wx w2 ∧ (∀ p, p < j → R (at_ + p) = jsec E (at_ + p) num p bl)) (fun x _ => pn - (intOf x).toNat)
        case atStart => exact ⟨0, rfl, by omega, Below.refl _ _, fun p hp => absurd hp (by omega)⟩
        case round =>
          obtain ⟨j, rfl, hj, hbj, hall⟩ := hrel
          have HALL := Lib.hid hall
          clear hall
          by_cases hlt2 : j < pn
          · obtain ⟨u, hu⟩ : ∃ u, vs[j]? = some u := ⟨_, List.getElem?_eq_getElem (by rw [HVL.out]; exact hlt2)⟩
            obtain ⟨bs, N, c, eu, hN1, hN2, hNc, hcm, hb1, _, hcur, hcs⟩ := HVS.out j u hu
            have hc6 := HVC.out j u hu
            rw [add_mk, Nat.zero_add] at hc6
            have hc6' : wr.cell? ⟨g6, j, none⟩ = some (.slice (some ⟨bs, 0, none⟩) N c) := (hbj.cell (p := ⟨g6, j, none⟩) (World.block_lt_of_cell? wx _ hc6)).trans (by rw [hc6, eu])
            have hRl := HRl.out (at_ + j)
            obtain rfl : N = (R (at_ + j)).length := by omega
            have hcs2 := (hcs.below hbj).whole
            have HSj := Lib.hid (HSE.out j wr hlt2 hbj)
            have hjo : Oct (jsec E (at_ + j) num j bl) := jsec_oct _ _ _ _ _ hbo
            have hRo := hRl.2
            clear hc6 hRl hcs hu eu hcur
            unfold maxLen at hcm
            by_cases heq : R (at_ + j) = jsec E (at_ + j) num j bl
            · have HEQ := Lib.hid heq
              clear heq
              go_wp2_with (first | (go_at_call 33; refine HSj.out.mono ?_; rintro e w3 ⟨A3, c3, rfl, hc3, hb3⟩; have hcs3 := (hcs2.below hb3).whole; have HBE := Lib.hid (bytes_equal (some ⟨bs, 0, none⟩) A3 (R (at_ + j)) (jsec E (at_ + j) num j bl) c c3 w3 hcs3 hc3 hRo hjo)) | (go_at_call 41; refine HBE.out.mono ?_; rintro e w4 ⟨rfl, rfl⟩; rw [show sameB (R (at_ + j)) (jsec E (at_ + j) num j bl) = true by unfold sameB; exact decide_eq_true HEQ.out]))
              go_roundw
              case rel => exact ⟨j + 1, by go_num, by omega, hbj.trans (hb3.mono hbj.size), fun p hp => by
                rcases Nat.lt_or_ge p j with h1 | h1
                · exact HALL.out p h1
                · obtain rfl : p = j := by omega
                  exact HEQ.out⟩
              case measure => simp [intOf]; omega
            · have HNR : Hid (∀ b, ¬ IsRec R cnt at_ E num b) := Lib.hid fun b hb => by
                have h1 := HREC.out b hb
                have h2 := hb.2.2.2 j (by rw [h1.1, HPN.out]; exact hlt2)
                rw [h1.1] at h2
                exact heq h2
              have HEQ := Lib.hid heq
              clear heq
              go_wp2_with (first | (go_at_call 33; refine HSj.out.mono ?_; rintro e w3 ⟨A3, c3, rfl, hc3, hb3⟩; have hcs3 := (hcs2.below hb3).whole; have HBE := Lib.hid (bytes_equal (some ⟨bs, 0, none⟩) A3 (R (at_ + j)) (jsec E (at_ + j) num j bl) c c3 w3 hcs3 hc3 hRo hjo)) | (go_at_call 41; refine HBE.out.mono ?_; rintro e w4 ⟨rfl, rfl⟩; rw [show sameB (R (at_ + j)) (jsec E (at_ + j) num j bl) = false by unfold sameB; exact decide_eq_false HEQ.out]))
              exact bodyPost_ret (v := .tuple #[.slice none 0 0, .int .i64 0, .int .i64 0]) (by simp [results, Try.results28, go_sem]) rfl (RecD.no (hlo.trans ((hbj.trans (hb3.mono hbj.size)).mono hsz)) HNR.out)
          · have hjp : j = pn := by omega
            have hyes : IsRec R cnt at_ E num bl := by
              have hp := HPN.out
              refine ⟨?_, by omega, ?_, fun p hp' => HALL.out p (by omega)⟩
              · rcases Nat.eq_zero_or_pos bl.length with e | e
                · rw [e] at hp
                  simp [partsN] at hp
                  omega
                · exact e
              · rw [hp]; exact HCN.out
            have HY := Lib.hid hyes
            clear hyes hjp
            go_wp2
            exact bodyPost_ret (v := .tuple #[.slice Ab bl.length cb, .int .i64 pn, .int .i64 0]) (by simp [results, Try.results28, go_sem]) rfl (RecD.yes (hlo.trans (hbj.mono hsz)) HY.out (hown.below hbj) (by rw [HPN.out]))
      · have HNR : Hid (∀ b, ¬ IsRec R cnt at_ E num b) := Lib.hid fun b hb => by
          have := (HREC.out b hb).2
          rw [HPN.out] at this
          exact hpk this
        have hne1 : ((pn : Int) == (k : Int)) = false := by simp; omega
        have hne2 : ((pn : Int) != (k : Int)) = true := by simp; omega
        go_wp2_with (go_at_call 22; refine (HPb.out _).mono ?_; rintro e w4 ⟨rfl, rfl⟩)
        exact bodyPost_ret (v := .tuple #[.slice none 0 0, .int .i64 0, .int .i64 0]) (by simp [results, Try.results28, go_sem]) rfl (RecD.no hlo HNR.out)
end
end Go.Proofs.Ytcgnfkiimnpdcaa
