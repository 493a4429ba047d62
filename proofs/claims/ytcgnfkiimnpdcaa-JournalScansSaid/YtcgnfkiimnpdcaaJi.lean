/-
  The contract of journal.Scan.
-/
import Derived.Test.YtcgnfkiimnpdcaaJh
set_option linter.unusedVariables false
namespace Go.Proofs.Ytcgnfkiimnpdcaa
open Go.RowKit

theorem Lo.trans' {w wr w' : World} {g : Nat} (h : Lo w g wr) (k : Lo wr g w') : Lo w g w' := by
  obtain ⟨x, h⟩ := h
  obtain ⟨y, k⟩ := k
  have s1 := h.size
  have s2 := k.size
  rw [set_size] at s1 s2
  refine ⟨y, k.os.trans h.os, k.tape.trans h.tape, k.output.trans h.output, by rw [set_size]; omega, fun i hi => ?_⟩
  refine (k.block i (by omega)).trans ?_
  by_cases e : i = g
  · subst e
    have e1 : wr.heap[i]? = (w.setCell ⟨i, 6, none⟩ (.int .i64 x)).heap[i]? := h.block i hi
    show ((wr.heap.modify i _) : Array Obj)[i]? = ((w.heap.modify i _) : Array Obj)[i]?
    have e1' : wr.heap[i]? = ((w.heap.modify i _) : Array Obj)[i]? := e1
    rw [Array.getElem?_modify] at e1' ⊢
    rw [Array.getElem?_modify]
    simp only [if_true] at e1' ⊢
    rw [e1']
    cases hw : w.heap[i]? with
    | none => rfl
    | some o =>
      cases o with
      | cells cs t m => simp
      | map es c => rfl
      | _ => rfl
  · refine (Below.heap_setCell wr ⟨g, 6, none⟩ _ i e).trans ((h.block i hi).trans ?_)
    exact (Below.heap_setCell w ⟨g, 6, none⟩ _ i e).trans (Below.heap_setCell w ⟨g, 6, none⟩ _ i e).symm
theorem OwnR.keep {w w' : World} {base : Nat} {v : Value} {ls : List (List Int)} (h : OwnR w base v ls) (hb : BK w w') {row : Option Nat} (hg : w.grownBy w' row) (hne : v.ownBlock = none ∨ v.ownBlock ≠ row) : OwnR w' base v ls := by
  obtain ⟨vs, h1, h2⟩ := h
  exact ⟨vs, World.ownsRow.kept h1 hg hne, h2.keep hb⟩
theorem OwnR.below {w w' : World} {base : Nat} {v : Value} {ls : List (List Int)} (h : OwnR w base v ls) (hb : Below w.heap.size w w') : OwnR w' base v ls :=
  h.keep (BK.of_below hb) (row := none) ⟨hb.os, hb.tape, hb.output, hb.size, fun k hk _ => hb.block k hk⟩ (by cases v.ownBlock <;> simp)
theorem OwnR.lo {w w' : World} {base g : Nat} {v : Value} {ls : List (List Int)} (h : OwnR w base v ls) (hb : BK w w') (hlo : Lo w g w') (hg : g < base) : OwnR w' base v ls := by
  refine h.keep hb (row := some g) ⟨?_, ?_, ?_, hlo.size, fun k hk hne => hlo.far hk fun e => hne (by rw [e])⟩ ?_
  · obtain ⟨x, hx⟩ := hlo; exact hx.os
  · obtain ⟨x, hx⟩ := hlo; exact hx.tape
  · obtain ⟨x, hx⟩ := hlo; exact hx.output
  · obtain ⟨vs, h1, _⟩ := h
    rcases h1.2 with ⟨rfl, _⟩ | ⟨b, cap, cur, rfl, hb, _⟩
    · exact .inl rfl
    · refine .inr fun e => ?_
      injection e with e
      have e : b = g := e
      omega
theorem OwnR.len {w : World} {base : Nat} {v : Value} {ls : List (List Int)} (h : OwnR w base v ls) : ∃ A c vs, v = .slice A ls.length c ∧ ls.length ≤ c ∧ c ≤ maxLen ∧ vs.length = ls.length ∧ w.ownsRow base 27 1 (.slice A ls.length c) ls.length vs ∧ RowsV w vs ls := by
  obtain ⟨vs, h1, h2⟩ := h
  obtain ⟨A, c, e, h3, h4, _⟩ := ownsRow_shape h1
  have hl := h2.len
  rw [hl] at h1 e h3
  subst e
  exact ⟨A, c, vs, rfl, h3, h4, hl, h1, h2⟩
theorem BK.grew {w w' : World} {base size n : Nat} {e : TypeId} {v v' : Value} {xs : List Value} (ho : w.ownsRow base e size v n xs) (h : Grew w v w' v') (he : 5 ≠ e) : BK w w' := fun k cur mk hk => by
  refine h.by_.block k ?_ (row_type ho hk he)
  rcases Nat.lt_or_ge k w.heap.size with h | h
  · exact h
  · rw [Array.getElem?_eq_none h] at hk; cases hk
theorem Own.rowV {w : World} {base : Nat} {A : Option Addr} {c : Nat} {l : List Int} (h : Own w base (.slice A l.length c) l) (ho : Oct l) : RowV w (.slice A l.length c) l := by
  obtain ⟨A', c', e, h1, h2, _⟩ := h.shape
  injection e with e1 e2 e3
  subst e1 e3
  unfold maxLen at h2
  exact ⟨A, c, rfl, h.bytes, h1, by omega, ho⟩
/-- One row more. -/
theorem OwnR.snoc {W w6 : World} {base : Nat} {v v6 : Value} {ls : List (List Int)} {A : Option Addr} {c : Nat} {l : List Int} {vs : List Value} (hr : W.ownsRow base 27 1 v ls.length vs) (hv : RowsV W vs ls) (hl : RowV W (.slice A l.length c) l) (hr6 : w6.ownsRow base 27 1 v6 (ls.length + 1) (vs ++ [.slice A l.length c])) (hg6 : Grew W v w6 v6) : OwnR w6 base v6 (ls ++ [l]) := by
  have hb := BK.grew hr hg6 (by decide)
  refine ⟨vs ++ [.slice A l.length c], ?_, (hv.keep hb).snoc (hl.keep hb)⟩
  rw [List.length_append, hv.len]
  exact hr6

/-- What Scan answers. -/
def ScanD (w : World) (g : Nat) (R : Nat → List Int) (cnt : Nat) (E : Int) (e : Ending) (w' : World) : Prop :=
  Lo w g w' ∧ ∃ v, e = .returned (.tuple #[v, .int .i64 0]) ∧ OwnR w' w.heap.size v (scanF R cnt E (cnt + 1) 0 0)
theorem IsRec.oct {R : Nat → List Int} {count at_ : Nat} {E : Int} {num : Nat} {b : List Int} (h : IsRec R count at_ E num b) (HR : Hid (∀ k, (R k).length = 256 ∧ Oct (R k))) : Oct b := by
  rw [← h.gather_]
  exact gather_oct HR _

section
variable {B : Nat} {w : World} {L : List (Nat × DS)} (h : Many B w L) (hB : B ≤ w.heap.size) {i g : Nat} {s : DS} (hi : L[i]? = some (g, s))
include h hi
set_option maxHeartbeats 2000000 in
theorem scan_no (frm cnt E : Int) (hs0 : 0 ≤ s.size) (hs1 : s.size ≤ 65536) (hc : -9223372036854775808 ≤ cnt ∧ cnt ≤ 9223372036854775807) (hf : -9223372036854775808 ≤ frm ∧ frm ≤ 9223372036854775807) (ha : areaB s.size frm cnt = false) :
    Calls Try.prog 10 #[.pointer (some ⟨g, 0, none⟩), .int .i64 frm, .int .i64 cnt, .int .u64 E] w fun e w' => e = .returned (.tuple #[.slice none 0 0, .int .i64 1]) ∧ w = w' := by
  have HA := Lib.hid (area_any h hi frm cnt hs0 hs1 hc hf)
  rw [ha] at HA
  go_enter Try.func10, Try.ntmps10
  go_wp2_with (go_at_call 27; refine HA.out.mono ?_; rintro e w1 ⟨rfl, rfl⟩)
  exact bodyPost_ret (v := .tuple #[.slice none 0 0, .int .i64 1]) (by simp [results, Try.results10, go_sem]) rfl ⟨rfl, rfl⟩
include hB
set_option maxHeartbeats 4000000 in
theorem scan_any (frm cnt : Nat) (E : Int) (hd : s.down = false) (hs0 : 0 ≤ s.size) (hs1 : s.size ≤ 65536) (ha : (frm : Int) + cnt ≤ s.size) (hE0 : 0 ≤ E) (hE1 : E ≤ 18446744073709551615) :
    Calls Try.prog 10 #[.pointer (some ⟨g, 0, none⟩), .int .i64 frm, .int .i64 cnt, .int .u64 E] w (ScanD w g (fun k : Nat => rd s ((frm : Int) + (k : Int))) cnt E) := by
  have HA := Lib.hid (area_any h hi frm cnt hs0 hs1 (by omega) (by omega))
  rw [show areaB s.size frm cnt = true by unfold areaB; exact decide_eq_true (by omega)] at HA
  obtain ⟨R, hR⟩ : ∃ R : Nat → List Int, R = fun k : Nat => rd s ((frm : Int) + (k : Int)) := ⟨_, rfl⟩
  rw [← hR]
  have HRl : Hid (∀ k, (R k).length = 256 ∧ Oct (R k)) := Lib.hid fun k => by rw [hR]; exact many_len h hi _
  have hil : i < L.length := by
    rcases Nat.lt_or_ge i L.length with x | x
    · exact x
    · rw [List.getElem?_eq_none x] at hi; cases hi
  have HRC : Hid (∀ (wr : World) (at_ num : Nat), Lo w g wr → at_ ≤ cnt → num ≤ 100000 → Calls Try.prog 28 #[.pointer (some ⟨g, 0, none⟩), .int .i64 frm, .int .i64 cnt, .int .i64 at_, .int .u64 E, .int .i64 num] wr fun e w' => RecD wr g R cnt at_ E num e w' ∧ BK wr w') := Lib.hid fun wr at_ num hlo h1 h2 => by
    obtain ⟨x, hM⟩ := Lo.many h hB hi hlo
    refine (record_any hM (i := i) (s := { s with a0 := x }) (List.getElem?_set_self hil) frm cnt at_ num E hd ha hs1 h1 h2 hE0 hE1).mono fun e w' hr => ⟨?_, (Lo.bka hM (List.getElem?_set_self hil) hr.1).b⟩
    rw [hR]
    exact hr
  have hlo0 := Lo.refl h hi
  obtain ⟨p0, hp0, _⟩ := h.disk hi
  have hglt : g < w.heap.size := hp0.blk.lt
  have hcnt : cnt ≤ 65536 := by omega
  clear hR hp0 hd ha hs0 hs1
  go_enter Try.func10, Try.ntmps10
  go_wp2_with (go_at_call 27; refine HA.out.mono ?_; rintro e w1 ⟨rfl, rfl⟩)
  go_loopw [10, 11] (fun vo va wr => ∃ (at_ f : Nat) (ls : List (List Int)), va = .int .i64 at_ ∧ at_ ≤ cnt ∧ cnt < f + at_ ∧ ls.length ≤ at_ ∧ scanF R cnt E (cnt + 1) 0 0 = ls ++ scanF R cnt E f at_ ls.length ∧ OwnR wr w.heap.size vo ls ∧ Lo w g wr) (fun _ va _ => cnt - (intOf va).toNat)
  case atStart => exact ⟨0, cnt + 1, [], rfl, by omega, by omega, by simp, rfl, OwnR.nil _ _, hlo0⟩
  case round =>
    obtain ⟨at_, f, ls, rfl, hat, hf, hnum, hscan, hown, hlo⟩ := hrel
    obtain ⟨Ao, co, vs, e10, hoc, hom, hvl, hrow, hrows⟩ := hown.len
    subst e10
    unfold maxLen at hom
    have HSC := Lib.hid hscan
    have HVL := Lib.hid hvl
    clear hscan hvl
    have hsz := hlo.size
    by_cases hlt : at_ < cnt
    · obtain ⟨f, rfl⟩ : ∃ f', f = f' + 1 := ⟨f - 1, by omega⟩
      have hC := HRC.out wr at_ ls.length hlo hat (by omega)
      cases hrec : recAt R cnt at_ E ls.length with
      | none =>
        unfold RecD at hC
        rw [hrec] at hC
        have HC := Lib.hid hC
        have HEND : Hid (scanF R cnt E (cnt + 1) 0 0 = ls) := Lib.hid (by
          rw [HSC.out]
          show ls ++ scanF R cnt E (f + 1) at_ ls.length = ls
          unfold scanF
          rw [if_pos hlt, hrec]
          simp)
        clear hC hrec
        go_wp2_with (go_at_call 28; refine HC.out.mono ?_; rintro e w3 ⟨⟨hlo3, rfl⟩, hbk3⟩)
        exact bodyPost_ret (v := .tuple #[.slice Ao ls.length co, .int .i64 0]) (by simp [results, Try.results10, go_sem]) rfl ⟨hlo.trans' hlo3, _, rfl, by rw [HEND.out]; exact hown.lo hbk3 hlo3 hglt⟩
      | some b =>
        have hb := recAt_of hrec
        unfold RecD at hC
        rw [hrec] at hC
        obtain ⟨pn, hpn⟩ : ∃ pn, partsN b.length = pn := ⟨_, rfl⟩
        have hpp : 1 ≤ pn := by rw [← hpn]; exact partsN_pos hb.1
        have hpc : at_ + pn ≤ cnt := by rw [← hpn]; exact hb.2.2.1
        have hbo := hb.oct HRl
        have HC : Hid (Calls Try.prog 28 #[.pointer (some ⟨g, 0, none⟩), .int .i64 frm, .int .i64 cnt, .int .i64 at_, .int .u64 E, .int .i64 ls.length] wr fun e w' => ∃ A3 c3, e = .returned (.tuple #[.slice A3 b.length c3, .int .i64 pn, .int .i64 0]) ∧ RowV w' (.slice A3 b.length c3) b ∧ Lo wr g w' ∧ BK wr w') := Lib.hid (hC.mono (by
          rintro e w' ⟨⟨hl, v, rfl, hv⟩, hbk⟩
          obtain ⟨A3, c3, rfl, _⟩ := hv.shape
          exact ⟨A3, c3, by rw [hpn], hv.rowV hbo, hl, hbk⟩))
        have HNX : Hid (scanF R cnt E (cnt + 1) 0 0 = (ls ++ [b]) ++ scanF R cnt E f (at_ + pn) (ls ++ [b]).length) := Lib.hid (by
          rw [HSC.out]
          show ls ++ scanF R cnt E (f + 1) at_ ls.length = _
          rw [scanF, if_pos hlt, hrec, ← hpn, List.length_append]
          simp)
        clear hC hrec hb hpn
        go_wp2_with (first | (go_at_call 28; refine HC.out.mono ?_; rintro e w3 ⟨A3, c3, rfl, hrv, hlo3, hbk3⟩; have hown3 := hown.lo hbk3 hlo3 hglt; obtain ⟨vs3, hr3, hv3⟩ := hown3; have hl3 := hv3.len; rw [hl3] at hr3; have hr3' := World.ownsRow.alloc hr3 (.cells #[.slice A3 b.length c3] 27); have hs3 := hlo3.size; have HL3 := Lib.hid hl3; clear hl3) | (at_builtin; refine appG_anyS Try.underlying22 info_rows rfl (by decide) rfl (.tmp 40) (.tmp 42) rfl w.heap.size _ ls.length vs3 rfl hr3' _ _ 1 1 [.slice A3 b.length c3] rfl (cells_blk w3 _ _) (by simp) (by intro u hu; simp at hu; subst hu; rfl) (by unfold maxLen; omega) (by omega) (by simp; omega) ?_; intro A6 c6 w6 hrow6 hg6))
        have hba : Below w3.heap.size w3 (w3.alloc (.cells #[.slice A3 b.length c3] 27)) := (Below.refl _ _).alloc (Nat.le_refl _) _
        have hbg := grew_low hg6 hr3' (by simp; omega)
        have hownN : OwnR w6 w.heap.size _ (ls ++ [b]) := OwnR.snoc hr3' (hv3.keep (BK.of_below hba)) (hrv.keep (BK.of_below hba)) hrow6 hg6
        go_roundw
        case rel => exact ⟨at_ + pn, f, ls ++ [b], by go_num, by omega, by omega, by simp; omega, HNX.out, by simpa using hownN, (hlo.trans' hlo3).trans ((hba.mono (by omega)).trans hbg)⟩
        case measure => simp [intOf]; omega
    · have HEND : Hid (scanF R cnt E (cnt + 1) 0 0 = ls) := Lib.hid (by
        rw [HSC.out]
        cases f with
        | zero => simp [scanF]
        | succ f =>
          unfold scanF
          rw [if_neg hlt]
          simp)
      go_wp2
      exact bodyPost_ret (v := .tuple #[.slice Ao ls.length co, .int .i64 0]) (by simp [results, Try.results10, go_sem]) rfl ⟨hlo, _, rfl, by rw [HEND.out]; exact hown⟩
end
end Go.Proofs.Ytcgnfkiimnpdcaa
