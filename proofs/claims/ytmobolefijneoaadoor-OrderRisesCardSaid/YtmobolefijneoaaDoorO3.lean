/-
  order.formed, order.Sort.
-/
import Derived.Test.YtmobolefijneoaaDoorO2
set_option linter.unusedVariables false
namespace Go.Proofs.YtmobolefijneoaaDoor
open Go.RowKit Go.Joins Go.Deep

set_option maxHeartbeats 4000000 in
theorem oindex_any (k n : Int) (s : ByteArray) (An : Option Addr) (ns : List ByteArray) (cn : Nat) (Ai : Option Addr) (is : List LV) (ci : Nat) (P : LV → Prop) (w : World) (hv : (LV.mk k n s An ns cn Ai is ci).At w)
    (hf : ∀ (q : Nat) (h : q < is.length) (w' : World), Below w.heap.size w w' → Calls Tryd.prog 43 #[(is[q]).val] w' fun e w'' => BoolIs (¬ P is[q]) e ∧ Below w'.heap.size w' w'') :
    Calls Tryd.prog 51 #[.slice Ai is.length ci, .func (.func 43) #[] #[]] w fun e w' => IndexRes is P e ∧ Below w.heap.size w w' := by
  have HF := Lib.hid hf
  have HV := Lib.hid hv
  have hci : is.length ≤ ci ∧ ci ≤ 9223372036854775807 := by unfold LV.At at hv; exact hv.2.2.2.2.2.2.2.2
  clear hf hv
  go_enter Tryd.func51, Tryd.ntmps51
  go_wp2
  go_loopw [8] (fun i wr => ∃ q : Nat, i = .int .i64 q ∧ q ≤ is.length ∧ Hid (∀ j (h : j < is.length), j < q → P is[j]) ∧ Below w.heap.size w wr) (fun i _ => is.length - (RowKit.intOf i).toNat)
  case atStart => exact ⟨0, rfl, Nat.zero_le _, Lib.hid fun j _ h => absurd h (by omega), Below.refl _ _⟩
  case round =>
    obtain ⟨q, rfl, hq, HQ, hB⟩ := hrel
    by_cases hlt : q < is.length
    · have hqI : (q : Int) < (is.length : Int) := by omega
      obtain ⟨b, off, rfl, hb, hit, hcell⟩ := (HV.out.below hB _).item hlt
      have HC := Lib.hid (HF.out q hlt wr hB)
      have HP : Hid (∀ x, is[q] = x → ¬ P x → ∃ x ∈ is, ¬ P x) := Lib.hid fun x hx hn => ⟨x, by rw [← hx]; exact List.getElem_mem hlt, hn⟩
      have HN : Hid (∀ x, is[q] = x → P x → ∀ j (h : j < is.length), j < q + 1 → P is[j]) := Lib.hid fun x hx hn j h hj => by
        rcases Nat.lt_or_ge j q with h1 | h1
        · exact HQ.out j h h1
        · obtain rfl : j = q := by omega
          rw [hx]; exact hn
      obtain ⟨x, hx⟩ : ∃ x, is[q] = x := ⟨_, rfl⟩
      have HP1 := Lib.hid (HP.out x hx)
      have HN1 := Lib.hid (HN.out x hx)
      rw [hx] at HC hcell
      obtain ⟨k', n', s', An', ns', cn', Ai', is', ci'⟩ := x
      have d0 : wr.cell? ⟨b, off + q * 5, none⟩ = some (.int .i64 k') := hcell 0 _ rfl
      have d1 : wr.cell? ⟨b, off + q * 5 + 1, none⟩ = some (.int .i64 n') := hcell 1 _ rfl
      have d2 : wr.cell? ⟨b, off + q * 5 + 2, none⟩ = some (.string s') := hcell 2 _ rfl
      have d3 : wr.cell? ⟨b, off + q * 5 + 3, none⟩ = some (.slice An' ns'.length cn') := hcell 3 _ rfl
      have d4 : wr.cell? ⟨b, off + q * 5 + 4, none⟩ = some (.slice Ai' is'.length ci') := hcell 4 _ rfl
      clear hcell hx HP HN
      obtain ⟨p, hp⟩ : ∃ p, p = P (.mk k' n' s' An' ns' cn' Ai' is' ci') := ⟨_, rfl⟩
      rw [← hp] at HC HP1 HN1
      clear hp
      go_wp2_with fail
      refine HC.out.mono ?_
      rintro e w2 ⟨⟨bb, rfl, hbb⟩, hb2⟩
      have HBB := Lib.hid hbb
      clear hbb
      cases bb with
      | true =>
        have HB1 := Lib.hid (HBB.out.1 rfl)
        clear HBB
        go_wp2
        go_ret
        exact ⟨⟨q, rfl, by omega, by omega, ⟨fun _ => HP1.out HB1.out, fun _ => by omega⟩⟩, hB.trans (hb2.mono hB.size)⟩
      | false =>
        have HB1 : Hid (¬ ¬ p) := Lib.hid (fun h => by have := HBB.out.2 h; cases this)
        clear HBB
        go_wp2
        go_roundw
        case rel => exact ⟨q + 1, by go_num, by omega, Lib.hid (HN1.out (Classical.byContradiction HB1.out)), hB.trans (hb2.mono hB.size)⟩
        case measure => simp [RowKit.intOf]; omega
    · have hqI : ¬ (q : Int) < (is.length : Int) := by omega
      go_wp2
      go_ret
      refine ⟨⟨-1, rfl, by omega, by omega, ⟨fun h => absurd h (by omega), fun ⟨x, hx, hn⟩ => ?_⟩⟩, hB⟩
      obtain ⟨j, hj, rfl⟩ := List.mem_iff_getElem.1 hx
      exact absurd (HQ.out j hj (by omega)) hn
set_option maxHeartbeats 4000000 in
theorem ocontains_any (k n : Int) (s : ByteArray) (An : Option Addr) (ns : List ByteArray) (cn : Nat) (Ai : Option Addr) (is : List LV) (ci : Nat) (P : LV → Prop) (w : World) (hv : (LV.mk k n s An ns cn Ai is ci).At w)
    (hf : ∀ (q : Nat) (h : q < is.length) (w' : World), Below w.heap.size w w' → Calls Tryd.prog 43 #[(is[q]).val] w' fun e w'' => BoolIs (¬ P is[q]) e ∧ Below w'.heap.size w' w'') :
    Calls Tryd.prog 41 #[.slice Ai is.length ci, .func (.func 43) #[] #[]] w fun e w' => BoolIs (∃ x ∈ is, ¬ P x) e ∧ Below w.heap.size w w' := by
  have HC := Lib.hid (oindex_any k n s An ns cn Ai is ci P w hv hf)
  clear hf hv
  go_enter Tryd.func41, Tryd.ntmps41
  go_wp2_with fail
  refine HC.out.mono ?_
  rintro e w2 ⟨⟨r, rfl, h1, h2, h3⟩, hb2⟩
  have HI := Lib.hid h3
  clear h3 HC
  go_wp2
  go_ret
  exact ⟨⟨decide (0 ≤ r), rfl, decide_eq_true_iff.trans HI.out⟩, hb2⟩


set_option maxHeartbeats 2000000 in
theorem oclosure_any (v : LV) (w : World) (hv : v.At w) (hT : Tabs w) : Calls Tryd.prog 43 #[v.val] w fun e w' => BoolIs (¬ FormedP v.j 6) e ∧ Below w.heap.size w w' := by
  obtain ⟨k, n, s, An, ns, cn, Ai, is, ci⟩ := v
  obtain ⟨W, hW⟩ : ∃ W, W = w.alloc (.cells (valBlk k n s An ns cn Ai is ci) 25) := ⟨_, rfl⟩
  have hB0 : Below w.heap.size w W := by rw [hW]; exact (Below.refl _ _).alloc (Nat.le_refl _) _
  have HJ := Lib.hid (jformed_any (.mk k n s An ns cn Ai is ci) W (hv.below hB0 _) (hT.below hB0))
  have HW := Lib.hid hW
  obtain ⟨P, hP⟩ : ∃ P : Prop, P = FormedP (LV.mk k n s An ns cn Ai is ci).j 6 := ⟨_, rfl⟩
  rw [← hP] at HJ ⊢
  clear hv hT hW hP
  show Calls Tryd.prog 43 #[.agg (valBlk k n s An ns cn Ai is ci)] w _
  go_enter Tryd.func43, Tryd.ntmps43
  go_wp2_with fail
  rw [← HW.out]
  refine HJ.out.mono ?_
  rintro e w2 ⟨⟨bb, rfl, hbb⟩, hb2⟩
  have HBB := Lib.hid hbb
  clear hbb
  cases bb with
  | true =>
    have HB1 := Lib.hid (HBB.out.1 rfl)
    clear HBB
    go_wp2
    go_ret
    exact ⟨BoolIs.no (fun h => h HB1.out), hB0.trans (hb2.mono hB0.size)⟩
  | false =>
    have HB1 : Hid (¬ P) := Lib.hid (fun h => by have := HBB.out.2 h; cases this)
    clear HBB
    go_wp2
    go_ret
    exact ⟨BoolIs.yes HB1.out, hB0.trans (hb2.mono hB0.size)⟩
/-- All of them are formed. -/
def AllF (is : List LV) : Prop := ∀ x ∈ is, FormedP x.j 6
set_option maxHeartbeats 2000000 in
theorem oformed_any (A : Option Addr) (is : List LV) (c : Nat) (w : World) (hT : Tabs w) (hR : RowAt w A is c) :
    Calls Tryd.prog 27 #[.slice A is.length c] w fun e w' => BoolIs (AllF is) e ∧ Below w.heap.size w w' := by
  have hia : LV.AllAt w is := by unfold RowAt LV.At at hR; exact hR.2.2.1
  have HC := Lib.hid (ocontains_any 0 0 ⟨#[]⟩ none [] 0 A is c (fun v => FormedP v.j 6) w hR (fun q h w' hb => oclosure_any _ w' ((LV.allAt.1 hia _ (List.getElem_mem h)).below hb _) (hT.below hb)))
  clear hR hia hT
  go_enter Tryd.func27, Tryd.ntmps27
  go_wp2_with fail
  refine HC.out.mono ?_
  rintro e w2 ⟨⟨bb, rfl, hbb⟩, hb2⟩
  have HBB := Lib.hid hbb
  clear hbb HC
  cases bb with
  | true =>
    have HB1 := Lib.hid (HBB.out.1 rfl)
    clear HBB
    go_wp2
    go_ret
    refine ⟨BoolIs.no (fun h => ?_), hb2⟩
    obtain ⟨x, hx, hn⟩ := HB1.out
    exact hn (h x hx)
  | false =>
    have HB1 : Hid (AllF is) := Lib.hid (fun x hx => Classical.byContradiction fun hn => by have := HBB.out.2 ⟨x, hx, hn⟩; cases this)
    clear HBB
    go_wp2
    go_ret
    exact ⟨BoolIs.yes HB1.out, hb2⟩
/-- What a sort answers: nil where not all are formed; else the values, sorted. -/
def SortedV (is : List LV) (w : World) (e : Ending) (w' : World) : Prop := ∃ (A : Option Addr) (it : List LV) (c : Nat), e = .returned (.slice A it.length c) ∧ RowAt w' A it c ∧ Below w.heap.size w w' ∧
  (¬ AllF is → it = []) ∧ (AllF is → (LV.js it).Perm (LV.js is) ∧ SortOn (LV.js it) 0 it.length)
theorem RowIs.rowAt {w0 w : World} {g c : Nat} {is : List LV} (h : RowIs w0 g is w) (hl : is.length ≤ c ∧ c ≤ 9223372036854775807) : RowAt w (some ⟨g, 0, none⟩) is c :=
  RowAt.mk h.cells (LV.allAt.2 fun v hv => by
    obtain ⟨q, hq, rfl⟩ := List.mem_iff_getElem.1 hv
    rw [← nth_lt hq]
    exact h.at hq) hl
set_option maxHeartbeats 4000000 in
theorem osort_any (A : Option Addr) (is : List LV) (c : Nat) (w : World) (hT : Tabs w) (hR : RowAt w A is c) (hl : is.length ≤ 1000) :
    Calls Tryd.prog 16 #[.slice A is.length c] w (SortedV is w) := by
  have HF := Lib.hid (oformed_any A is c w hT hR)
  have HR := Lib.hid hR
  have HL := Lib.hid hl
  clear hR hT
  go_enter Tryd.func16, Tryd.ntmps16
  go_wp2_with fail
  refine HF.out.mono ?_
  rintro e w2 ⟨⟨bb, rfl, hbb⟩, hb2⟩
  have HBB := Lib.hid hbb
  clear hbb HF
  cases bb with
  | false =>
    have HB1 : Hid (¬ AllF is) := Lib.hid (fun h => by have := HBB.out.2 h; cases this)
    clear HBB
    go_wp2
    go_ret
    exact ⟨none, [], 0, rfl, RowAt.mk Cells.nil trivial ⟨Nat.le_refl _, Nat.zero_le _⟩, hb2, fun _ => rfl, fun h => absurd h HB1.out⟩
  | true =>
    have HB1 := Lib.hid (HBB.out.1 rfl)
    clear HBB
    have HRW := Lib.hid (HR.out.below hb2)
    have HCL := Lib.hid (vclone_any A is c w2 (by have h := HRW.out; unfold RowAt LV.At at h; exact h.2.1) hl)
    go_wp2_with fail
    refine HCL.out.mono ?_
    rintro e w3 ⟨v, rfl, hown, hb3⟩
    have HB3 := Lib.hid (hb2.trans (hb3.mono hb2.size))
    have hia : LV.AllAt w2 is := by have h := HRW.out; unfold RowAt LV.At at h; exact h.2.2.1
    obtain ⟨A3, c3, rfl, g1, g2, gc⟩ := hown.shape
    unfold maxLen at g2
    rcases is with _ | ⟨x, r⟩
    · have HN := Lib.hid (sortf_nil w3 c3 A3)
      clear hown gc hia HCL
      go_wp2_with fail
      refine HN.out.mono ?_
      rintro e w4 ⟨rfl, rfl⟩
      go_wp2
      go_ret
      exact ⟨A3, [], c3, rfl, RowAt.mk Cells.nil trivial ⟨Nat.zero_le _, by omega⟩, HB3.out, fun _ => rfl, fun _ => ⟨.refl _, SortOn.few (by simp)⟩⟩
    · obtain ⟨g, rfl, hg, hrow⟩ := hown.row (by simp) (fun v hv => ⟨(LV.allAt.1 hia v hv).below hb3 _, (LV.At.on v (LV.allAt.1 hia v hv)), 6, HB1.out v hv⟩)
      have HS := Lib.hid (sortf_any w3 w3 g (x :: r).length c3 (x :: r) rfl g1 hl hrow)
      have HG := Lib.hid hg
      have HC3 := Lib.hid (show (x :: r).length ≤ c3 ∧ c3 ≤ 9223372036854775807 from ⟨g1, by omega⟩)
      have HB2 := Lib.hid hb2
      obtain ⟨n, hn⟩ : ∃ n, (x :: r).length = n := ⟨_, rfl⟩
      rw [hn] at HS HC3 ⊢
      have HNN := Lib.hid hn
      clear hown gc hia HCL hrow g1 hn
      go_wp2_with fail
      refine HS.out.mono ?_
      rintro e w4 ⟨rfl, it, h1, h2, h3, h4⟩
      have HX := Lib.hid (show it.length = n ∧ SortOn (LV.js it) 0 n ∧ Moved (LV.js (x :: r)) (LV.js it) 0 n from ⟨h2, h3, h4⟩)
      have HR4 := Lib.hid h1
      clear h1 h2 h3 h4
      go_wp2
      go_ret
      obtain ⟨e1, e2, e3⟩ := HX.out
      refine ⟨some ⟨g, 0, none⟩, it, c3, by rw [e1]; rfl, HR4.out.rowAt (by rw [e1]; exact HC3.out), HB3.out.trans ((HR4.out.done (Nat.le_trans HB2.out.size HG.out))), fun h => absurd HB1.out h, fun _ => ⟨e3.perm, by rw [e1]; exact e2⟩⟩
end Go.Proofs.YtmobolefijneoaaDoor
