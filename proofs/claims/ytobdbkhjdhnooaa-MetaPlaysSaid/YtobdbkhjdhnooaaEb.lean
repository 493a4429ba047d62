/-
  The reference's disk: Read, Write, Sync.
-/
import Derived.Test.YtobdbkhjdhnooaaEs
import Derived.Laws.CopyOwn
import Derived.RegionTactic
set_option linter.unusedVariables false
namespace Go.Proofs.Ytobdbkhjdhnooaa
open Go.RowKit

theorem info_rw : (Try.prog.info? 84).map (fun i => (i.zero, i.size, i.bytes)) = some (some (.agg #[.int .i64 0, .slice none 0 0]), 2, 32) := by kernel_rfl
theorem one8 : (Try.prog.info? 5).map (·.size) = some 1 := by kernel_rfl
theorem applyW_no (c : Int → Option (List Int)) (qs : List (Int × List Int)) (j : Int) (h : ∀ q ∈ qs, q.1 ≠ j) : applyW c qs j = c j := by
  induction qs generalizing c with
  | nil => rfl
  | cons q r ih =>
    show applyW (updC c q.1 q.2) r j = c j
    rw [ih _ (fun x hx => h x (List.mem_cons_of_mem _ hx)), updC, if_neg (fun e => h q (List.mem_cons_self ..) e.symm)]
theorem last_write (qs : List (Int × List Int)) (m : Nat) (hm : m < qs.length) (n : Int) (h : ∀ q ∈ qs.drop (m + 1), q.1 ≠ n) (he : (qs[m]).1 = n) : applyW noC qs n = some (qs[m]).2 := by
  have e : qs = (qs.take m ++ [qs[m]]) ++ qs.drop (m + 1) := by
    rw [← take_snoc' qs m hm, List.take_append_drop]
  have : applyW noC ((qs.take m ++ [qs[m]]) ++ qs.drop (m + 1)) n = some (qs[m]).2 := by
    rw [applyW_app, applyW_no _ _ _ h, applyW_snoc, updC, if_pos he.symm]
  rw [← e] at this
  exact this
theorem KR.trans {a b c : World} (h : KR a b) (k : KR b c) : KR a c :=
  Chg.trans h k fun i hi => by
    rcases Nat.lt_or_ge i a.heap.size with hlt | hge
    · left
      by_cases hr : RB a i
      · exact hr
      · obtain ⟨cur, t, mk, hh, ht⟩ := hi
        rw [h.block i hlt hr] at hh
        exact ⟨cur, t, mk, hh, ht⟩
    · exact .inr hge
theorem KR.drew {w w' : World} (h : KR w w') : KR w w'.drew := ⟨h.os, h.tape, h.output, h.size, h.block⟩
theorem RefOf.below {w w' : World} {B g : Nat} {r : RS} {vp : Value} {ps : List (Int × Value)} (h : RefOf w B g r vp ps) (hb : Below w.heap.size w w') : RefOf w' B g r vp ps := h.keep (BKA.of_below hb) hb.size
theorem rburn_eq {r : RS} (h : r.fuse ≠ 0) : (rburnS r).size = r.size ∧ (rburnS r).a1 = r.a1 ∧ (rburnS r).a2 = r.a2 ∧ (rburnS r).all = r.all ∧ (rburnS r).no = r.no := by
  unfold rburnS
  rw [if_neg h]
  split <;> exact ⟨rfl, rfl, rfl, rfl, rfl⟩

/-- What Read answers. -/
def RReadP (B g : Nat) (r : RS) (n : Int) (w : World) (e : Ending) (w' : World) : Prop :=
  ∃ A c, e = .returned (.tuple #[.slice A (rreadL r n).length c, .int .i64 (rreadE r n).1]) ∧ Bytes w' A (rreadL r n) ∧ RefAt w' B g (rreadE r n).2 ∧ KR w w' ∧ Below B w w' ∧ (rreadL r n).length ≤ c ∧ c ≤ 9223372036854775807
theorem rread_no {B g : Nat} {r : RS} {n x : Int} {w : World} (h : RefAt w B g r) (he : rreadE r n = (x, r)) (hx : x ≠ 0) : RReadP B g r n w (.returned (.tuple #[.slice none 0 0, .int .i64 x])) w := by
  unfold RReadP
  have hl : rreadL r n = [] := by unfold rreadL; rw [he]; exact if_neg hx
  rw [hl, he]
  exact ⟨none, 0, rfl, ⟨Cells.nil, fun ad e => by cases e⟩, h, KR.refl _, Below.refl _ _, by simp, by decide⟩

theorem rread_fin {B g : Nat} {r : RS} {n : Int} {w w3 : World} {l : List Int} {N bz : Nat} (hE : rreadE r n = (0, { r with a0 := wrap64 (r.a0 + 1) })) (hL : rreadL r n = rrd r n) (hl : rrd r n = l) (hN : l.length = N) (hb : w3.heap[bz]? = some (.cells (U8 l).toArray 5 (0, 0)))
    (hm : l.length ≤ maxLen) (hR : RefAt w3 B g { r with a0 := wrap64 (r.a0 + 1) }) (hK : KR w w3) (hB : Below B w w3) : RReadP B g r n w (.returned (.tuple #[.slice (some ⟨bz, 0, none⟩) N N, .int .i64 0])) w3 := by
  unfold RReadP
  rw [hL, hE, hl]
  subst hN
  unfold maxLen at hm
  exact ⟨_, _, rfl, Own.bytes (own_blk (base := 0) hb (Nat.zero_le _) (by unfold maxLen; exact hm)), hR, hK, hB, Nat.le_refl _, by omega⟩

set_option maxHeartbeats 4000000 in
theorem rread_any (B g : Nat) (r : RS) (n : Int) (w : World) (h : RefAt w B g r) (hal : r.all.length ≤ 1000000000) :
    Calls Try.prog 37 #[.pointer (some ⟨g, 0, none⟩), .int .i64 n] w (RReadP B g r n w) := by
  have hh := h
  obtain ⟨vp, ps, h⟩ := h
  have c4 : w.cell? ⟨g, 4, none⟩ = some (.bool r.no) := h.blk.cell 4
  have c0 : w.cell? ⟨g, 0, none⟩ = some (.int .i64 r.size) := h.blk.cell 0
  by_cases hd : r.no = true
  · have HF := Lib.hid (rread_no hh (n := n) (x := 7) (by unfold rreadE; rw [if_pos hd]) (by decide))
    rw [hd] at c4
    clear hd
    go_enter Try.func37, Try.ntmps37
    go_wp2
    go_ret2
    exact HF.out
  have hd' : r.no = false := by simpa using hd
  by_cases hbad : n < 0 ∨ r.size ≤ n
  · have HF := Lib.hid (rread_no hh (n := n) (x := 1) (by unfold rreadE; rw [if_neg hd, if_pos hbad]) (by decide))
    rw [hd'] at c4
    clear hd' hd
    by_cases hn : n < 0
    · clear hbad
      go_enter Try.func37, Try.ntmps37
      go_wp2
      go_ret2
      exact HF.out
    · have hn2 : r.size ≤ n := by
        rcases hbad with x | x
        · exact absurd x hn
        · exact x
      clear hbad
      go_enter Try.func37, Try.ntmps37
      go_wp2
      go_ret2
      exact HF.out
  have hn : ¬ n < 0 := fun x => hbad (.inl x)
  have hn2 : ¬ r.size ≤ n := fun x => hbad (.inr x)
  have HE := Lib.hid (show rreadE r n = (0, { r with a0 := wrap64 (r.a0 + 1) }) by unfold rreadE; rw [if_neg hd, if_neg hbad])
  have HL : Hid (rreadL r n = rrd r n) := Lib.hid (by unfold rreadL; rw [HE.out]; exact if_pos rfl)
  rw [hd'] at c4
  clear hd' hd hbad
  have c5 : w.cell? ⟨g, 5, none⟩ = some (.int .i64 r.a0) := h.blk.cell 5
  have z5 := h.blk.free 5
  have hwr : IntKind.i64.wrap (r.a0 + 1) = wrap64 (r.a0 + 1) := by simp [wrap64, IntKind.wrap_i64]
  have hmk := make256
  go_enter Try.func37, Try.ntmps37
  go_wp2
  go_region
  have h1 : RefOf (w.setCell ⟨g, 5, none⟩ (.int .i64 (wrap64 (r.a0 + 1)))) B g { r with a0 := wrap64 (r.a0 + 1) } vp ps := h.set_ 5 _ rfl rfl
  have hK1 : KR w (w.setCell ⟨g, 5, none⟩ (.int .i64 (wrap64 (r.a0 + 1)))) := h.kr _ _
  have hB1 : Below B w (w.setCell ⟨g, 5, none⟩ (.int .i64 (wrap64 (r.a0 + 1)))) := below_set h.base _ _
  have h1' := h1.below (Below.refl _ _).drew
  have hK1' := hK1.drew
  have hB1' := hB1.drew
  clear h1 hK1 hB1
  generalize (w.setCell ⟨g, 5, none⟩ (.int .i64 (wrap64 (r.a0 + 1)))).drew = W at *
  clear c4 c0 c5 z5 hwr
  obtain ⟨A, c, e, _⟩ := ownsRow_shape h1'.row
  have hp := h1'.pend.len
  have c1 : W.cell? ⟨g, 1, none⟩ = some (.slice A r.all.length c) := by
    have : W.cell? ⟨g, 1, none⟩ = some vp := h1'.blk.cell 1
    rw [this, e, hp]
  have HE' := Lib.hid e
  have HP := Lib.hid hp
  clear e hp
  have hgl := h1'.blk.lt
  go_wp2
  have hb2 : Below W.heap.size W (W.alloc (.cells (U8 zeroSec).toArray 5)) := (Below.refl _ _).alloc (Nat.le_refl _) _
  have hz2 : Blk (W.alloc (.cells (U8 zeroSec).toArray 5)) W.heap.size 5 (U8 zeroSec).toArray := Blk.new W _ _
  have hR2 := h1'.below hb2
  have c12 : (W.alloc (.cells (U8 zeroSec).toArray 5)).cell? ⟨g, 1, none⟩ = some (.slice A r.all.length c) := (hb2.cell (p := ⟨g, 1, none⟩) h1'.blk.lt).trans c1
  clear c1 hmk
  generalize hW2 : W.alloc (.cells (U8 zeroSec).toArray 5) = W2 at *
  clear hW2
  obtain ⟨bz, hbz⟩ : ∃ b, b = W.heap.size := ⟨_, rfl⟩
  rw [← hbz] at hz2
  rw [← hbz]
  have HBZ := Lib.hid hbz
  clear hbz
  obtain ⟨N, hN⟩ : ∃ N : Nat, N = 256 := ⟨_, rfl⟩
  rw [← hN]
  have HN := Lib.hid hN
  clear hN
  go_loop [7] (fun i => ∃ j : Int, i = .int .i64 j ∧ -1 ≤ j ∧ j < r.all.length ∧ Hid (∀ m (hm : m < r.all.length), j < m → (r.all[m]).1 ≠ n)) (fun i => (intOf i + 1).toNat)
  case atStart => exact ⟨_, rfl, by omega, by omega, Lib.hid fun m hm h => by omega⟩
  case round =>
    obtain ⟨j, rfl, hj0, hj1, HJ⟩ := hrel
    by_cases h0 : 0 ≤ j
    · obtain ⟨m, rfl⟩ := Int.eq_ofNat_of_zero_le h0
      have hm : m < r.all.length := by omega
      have hmp : m < ps.length := by have := HP.out; have e2 : { r with a0 := wrap64 (r.a0 + 1) }.all.length = r.all.length := rfl; omega
      obtain ⟨hpa, hsec⟩ := hR2.pend.at_ m hmp hm
      have hcs := (ownsRow_shape hR2.row)
      obtain ⟨A', c', eA, _, _, hcs⟩ := hcs
      have eAA : A' = A := by have := HE'.out; rw [this] at eA; injection eA with x; exact x.symm
      subst eAA
      clear eA
      obtain ⟨b, off, rfl, hbl, hcell⟩ := hcs.form (fun x => by have := flat_len ps; rw [x] at this; simp at this; omega)
      have cA : W2.cell? ⟨b, off + m * 2, none⟩ = some (.int .i64 (r.all[m]).1) := by rw [hcell _ _ (flat_fst hmp)]; exact congrArg (fun x => some (Value.int .i64 x)) hpa
      have cB : W2.cell? ⟨b, off + m * 2 + 1, none⟩ = some (ps[m]).2 := hcell _ _ (flat_snd hmp)
      by_cases he : (r.all[m]).1 = n
      · have hb : ((r.all[m]).1 == n) = true := by simpa using he
        obtain ⟨bs, os, cs, cur, mk, ev, hbs, hc1, hc2, hsc, hsl, hso⟩ := hsec
        have HL2 : Hid (rrd r n = (r.all[m]).2) := Lib.hid (by
          unfold rrd
          rw [last_write r.all m hm n (fun q hq => by
            obtain ⟨i, hi, rfl⟩ := List.getElem_of_mem hq
            rw [List.getElem_drop]
            exact HJ.out _ _ (by omega)) he]
          rfl)
        rw [ev] at cB
        have hlN : (r.all[m]).2.length = N := by rw [HN.out]; exact hsl
        rw [← HN.out] at cB
        have HLN := Lib.hid hlN
        have hz3 : W2.heap[bz]? = some (.cells (U8 zeroSec).toArray 5 (0, 0)) := hz2
        clear he ev hsl hlN hpa
        generalize (r.all[m]).1 = x0 at *
        generalize hll : (r.all[m]).2 = l at *
        clear hll
        have hpos : 0 < (U8 l).length → (some ⟨bz, 0, none⟩ : Option Addr) = some ⟨bz, 0, none⟩ ∧ ∃ ad, (some ⟨bs, os, none⟩ : Option Addr) = some ad ∧ ∀ j v, (U8 l)[j]? = some v → W2.cell? (ad.add j) = some v := fun _ => ⟨rfl, _, rfl, fun j v hj => by rw [add_mk]; exact hsc.known hj⟩
        have HPOS := Lib.hid hpos
        clear hpos
        go_wp2_with (with_reducible refine wpList_copy_splice rfl (.tmp 52) (.tmp 60) 28 28 rfl 5 Try.underlying28 one8 (some ⟨bz, 0, none⟩) (some ⟨bs, os, none⟩) N N N cs rfl rfl bz 0 (U8 zeroSec) 5 hz3 (U8 l) ?c1 HPOS.out ?c2 (one_u8 _) W.heap.size W hb2 ?c3 ?_)
        case c1 => exact HLN.out
        case c2 => rw [HLN.out, HN.out, zeroSec_len]; decide
        case c3 => exact Nat.le_of_eq HBZ.out.symm
        intro w3 HG3 hB3
        go_wp2
        go_ret2
        have hsp : splice (U8 zeroSec) 0 (U8 l) = U8 l := by
          unfold splice
          rw [List.take_zero, List.nil_append, List.drop_eq_nil_of_le (by rw [List.length_map, List.length_map, HLN.out, HN.out, zeroSec_len]; decide), List.append_nil]
        have hG3 := HG3.out
        rw [hsp] at hG3
        have hR3 := h1'.below hB3
        exact rread_fin HE.out HL.out HL2.out HLN.out hG3 (by rw [HLN.out, HN.out]; decide) ⟨vp, ps, hR3⟩ (hK1'.trans (KR.of_below hB3)) (hB1'.trans (hB3.mono (Nat.le_trans h1'.base (Nat.le_of_lt h1'.blk.lt))))
      · have hb : ((r.all[m]).1 == n) = false := by simpa using he
        have HJ' : Hid (∀ m' (hm : m' < r.all.length), ((m : Int) - 1) < m' → (r.all[m']).1 ≠ n) := Lib.hid fun m' hm' hlt => by
          by_cases e : m' = m
          · subst e; exact he
          · exact HJ.out m' hm' (by omega)
        generalize (r.all[m]).1 = x0 at *
        go_wp2
        go_round
        case rel => exact ⟨_, rfl, by omega, by omega, HJ'⟩
        case measure => simp [intOf]
    · have HL2 : Hid (rrd r n = zeroSec) := Lib.hid (by
        unfold rrd
        rw [applyW_no noC r.all n (fun q hq => by
          obtain ⟨i, hi, rfl⟩ := List.getElem_of_mem hq
          exact HJ.out _ _ (by omega))]
        rfl)
      go_wp2
      go_ret2
      exact rread_fin HE.out HL.out HL2.out (by rw [HN.out]; exact zeroSec_len) hz2 (by rw [zeroSec_len]; decide) ⟨vp, ps, hR2⟩ (hK1'.trans (KR.of_below hb2)) (hB1'.trans (hb2.mono (Nat.le_trans h1'.base (Nat.le_of_lt h1'.blk.lt))))

/-- What Write answers. -/
def RWriteP (B g : Nat) (r : RS) (n : Int) (l : List Int) (w : World) (e : Ending) (w' : World) : Prop :=
  e = .returned (.int .i64 (rwriteE r n l).1) ∧ RefAt w' B g (rwriteE r n l).2 ∧ KR w w' ∧ Below B w w'
theorem rwrite_fin {B g : Nat} {r r' : RS} {n x : Int} {l : List Int} {w w' : World} (he : rwriteE r n l = (x, r')) (h : RefAt w' B g r') (hK : KR w w') (hB : Below B w w') : RWriteP B g r n l w (.returned (.int .i64 x)) w' := by
  unfold RWriteP
  rw [he]
  exact ⟨rfl, h, hK, hB⟩
theorem RefOf.wrote {w3 w5 : World} {B g : Nat} {r : RS} {vp v3 v5 : Value} {ps : List (Int × Value)} {n : Int} {l : List Int} (h : RefOf w3 B g r vp ps) (hsec : Sec w3 v3 l)
    (hrow : w5.ownsRow B 84 2 v5 (ps.length + 1) (flat ps ++ [.int .i64 n, v3])) (hG : Grew w3 vp w5 v5) :
    RefOf (w5.setCell ⟨g, 1, none⟩ v5) B g { r with all := r.all ++ [(n, l)] } v5 (ps ++ [(n, v3)]) ∧ KR w3 (w5.setCell ⟨g, 1, none⟩ v5) := by
  have hb5 : Blk w5 g 58 (rcells r vp) := h.blk.grown hG.by_ (fun e => h.ne e.symm)
  have hg : ∀ k, k ≠ g → (w5.setCell ⟨g, 1, none⟩ v5).heap[k]? = w5.heap[k]? := fun k hk => Below.heap_setCell w5 ⟨g, 1, none⟩ v5 k hk
  have hK : KR w3 (w5.setCell ⟨g, 1, none⟩ v5) := by
    refine (Chg.trans (S := RB w3) ((Chg.grown hG.by_).mono fun k hk hv => ?_) (Chg.setCell w5 ⟨g, 1, none⟩ v5) fun i hi => .inl ?_)
    · obtain ⟨cur, hh⟩ := row_block h.row hv
      exact ⟨_, _, _, hh, .inr rfl⟩
    · have hi : i = g := hi
      subst hi
      exact ⟨_, _, _, h.blk, .inl rfl⟩
  have hs : w3.heap.size ≤ (w5.setCell ⟨g, 1, none⟩ v5).heap.size := hK.size
  refine ⟨⟨hb5.set_ 1 v5, h.base, ?_, ?_⟩, hK⟩
  · have hrow' : w5.ownsRow B 84 2 v5 (ps ++ [(n, v3)]).length (flat (ps ++ [(n, v3)])) := by
      rw [flat_app, List.length_append]
      exact hrow
    refine ⟨hrow'.1, ?_⟩
    rcases hrow'.2 with hr | ⟨b, cap, cur, e', hb', hh, rest⟩
    · exact .inl hr
    · refine .inr ⟨b, cap, cur, e', hb', (hg b (fun x => ?_)).trans hh, rest⟩
      subst x
      unfold Blk at hb5
      have hh' : w5.heap[b]? = some (.cells cur 84 (0, 0)) := hh
      rw [hh'] at hb5
      injection hb5 with hb5
      injection hb5 with _ hb5
      exact absurd hb5 (by decide)
  · exact Pend.snoc (hsec.keep hK.bk hs) (h.pend.keep hK.bk hs)

set_option maxHeartbeats 4000000 in
theorem rwrite_any (B g : Nat) (r : RS) (n : Int) (A : Option Addr) (l : List Int) (c : Nat) (w : World) (h : RefAt w B g r) (hf : r.fuse ≤ 9223372036854775807) (hc : Bytes w A l) (ho : Oct l) (hal : r.all.length ≤ 1000000000) (hl : l.length ≤ 9223372036854775807) :
    Calls Try.prog 22 #[.pointer (some ⟨g, 0, none⟩), .int .i64 n, .slice A l.length c] w (RWriteP B g r n l w) := by
  have hh := h
  obtain ⟨vp, ps, h⟩ := h
  have c4 : w.cell? ⟨g, 4, none⟩ = some (.bool r.no) := h.blk.cell 4
  have c0 : w.cell? ⟨g, 0, none⟩ = some (.int .i64 r.size) := h.blk.cell 0
  by_cases hd : r.no = true
  · have HF := Lib.hid (rwrite_fin (w := w) (show rwriteE r n l = (7, r) by unfold rwriteE; rw [if_pos hd]) hh (KR.refl _) (Below.refl _ _))
    rw [hd] at c4
    clear hd
    go_enter Try.func22, Try.ntmps22
    go_wp2
    go_ret
    exact HF.out
  have hd' : r.no = false := by simpa using hd
  by_cases hbad : n < 0 ∨ r.size ≤ n ∨ l.length ≠ 256
  · have HF := Lib.hid (rwrite_fin (w := w) (show rwriteE r n l = (1, r) by unfold rwriteE; rw [if_neg hd, if_pos hbad]) hh (KR.refl _) (Below.refl _ _))
    rw [hd'] at c4
    clear hd' hd
    by_cases hn : n < 0
    · clear hbad
      go_enter Try.func22, Try.ntmps22
      go_wp2
      go_ret
      exact HF.out
    · by_cases hn2 : r.size ≤ n
      · clear hbad
        go_enter Try.func22, Try.ntmps22
        go_wp2
        go_ret
        exact HF.out
      · have hlb : ((l.length : Int) != 256) = true := by
          have : l.length ≠ 256 := by
            rcases hbad with h1 | h1 | h1
            · exact absurd h1 hn
            · exact absurd h1 hn2
            · exact h1
          simp; omega
        clear hbad
        go_enter Try.func22, Try.ntmps22
        go_wp2
        go_ret
        exact HF.out
  have hn : ¬ n < 0 := fun x => hbad (.inl x)
  have hn2 : ¬ r.size ≤ n := fun x => hbad (.inr (.inl x))
  have hl256 : l.length = 256 := by
    rcases Nat.decEq l.length 256 with x | x
    · exact absurd (.inr (.inr x)) hbad
    · exact x
  have hlb : ((l.length : Int) != 256) = false := by simp; omega
  have HL := Lib.hid hl256
  clear hl256
  by_cases hz : r.fuse = 0
  · have hbb : rburnB r = false := by simp [rburnB, hz]
    have HE := Lib.hid (show rwriteE r n l = (7, rburnS r) by unfold rwriteE; rw [if_neg hd, if_neg hbad, if_pos hz])
    rw [hd'] at c4
    clear hd' hd hz hbad
    go_enter Try.func22, Try.ntmps22
    go_wp2_with fail
    refine (rburn_any B g r w hh hf).mono ?_
    rintro e w1 ⟨rfl, h1, hK1, hB1⟩
    rw [hbb]
    go_wp2
    go_ret
    exact rwrite_fin HE.out h1 hK1 hB1
  · have hbb : rburnB r = true := by simp [rburnB, hz]
    have HE := Lib.hid (show rwriteE r n l = (0, rwroteS (rburnS r) n l) by unfold rwriteE; rw [if_neg hd, if_neg hbad, if_neg hz])
    have hba : (rburnS r).all.length ≤ 1000000000 := by rw [(rburn_eq hz).2.2.2.1]; exact hal
    rw [hd'] at c4
    clear hd' hd hz hbad
    go_enter Try.func22, Try.ntmps22
    go_wp2_with fail
    refine (rburn_any B g r w hh hf).mono ?_
    rintro e w1 ⟨rfl, h1, hK1, hB1⟩
    rw [hbb]
    clear h c4 c0 hh
    obtain ⟨vp1, ps1, h1⟩ := h1
    obtain ⟨r1, hr1⟩ : ∃ r1, r1 = rburnS r := ⟨_, rfl⟩
    rw [← hr1] at h1 hba
    have HR1 := Lib.hid hr1
    clear hr1
    have c6 : w1.cell? ⟨g, 6, none⟩ = some (.int .i64 r1.a1) := h1.blk.cell 6
    have z6 := h1.blk.free 6
    have hwr : IntKind.i64.wrap (r1.a1 + 1) = wrap64 (r1.a1 + 1) := by simp [wrap64, IntKind.wrap_i64]
    go_wp2
    go_region
    have h2 : RefOf (w1.setCell ⟨g, 6, none⟩ (.int .i64 (wrap64 (r1.a1 + 1)))).drew B g { r1 with a1 := wrap64 (r1.a1 + 1) } vp1 ps1 := (h1.set_ (r' := { r1 with a1 := wrap64 (r1.a1 + 1) }) 6 _ rfl rfl).below (Below.refl _ _).drew
    have hK2 : KR w (w1.setCell ⟨g, 6, none⟩ (.int .i64 (wrap64 (r1.a1 + 1)))).drew := (hK1.trans (h1.kr _ _)).drew
    have hB2 : Below B w (w1.setCell ⟨g, 6, none⟩ (.int .i64 (wrap64 (r1.a1 + 1)))).drew := (hB1.trans (below_set h1.base _ _)).drew
    generalize (w1.setCell ⟨g, 6, none⟩ (.int .i64 (wrap64 (r1.a1 + 1)))).drew = W at *
    clear c6 z6 hwr
    have hcW := (hc.keep hK2.bk).1
    have hl8 : l.length ≤ 100000000 := by rw [HL.out]; decide
    have hps1 : ps1.length ≤ 1000000000 := by have := h2.pend.len; have e2 : { r1 with a1 := wrap64 (r1.a1 + 1) }.all.length = r1.all.length := rfl; omega
    go_wp2_with (first | (at_builtin; refine app_any rfl (.tmp 39) (.tmp 40) rfl W.heap.size _ [] rfl (Own.nil _ _) W.heap.size A c l rfl hcW (by simp; omega) (Nat.le_refl _) ?_; intro v3 w3 hown3 hg3; have hb3 := hg3.below (Own.nil W W.heap.size) (Nat.le_refl _); have h3 := h2.below hb3; have c13 : w3.cell? ⟨g, 1, none⟩ = some vp1 := h3.blk.cell 1; have z13 := h3.blk.free 1; have hg3l := h3.blk.lt; have hown3' := own_as hown3 (List.nil_append l); obtain ⟨A3, c3', e3, _⟩ := hown3'.shape; subst e3; clear hown3 hg3) | (at_builtin; refine appG_anyS Try.underlying55 info_rw rfl (by decide) rfl (.tmp 46) (.tmp 50) rfl B vp1 ps1.length (flat ps1) rfl (h3.row.alloc _) _ _ 1 1 [.int .i64 n, .slice A3 l.length c3'] rfl (cells_blk w3 _ _) (by simp) (by intro u hu; simp at hu; rcases hu with rfl | rfl <;> rfl) (by unfold maxLen; omega) (by omega) (by have := h3.base; simp; omega) ?_; intro A5 c5 w5 hrow5 hg5; have hG5 := Grew.trans (Grew.alloc (v := vp1) _) hg5; have hb5 : Blk w5 g 58 (rcells { r1 with a1 := wrap64 (r1.a1 + 1) } vp1) := h3.blk.grown hG5.by_ (fun e => h3.ne e.symm); have c15 : w5.cell? ⟨g, 1, none⟩ = some vp1 := hb5.cell 1; have z15 := hb5.free 1))
    go_ret
    obtain ⟨k1, k2⟩ := h3.wrote (own_sec hown3' HL.out ho) hrow5 hG5
    have hK3 := hK2.trans (KR.of_below hb3)
    have hB3 : Below B w w3 := hB2.trans (hb3.mono (Nat.le_trans h2.base (Nat.le_of_lt h2.blk.lt)))
    have hBk : Below B w3 (w5.setCell ⟨g, 1, none⟩ (.slice A5 (ps1.length + 1) c5)) := ((Below.refl B w3).grown hG5.by_ (Nat.le_trans h3.base (Nat.le_of_lt h3.blk.lt)) fun k hk => (h3.row.lt k hk).1).trans (below_set h3.base _ _)
    exact rwrite_fin (HE.out.trans (by rw [← HR1.out]; rfl)) ⟨_, _, k1⟩ (hK3.trans k2) (hB3.trans hBk)

/-- What Sync answers. -/
def RSyncP (B g : Nat) (r : RS) (w : World) (e : Ending) (w' : World) : Prop :=
  e = .returned (.int .i64 (rsyncE r).1) ∧ RefAt w' B g (rsyncE r).2 ∧ KR w w' ∧ Below B w w'
theorem rsync_fin {B g : Nat} {r r' : RS} {x : Int} {w w' : World} (he : rsyncE r = (x, r')) (h : RefAt w' B g r') (hK : KR w w') (hB : Below B w w') : RSyncP B g r w (.returned (.int .i64 x)) w' := by
  unfold RSyncP
  rw [he]
  exact ⟨rfl, h, hK, hB⟩
set_option maxHeartbeats 4000000 in
theorem rsync_any (B g : Nat) (r : RS) (w : World) (h : RefAt w B g r) (hf : r.fuse ≤ 9223372036854775807) (hal : r.all.length ≤ 1000000000) :
    Calls Try.prog 34 #[.pointer (some ⟨g, 0, none⟩)] w (RSyncP B g r w) := by
  have hh := h
  obtain ⟨vp, ps, h⟩ := h
  have c4 : w.cell? ⟨g, 4, none⟩ = some (.bool r.no) := h.blk.cell 4
  by_cases hd : r.no = true
  · have HF := Lib.hid (rsync_fin (w := w) (show rsyncE r = (7, r) by unfold rsyncE; rw [if_pos hd]) hh (KR.refl _) (Below.refl _ _))
    rw [hd] at c4
    clear hd
    go_enter Try.func34, Try.ntmps34
    go_wp2
    go_ret
    exact HF.out
  have hd' : r.no = false := by simpa using hd
  by_cases hz : r.fuse = 0
  · have hbb : rburnB r = false := by simp [rburnB, hz]
    have HE := Lib.hid (show rsyncE r = (7, rburnS r) by unfold rsyncE; rw [if_neg hd, if_pos hz])
    rw [hd'] at c4
    clear hd' hd hz
    go_enter Try.func34, Try.ntmps34
    go_wp2_with fail
    refine (rburn_any B g r w hh hf).mono ?_
    rintro e w1 ⟨rfl, h1, hK1, hB1⟩
    rw [hbb]
    go_wp2
    go_ret
    exact rsync_fin HE.out h1 hK1 hB1
  · have hbb : rburnB r = true := by simp [rburnB, hz]
    have HE := Lib.hid (show rsyncE r = (0, rsyncedS (rburnS r)) by unfold rsyncE; rw [if_neg hd, if_neg hz])
    have hba : (rburnS r).all.length ≤ 1000000000 := by rw [(rburn_eq hz).2.2.2.1]; exact hal
    rw [hd'] at c4
    clear hd' hd hz
    go_enter Try.func34, Try.ntmps34
    go_wp2_with fail
    refine (rburn_any B g r w hh hf).mono ?_
    rintro e w1 ⟨rfl, h1, hK1, hB1⟩
    rw [hbb]
    clear h c4 hh
    obtain ⟨vp1, ps1, h1⟩ := h1
    obtain ⟨r1, hr1⟩ : ∃ r1, r1 = rburnS r := ⟨_, rfl⟩
    rw [← hr1] at h1 hba
    have HR1 := Lib.hid hr1
    clear hr1
    have c7 : w1.cell? ⟨g, 7, none⟩ = some (.int .i64 r1.a2) := h1.blk.cell 7
    have z7 := h1.blk.free 7
    have hwr : IntKind.i64.wrap (r1.a2 + 1) = wrap64 (r1.a2 + 1) := by simp [wrap64, IntKind.wrap_i64]
    go_wp2
    go_region
    have h2 : RefOf (w1.setCell ⟨g, 7, none⟩ (.int .i64 (wrap64 (r1.a2 + 1)))).drew B g { r1 with a2 := wrap64 (r1.a2 + 1) } vp1 ps1 := (h1.set_ (r' := { r1 with a2 := wrap64 (r1.a2 + 1) }) 7 _ rfl rfl).below (Below.refl _ _).drew
    have hK2 : KR w (w1.setCell ⟨g, 7, none⟩ (.int .i64 (wrap64 (r1.a2 + 1)))).drew := (hK1.trans (h1.kr _ _)).drew
    have hB2 : Below B w (w1.setCell ⟨g, 7, none⟩ (.int .i64 (wrap64 (r1.a2 + 1)))).drew := (hB1.trans (below_set h1.base _ _)).drew
    generalize (w1.setCell ⟨g, 7, none⟩ (.int .i64 (wrap64 (r1.a2 + 1)))).drew = W at *
    clear c7 z7 hwr
    obtain ⟨A, c, e, _⟩ := ownsRow_shape h2.row
    have hp := h2.pend.len
    have c1 : W.cell? ⟨g, 1, none⟩ = some (.slice A r1.all.length c) := by
      have : W.cell? ⟨g, 1, none⟩ = some vp1 := h2.blk.cell 1
      rw [this, e, hp]
    have c2 : W.cell? ⟨g, 2, none⟩ = some (.int .i64 r1.lasts) := h2.blk.cell 2
    have z2 := h2.blk.free 2
    clear e hp
    go_wp2
    go_ret
    have h3 : RefOf (W.setCell ⟨g, 2, none⟩ (.int .i64 (r1.all.length : Nat))) B g (rsyncedS r1) vp1 ps1 := h2.set_ 2 _ rfl rfl
    exact rsync_fin (HE.out.trans (by rw [HR1.out])) ⟨vp1, ps1, h3⟩ (hK2.trans (h2.kr _ _)) (hB2.trans (below_set h2.base _ _))
end Go.Proofs.Ytobdbkhjdhnooaa
