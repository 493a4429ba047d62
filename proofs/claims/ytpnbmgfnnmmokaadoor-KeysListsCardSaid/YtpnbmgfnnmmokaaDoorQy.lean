/-
  A value under construction (the reference's reader); the contract of munimentref04.members.
-/
import Derived.Test.YtpnbmgfnnmmokaaDoorQw
import Derived.Test.YtpnbmgfnnmmokaaDoorQx
set_option linter.unusedVariables false
namespace Go.Proofs.YtpnbmgfnnmmokaaDoor
open Go.RowKit

/-- The blocks of an item: none of those that are written. -/
def OffB (bs : Nat) (vn vi : Value) (k : Nat) : Prop := bs ≤ k ∧ some k ≠ vn.ownBlock ∧ some k ≠ vi.ownBlock
/-- A value under construction: its block go, the result's block gr, its rows from bs on. -/
structure MvS (w0 wr : World) (gr go bs : Nat) (k n : Int) (s : ByteArray) (vn vi : Value) (ns : List ByteArray) (is : List LV) : Prop where
  res : Blk wr gr 25 zeroBlk
  v : Blk wr go 25 #[.int .i64 k, .int .i64 n, .string s, vn, vi]
  on : SOwn wr bs vn ns
  oi : VOwn wr bs vi is
  its : ∀ x ∈ is, x.At wr ∧ x.On (OffB bs vn vi)
  lt : bs ≤ wr.heap.size
  lg : w0.heap.size ≤ go
  lr : w0.heap.size ≤ gr
  hg : go < bs
  hr : gr < bs
  ne : go ≠ gr
  b : Below w0.heap.size w0 wr
section
variable {w0 wr w2 : World} {gr go bs : Nat} {k n : Int} {s : ByteArray} {vn vi u : Value} {ns ns' : List ByteArray} {is is' : List LV}
theorem MvS.fresh (hres : Blk wr gr 25 zeroBlk) (hv : Blk wr go 25 #[.int .i64 k, .int .i64 n, .string s, .slice none 0 0, .slice none 0 0]) (hl : bs ≤ wr.heap.size) (h1 : w0.heap.size ≤ go) (h2 : w0.heap.size ≤ gr) (h3 : go < bs) (h4 : gr < bs) (h5 : go ≠ gr) (hb : Below w0.heap.size w0 wr) :
    MvS w0 wr gr go bs k n s (.slice none 0 0) (.slice none 0 0) [] [] := ⟨hres, hv, SOwn.nil _ _, VOwn.nil _ _, (fun x hx => by cases hx), hl, h1, h2, h3, h4, h5, hb⟩
/-- Nothing that was is another. -/
theorem MvS.below (h : MvS w0 wr gr go bs k n s vn vi ns is) (hb : Below wr.heap.size wr w2) : MvS w0 w2 gr go bs k n s vn vi ns is := by
  have h1 := h.lt; have h2 := h.hg; have h3 := h.hr
  exact ⟨h.res.below hb (by omega), h.v.below hb (by omega), h.on.below hb, h.oi.below hb, fun x hx => ⟨LV.At.below hb x (h.its x hx).1, (h.its x hx).2⟩, Nat.le_trans h1 hb.size, h.lg, h.lr, h2, h3, h.ne, h.b.trans (hb.mono h.b.size)⟩
theorem MvS.alloc (h : MvS w0 wr gr go bs k n s vn vi ns is) (o : Obj) : MvS w0 (wr.alloc o) gr go bs k n s vn vi ns is := h.below ((Below.refl _ _).alloc (Nat.le_refl _) o)
theorem MvS.drew (h : MvS w0 wr gr go bs k n s vn vi ns is) : MvS w0 wr.drew gr go bs k n s vn vi ns is := h.below (Below.refl _ _).drew
/-- The names have grown. -/
theorem MvS.names (h : MvS w0 wr gr go bs k n s vn vi ns is) (hO : SOwn w2 bs u ns') (hG : Grew wr vn w2 u) : MvS w0 (w2.setCell ⟨go, 3, none⟩ u) gr go bs k n s u vi ns' is := by
  have lg := h.lg; have lr := h.lr; have hg := h.hg; have hr := h.hr; have ne := h.ne
  have g2 := h.res.grew h.on (by omega) hG
  have g3 := h.v.grew h.on (by omega) hG
  have hi : VOwn w2 bs vi is := owns_grown h.oi hG.by_ (owns_apart h.oi h.on (by decide))
  have g4 := g3.set_ 3 u
  have hst := Chg.setCell w2 ⟨go, 3, none⟩ u
  refine ⟨g2.far (by show gr ≠ go; omega) _, by simpa using g4, owns_store hO (by omega) _ _, owns_store hi (by omega) _ _, fun x hx => ?_, Nat.le_trans (Nat.le_trans h.lt hG.by_.size) hst.size, lg, lr, hg, hr, ne, ?_⟩
  · obtain ⟨a1, a2⟩ := h.its x hx
    have a3 := LV.On.and x a2 a1.on
    have a4 : x.At w2 := LV.At.move (S := OffB bs vn vi) (fun k hk hl => hG.by_.block k hl hk.2.1) hG.by_.size x a1 a2
    exact ⟨LV.At.move (S := OffB bs vn vi) (fun k hk hl => hst.block k hl (by have := hk.1; show ¬ k = go; omega)) hst.size x a4 a2, LV.On.mono (fun k hk => ⟨hk.1.1, own_new hG hk.2 hk.1.2.1, hk.1.2.2⟩) x a3⟩
  · have hb : Below w0.heap.size wr (w2.setCell ⟨go, 3, none⟩ u) := ((grew_below h.on h.lt hG).mono (by omega)).setCell (p := ⟨go, 3, none⟩) (by show w0.heap.size ≤ go; omega) _
    exact h.b.trans hb
/-- The items have grown by one. -/
theorem MvS.items (h : MvS w0 wr gr go bs k n s vn vi ns is) {x : LV} (hO : VOwn w2 bs u (is ++ [x])) (hG : Grew wr vi w2 u) (hx : x.At wr) (hx2 : x.On (OffB bs vn vi)) : MvS w0 (w2.setCell ⟨go, 4, none⟩ u) gr go bs k n s vn u ns (is ++ [x]) := by
  have lg := h.lg; have lr := h.lr; have hg := h.hg; have hr := h.hr; have ne := h.ne
  have g2 := h.res.grew h.oi (by omega) hG
  have g3 := h.v.grew h.oi (by omega) hG
  have hi : SOwn w2 bs vn ns := owns_grown h.on hG.by_ (owns_apart h.on h.oi (by decide))
  have g4 := g3.set_ 4 u
  have hst := Chg.setCell w2 ⟨go, 4, none⟩ u
  refine ⟨g2.far (by show gr ≠ go; omega) _, by simpa using g4, owns_store hi (by omega) _ _, owns_store hO (by omega) _ _, fun y hy => ?_, Nat.le_trans (Nat.le_trans h.lt hG.by_.size) hst.size, lg, lr, hg, hr, ne, ?_⟩
  · have hy' : y.At wr ∧ y.On (OffB bs vn vi) := by
      rcases List.mem_append.1 hy with hy | hy
      · exact h.its y hy
      · rw [List.mem_singleton.1 hy]; exact ⟨hx, hx2⟩
    obtain ⟨a1, a2⟩ := hy'
    have a3 := LV.On.and y a2 a1.on
    have a4 : y.At w2 := LV.At.move (S := OffB bs vn vi) (fun k hk hl => hG.by_.block k hl hk.2.2) hG.by_.size y a1 a2
    exact ⟨LV.At.move (S := OffB bs vn vi) (fun k hk hl => hst.block k hl (by have := hk.1; show ¬ k = go; omega)) hst.size y a4 a2, LV.On.mono (fun k hk => ⟨hk.1.1, hk.1.2.1, own_new hG hk.2 hk.1.2.2⟩) y a3⟩
  · have hb : Below w0.heap.size wr (w2.setCell ⟨go, 4, none⟩ u) := ((grew_below h.oi h.lt hG).mono (by omega)).setCell (p := ⟨go, 4, none⟩) (by show w0.heap.size ≤ go; omega) _
    exact h.b.trans hb
/-- A number or a text was stored. -/
theorem MvS.cell (h : MvS w0 wr gr go bs k n s vn vi ns is) (i : Nat) (u : Value) {k' n' : Int} {s' : ByteArray} (he : (#[.int .i64 k, .int .i64 n, .string s, vn, vi] : Array Value).setIfInBounds i u = #[.int .i64 k', .int .i64 n', .string s', vn, vi]) : MvS w0 (wr.setCell ⟨go, i, none⟩ u) gr go bs k' n' s' vn vi ns is := by
  have lg := h.lg; have lr := h.lr; have hg := h.hg; have hr := h.hr; have ne := h.ne
  have hst := Chg.setCell wr ⟨go, i, none⟩ u
  have g4 := h.v.set_ i u
  rw [he] at g4
  exact ⟨h.res.far (by show gr ≠ go; omega) _, g4, owns_store h.on (by omega) _ _, owns_store h.oi (by omega) _ _,
    fun x hx => ⟨LV.At.move (S := OffB bs vn vi) (fun k hk hl => hst.block k hl (by have := hk.1; show ¬ k = go; omega)) hst.size x (h.its x hx).1 (h.its x hx).2, (h.its x hx).2⟩,
    Nat.le_trans h.lt hst.size, lg, lr, hg, hr, ne, h.b.setCell (p := ⟨go, i, none⟩) (by show w0.heap.size ≤ go; omega) _⟩
theorem MvS.done {An : Option Addr} {cn : Nat} {Ai : Option Addr} {ci : Nat} (h : MvS w0 wr gr go bs k n s (.slice An ns.length cn) (.slice Ai is.length ci) ns is) {W9 : World} (hW : Chg wr W9 (fun k => k = gr)) (hk : -9223372036854775808 ≤ k ∧ k ≤ 9223372036854775807) (hn : -9223372036854775808 ≤ n ∧ n ≤ 9223372036854775807)
    (hs : s.size ≤ 9223372036854775807) (hns : ∀ t ∈ ns, t.size ≤ 9223372036854775807) :
    (LV.mk k n s An ns cn Ai is ci).At W9 ∧ (LV.mk k n s An ns cn Ai is ci).On (fun k => w0.heap.size ≤ k) ∧ Below w0.heap.size w0 W9 := by
  have lg := h.lg; have lr := h.lr; have hg := h.hg; have hr := h.hr; have ne := h.ne
  have h1 : SOwn W9 bs (.slice An ns.length cn) ns := row_chgP h.on hW (by omega)
  have h2 : VOwn W9 bs (.slice Ai is.length ci) is := row_chgP h.oi hW (by omega)
  obtain ⟨c1, c2, c3, _⟩ := h1.cells
  obtain ⟨d1, d2, d3, _⟩ := h2.cells
  unfold maxLen at c3 d3
  refine ⟨?_, ?_, h.b.trans (hW.below h.b.size fun i hi => by omega)⟩
  · unfold LV.At
    refine ⟨c1, d1, LV.allAt.2 fun y hy => ?_, hk, hn, hs, hns, ⟨c2, by omega⟩, ⟨d2, by omega⟩⟩
    obtain ⟨a1, a2⟩ := h.its y hy
    exact LV.At.move (S := OffB bs (.slice An ns.length cn) (.slice Ai is.length ci)) (fun b hb hl => hW.block b hl (by have := hb.1; omega)) hW.size _ a1 a2
  · unfold LV.On
    refine ⟨fun a ha _ => ?_, fun a ha _ => ?_, LV.allOn.2 fun y hy => LV.On.mono (fun b hb => by have := hb.1; omega) _ (h.its y hy).2⟩
    · have := own_blk h.on ha; omega
    · have := own_blk h.oi ha; omega
theorem MvS.off (h : MvS w0 wr gr go bs k n s vn vi ns is) {x : LV} (hx : x.On (fun k => wr.heap.size ≤ k)) : x.On (OffB bs vn vi) :=
  LV.On.mono (fun k hk => ⟨by have := h.lt; omega, own_lt h.on hk, own_lt h.oi hk⟩) x hx
end
/-- What value answers. -/
def RvIs (wh w0 : World) (X : Option (JV × List Int)) (e : Ending) (w' : World) : Prop := match X with
  | none => ∃ (z : LV) (A : Option Addr) (n c : Nat), e = .returned (.tuple #[z.val, .slice A n c, .bool false])
  | some (j, t) => ∃ (z : LV) (A : Option Addr) (c : Nat), e = .returned (.tuple #[z.val, .slice A t.length c, .bool true]) ∧ z.At w' ∧ z.On (fun k => w0.heap.size ≤ k) ∧ z.j = j ∧ BRow wh A c t
theorem BRow.chgB {w w' : World} {A : Option Addr} {c : Nat} {b : List Int} (h : BRow w A c b) {B : Nat} (hB : w.heap.size ≤ B) (hb : Below B w w') : BRow w' A c b := h.below (hb.mono hB)
theorem getB_len : ∀ (n : Nat) {b s t : List Int}, b.length ≤ n → getB b = some (s, t) → t.length ≤ b.length
  | 0, b, s, t, hn, h => by
    have e : b = [] := List.eq_nil_of_length_eq_zero (by omega)
    rw [e] at h; cases h
  | n + 1, [], s, t, hn, h => by cases h
  | n + 1, [_], s, t, hn, h => by cases h
  | n + 1, c :: d :: r, s, t, hn, h => by
    rw [getB] at h
    simp only [List.length_cons] at hn ⊢
    split at h
    · split at h
      · injection h with h; injection h with h1 h2; subst h2; omega
      · split at h
        · split at h
          · cases h
          · rename_i hg
            injection h with h; injection h with h1 h2; subst h2
            have := getB_len n (by omega) hg; omega
        · cases h
    · split at h
      · cases h
      · rename_i hg
        injection h with h; injection h with h1 h2; subst h2
        have := getB_len n (b := d :: r) (by simp only [List.length_cons]; omega) hg
        simp only [List.length_cons] at this; omega
theorem getB_taken : ∀ (n : Nat) {b s t : List Int}, b.length ≤ n → getB b = some (s, t) → s.length ≤ b.length
  | 0, b, s, t, hn, h => by
    have e : b = [] := List.eq_nil_of_length_eq_zero (by omega)
    rw [e] at h; cases h
  | n + 1, [], s, t, hn, h => by cases h
  | n + 1, [_], s, t, hn, h => by cases h
  | n + 1, c :: d :: r, s, t, hn, h => by
    rw [getB] at h
    simp only [List.length_cons] at hn ⊢
    split at h
    · split at h
      · injection h with h; injection h with h1 h2; subst h1; simp
      · split at h
        · split at h
          · cases h
          · rename_i hg
            injection h with h; injection h with h1 h2; subst h1
            have := getB_taken n (by omega) hg
            simp only [List.length_cons]; omega
        · cases h
    · split at h
      · cases h
      · rename_i hg
        injection h with h; injection h with h1 h2; subst h1
        have := getB_taken n (b := d :: r) (by simp only [List.length_cons]; omega) hg
        simp only [List.length_cons] at this ⊢; omega
theorem memG_len {f : List Int → Option (JV × List Int)} {ob : Bool} (hf : ∀ b j t, f b = some (j, t) → t.length ≤ b.length) : ∀ (n : Nat) {b : List Int} {ns : List ByteArray} {is : List JV} {z : List Int}, memG false f ob n b = some (ns, is, z) → z.length ≤ b.length
  | 0, b, ns, is, z, h => by simp [memG] at h
  | n + 1, [], ns, is, z, h => by simp [memG] at h
  | n + 1, c :: r, ns, is, z, h => by
    rw [memG] at h
    split at h
    · simp at h; rw [← h.2.2]; simp
    · split at h
      · split at h
        · cases h
        · split at h
          · cases h
          · rename_i hg
            split at h
            · cases h
            · rename_i hx
              split at h
              · cases h
              · rename_i hm
                injection h with h; injection h with h1 h2; injection h2 with h2 h3; subst h3
                rw [getG_false] at hg
                have a1 := getB_len _ (Nat.le_refl _) hg
                have a2 := hf _ _ _ hx
                have a3 := memG_len hf n hm
                simp only [List.length_cons]; omega
      · split at h
        · cases h
        · rename_i hx
          split at h
          · cases h
          · rename_i hm
            injection h with h; injection h with h1 h2; injection h2 with h2 h3; subst h3
            have a2 := hf _ _ _ hx
            have a3 := memG_len hf n hm
            omega
theorem valG_len : ∀ (l : Nat) (b : List Int) (j : JV) (t : List Int), valG false l b = some (j, t) → t.length ≤ b.length
  | 0, b, j, t, h => by cases h
  | l + 1, [], j, t, h => by cases h
  | l + 1, c :: r, j, t, h => by
    rw [valG] at h
    simp only [List.length_cons]
    split at h
    · cases h
    · split at h
      · split at h
        · cases h
        · injection h with h; injection h with h1 h2; subst h2; rw [List.length_drop]; omega
      · split at h
        · split at h
          · cases h
          · rename_i hg
            injection h with h; injection h with h1 h2; subst h2
            rw [getG_false] at hg
            have := getB_len _ (Nat.le_refl _) hg; omega
        · split at h
          · split at h
            · cases h
            · rename_i hm
              injection h with h; injection h with h1 h2; subst h2
              have := memG_len (valG_len l) _ hm; omega
          · injection h with h; injection h with h1 h2; subst h2; omega
set_option maxRecDepth 8000 in
set_option maxHeartbeats 16000000 in
theorem members5 (wh : World) (l : Nat) (A : Option Addr) (c : Nat) (b : List Int) (w : World) (hB : BRow wh A c b) (h0 : Below wh.heap.size wh w) (hl : b.length ≤ 10000000000000) (hl6 : l ≤ 100) (IH : ∀ A c b w, BRow wh A c b → Below wh.heap.size wh w → b.length ≤ 10000000000000 → Calls Tryd.prog 30 #[.slice A b.length c, .int .i64 l] w fun e w' => RvIs wh w (valG false l b) e w' ∧ Below w.heap.size w w') :
    Calls Tryd.prog 49 #[.agg #[.int .i64 5, .int .i64 0, .string ⟨#[]⟩, .slice none 0 0, .slice none 0 0], .slice A b.length c, .int .i64 ((l : Int) + 1)] w fun e w' => RvIs wh w (rowJ 5 (memG false (valG false l) false 25 b)) e w' ∧ Below w.heap.size w w' := by
  obtain ⟨X, hX⟩ : ∃ X, memG false (valG false l) false 25 b = X := ⟨_, rfl⟩
  have HX : Hid (joinM [] (LV.js []) (memG false (valG false l) false (25 - ([] : List LV).length) b) = X) := Lib.hid (by rw [LV.js, joinM_start]; exact hX)
  rw [hX]
  have HIH := Lib.hid IH
  have HB0 := Lib.hid hB
  obtain ⟨N, hN⟩ : ∃ N, b.length = N := ⟨_, rfl⟩
  have HN := Lib.hid hN
  rw [hN] at hl ⊢
  have hwl : IntKind.i64.wrap (l : Int) = (l : Int) := by rw [IntKind.wrap_i64]; omega
  have hsub : (l : Int) + 1 - 1 = (l : Int) := by omega
  clear hB hN hX IH
  obtain ⟨W, hW⟩ : ∃ W, W = (w.alloc (.cells #[.int .i64 5, .int .i64 0, .string ⟨#[]⟩, .slice none 0 0, .slice none 0 0] 25)).alloc (.cells zeroBlk 25) := ⟨_, rfl⟩
  obtain ⟨go, hgo⟩ : ∃ g, w.heap.size = g := ⟨_, rfl⟩
  have hM0 : MvS w W (go + 1) go (go + 2) 5 0 ⟨#[]⟩ (.slice none 0 0) (.slice none 0 0) [] [] := MvS.fresh (by rw [hW, ← hgo]; exact Blk.second w _ _ _) (by rw [hW, ← hgo]; exact (Blk.new w _ _).alloc _) (by rw [hW]; simp; omega) (by omega) (by omega) (by omega) (by omega) (by omega) (by rw [hW]; exact ((Below.refl _ _).alloc (Nat.le_refl _) _).alloc (by simp) _)
  have HW := Lib.hid hW
  have HGO := Lib.hid hgo
  obtain ⟨gr, hgr⟩ : ∃ g, go + 1 = g := ⟨_, rfl⟩
  have HGR := Lib.hid hgr
  rw [hgr] at hM0
  clear hW
  go_enter Tryd.func49, Tryd.ntmps49
  go_upto_region 1 with fail
  first | rw [← HW.out, hgo, hgr] | rw [← HW.out, hgr] | rw [← HW.out, hgo] | rw [← HW.out]
  clear hgo hgr
  go_wp2
  go_loopw [1, 9, 10, 11, 12, 13, 14] (fun u s9 s10 s11 s12 s13 s14 wr => ∃ (A' : Option Addr) (c' n : Nat) (cur : List Int) (vn vi : Value) (ns : List ByteArray) (is : List LV), u = .slice A' n c' ∧ Hid (cur.length = n) ∧ n ≤ N ∧ BRow wh A' c' cur ∧ MvS w wr gr go (go + 2) 5 0 ⟨#[]⟩ vn vi ns is ∧ is.length ≤ 25 ∧ ns.length ≤ is.length ∧ (∀ t ∈ ns, t.size ≤ 9223372036854775807) ∧ Hid (joinM ns (LV.js is) (memG false (valG false l) false (25 - is.length) cur) = X))
    (fun _ _ _ _ _ _ _ wr => 30 - lenAt wr ⟨go, 4, none⟩)
  case atStart => exact ⟨A, c, N, b, _, _, [], [], rfl, HN, Nat.le_refl _, HB0.out, hM0, by simp, by simp, by simp, HX⟩
  case round =>
    obtain ⟨A', c', n, cur, vn, vi, ns, is, rfl, HL, hn, hR, hM, hi25, hnn, hnsz, HJ⟩ := hrel
    clear hM0
    have hcc := hR.len
    rw [HL.out] at hcc
    have hcm := hR.cap
    have hm0 : lenAt wr ⟨go, 4, none⟩ = is.length := by
      have e1 : wr.cell? ⟨go, 4, none⟩ = some vi := hM.v.cell 4
      obtain ⟨A', c', rfl, _⟩ := hM.oi.shape
      unfold lenAt; rw [e1]; rfl
    obtain ⟨An, cn, rfl, _, hcn, _⟩ := hM.on.shape
    obtain ⟨Ai, ci, rfl, _, hci, _⟩ := hM.oi.shape
    have HBW := Lib.hid hM.b
    have u4 : wr.cell? ⟨go, 4, none⟩ = some (.slice Ai is.length ci) := hM.v.cell 4
    by_cases hn0 : n = 0
    · have hI : ¬ (0 : Int) < (n : Int) := by omega
      have hcur : cur = [] := List.eq_nil_of_length_eq_zero (by rw [HL.out]; exact hn0)
      have HE : Hid (X = none) := Lib.hid (by rw [← HJ.out, hcur]; cases 25 - is.length with
        | zero => exact joinM_overB
        | succ m => exact joinM_nil)
      subst hcur
      clear hn0 u4
      obtain ⟨e0, e1, e2, e3, e4⟩ : wr.cell? ⟨go, 0, none⟩ = some (.int .i64 5) ∧ wr.cell? ⟨go, 1, none⟩ = some (.int .i64 0) ∧ wr.cell? ⟨go, 2, none⟩ = some (.string ⟨#[]⟩) ∧ wr.cell? ⟨go, 3, none⟩ = some (.slice An ns.length cn) ∧ wr.cell? ⟨go, 4, none⟩ = some (.slice Ai is.length ci) := ⟨hM.v.cell 0, hM.v.cell 1, hM.v.cell 2, hM.v.cell 3, hM.v.cell 4⟩
      obtain ⟨x0, x1, x2, x3, x4⟩ : wr.cell? ⟨gr, 0, none⟩ = some (.int .i64 0) ∧ wr.cell? ⟨gr, 1, none⟩ = some (.int .i64 0) ∧ wr.cell? ⟨gr, 2, none⟩ = some (.string ⟨#[]⟩) ∧ wr.cell? ⟨gr, 3, none⟩ = some (.slice none 0 0) ∧ wr.cell? ⟨gr, 4, none⟩ = some (.slice none 0 0) := ⟨hM.res.cell 0, hM.res.cell 1, hM.res.cell 2, hM.res.cell 3, hM.res.cell 4⟩
      obtain ⟨y0, y1, y2, y3, y4⟩ : wr.frozen? ⟨gr, 0, none⟩ = false ∧ wr.frozen? ⟨gr, 1, none⟩ = false ∧ wr.frozen? ⟨gr, 2, none⟩ = false ∧ wr.frozen? ⟨gr, 3, none⟩ = false ∧ wr.frozen? ⟨gr, 4, none⟩ = false := ⟨hM.res.free 0, hM.res.free 1, hM.res.free 2, hM.res.free 3, hM.res.free 4⟩
      obtain ⟨W9, hW9⟩ : ∃ W9, W9 = (((((wr.setCell ⟨gr, 0, none⟩ (.int .i64 5)).setCell ⟨gr, 1, none⟩ (.int .i64 0)).setCell ⟨gr, 2, none⟩ (.string ⟨#[]⟩)).setCell ⟨gr, 3, none⟩ (.slice An ns.length cn)).setCell ⟨gr, 4, none⟩ (.slice Ai is.length ci)) := ⟨_, rfl⟩
      have hC9 : Chg wr W9 (fun k => k = gr) := by rw [hW9]; exact chg_five wr gr (.int .i64 5) (.int .i64 0) (.string ⟨#[]⟩) (.slice An ns.length cn) (.slice Ai is.length ci)
      have hZ9 : Blk W9 gr 25 #[.int .i64 5, .int .i64 0, .string ⟨#[]⟩, .slice An ns.length cn, .slice Ai is.length ci] := by rw [hW9]; exact hM.res.five (.int .i64 5) (.int .i64 0) (.string ⟨#[]⟩) (.slice An ns.length cn) (.slice Ai is.length ci)
      obtain ⟨j0, j1, j2, j3, j4⟩ : W9.cell? ⟨gr, 0, none⟩ = some (.int .i64 5) ∧ W9.cell? ⟨gr, 1, none⟩ = some (.int .i64 0) ∧ W9.cell? ⟨gr, 2, none⟩ = some (.string ⟨#[]⟩) ∧ W9.cell? ⟨gr, 3, none⟩ = some (.slice An ns.length cn) ∧ W9.cell? ⟨gr, 4, none⟩ = some (.slice Ai is.length ci) := ⟨hZ9.cell 0, hZ9.cell 1, hZ9.cell 2, hZ9.cell 3, hZ9.cell 4⟩
      have hD := MvS.done (k := (5)) (n := (0)) (s := ⟨#[]⟩) (An := An) (ns := ns) (cn := cn) (Ai := Ai) (is := is) (ci := ci) hM hC9 (by omega) (by omega) (by decide) hnsz
      have HD := Lib.hid hD
      have HW9 := Lib.hid hW9
      clear hW9 hD
      go_wp2
      rw [← HW9.out]
      exact bodyPost_ret (v := .tuple #[.agg #[.int .i64 5, .int .i64 0, .string ⟨#[]⟩, .slice An ns.length cn, .slice Ai is.length ci], .slice none 0 0, .bool false]) (by simp [results, Tryd.results49, go_sem, j0, j1, j2, j3, j4]) rfl ⟨by rw [HE.out]; exact ⟨LV.mk (5) (0) ⟨#[]⟩ An ns cn Ai is ci, none, 0, 0, rfl⟩, HD.out.2.2⟩
    have hI : (0 : Int) < (n : Int) := by omega
    have hI1 : (1 : Int) ≤ (n : Int) := by omega
    by_cases h25 : is.length = 25
    · have hI25 : ¬ (is.length : Int) ≤ 24 := by omega
      have HE : Hid (X = none) := Lib.hid (by rw [← HJ.out, h25]; exact joinM_overB)
      clear h25
      go_upto_region 17 with fail
      clear u4
      obtain ⟨e0, e1, e2, e3, e4⟩ : wr.cell? ⟨go, 0, none⟩ = some (.int .i64 5) ∧ wr.cell? ⟨go, 1, none⟩ = some (.int .i64 0) ∧ wr.cell? ⟨go, 2, none⟩ = some (.string ⟨#[]⟩) ∧ wr.cell? ⟨go, 3, none⟩ = some (.slice An ns.length cn) ∧ wr.cell? ⟨go, 4, none⟩ = some (.slice Ai is.length ci) := ⟨hM.v.cell 0, hM.v.cell 1, hM.v.cell 2, hM.v.cell 3, hM.v.cell 4⟩
      obtain ⟨x0, x1, x2, x3, x4⟩ : wr.cell? ⟨gr, 0, none⟩ = some (.int .i64 0) ∧ wr.cell? ⟨gr, 1, none⟩ = some (.int .i64 0) ∧ wr.cell? ⟨gr, 2, none⟩ = some (.string ⟨#[]⟩) ∧ wr.cell? ⟨gr, 3, none⟩ = some (.slice none 0 0) ∧ wr.cell? ⟨gr, 4, none⟩ = some (.slice none 0 0) := ⟨hM.res.cell 0, hM.res.cell 1, hM.res.cell 2, hM.res.cell 3, hM.res.cell 4⟩
      obtain ⟨y0, y1, y2, y3, y4⟩ : wr.frozen? ⟨gr, 0, none⟩ = false ∧ wr.frozen? ⟨gr, 1, none⟩ = false ∧ wr.frozen? ⟨gr, 2, none⟩ = false ∧ wr.frozen? ⟨gr, 3, none⟩ = false ∧ wr.frozen? ⟨gr, 4, none⟩ = false := ⟨hM.res.free 0, hM.res.free 1, hM.res.free 2, hM.res.free 3, hM.res.free 4⟩
      obtain ⟨W9, hW9⟩ : ∃ W9, W9 = (((((wr.setCell ⟨gr, 0, none⟩ (.int .i64 5)).setCell ⟨gr, 1, none⟩ (.int .i64 0)).setCell ⟨gr, 2, none⟩ (.string ⟨#[]⟩)).setCell ⟨gr, 3, none⟩ (.slice An ns.length cn)).setCell ⟨gr, 4, none⟩ (.slice Ai is.length ci)) := ⟨_, rfl⟩
      have hC9 : Chg wr W9 (fun k => k = gr) := by rw [hW9]; exact chg_five wr gr (.int .i64 5) (.int .i64 0) (.string ⟨#[]⟩) (.slice An ns.length cn) (.slice Ai is.length ci)
      have hZ9 : Blk W9 gr 25 #[.int .i64 5, .int .i64 0, .string ⟨#[]⟩, .slice An ns.length cn, .slice Ai is.length ci] := by rw [hW9]; exact hM.res.five (.int .i64 5) (.int .i64 0) (.string ⟨#[]⟩) (.slice An ns.length cn) (.slice Ai is.length ci)
      obtain ⟨j0, j1, j2, j3, j4⟩ : W9.cell? ⟨gr, 0, none⟩ = some (.int .i64 5) ∧ W9.cell? ⟨gr, 1, none⟩ = some (.int .i64 0) ∧ W9.cell? ⟨gr, 2, none⟩ = some (.string ⟨#[]⟩) ∧ W9.cell? ⟨gr, 3, none⟩ = some (.slice An ns.length cn) ∧ W9.cell? ⟨gr, 4, none⟩ = some (.slice Ai is.length ci) := ⟨hZ9.cell 0, hZ9.cell 1, hZ9.cell 2, hZ9.cell 3, hZ9.cell 4⟩
      have hD := MvS.done (k := (5)) (n := (0)) (s := ⟨#[]⟩) (An := An) (ns := ns) (cn := cn) (Ai := Ai) (is := is) (ci := ci) hM hC9 (by omega) (by omega) (by decide) hnsz
      have HD := Lib.hid hD
      have HW9 := Lib.hid hW9
      clear hW9 hD
      go_wp2
      rw [← HW9.out]
      exact bodyPost_ret (v := .tuple #[.agg #[.int .i64 5, .int .i64 0, .string ⟨#[]⟩, .slice An ns.length cn, .slice Ai is.length ci], .slice none 0 0, .bool false]) (by simp [results, Tryd.results49, go_sem, j0, j1, j2, j3, j4]) rfl ⟨by rw [HE.out]; exact ⟨LV.mk (5) (0) ⟨#[]⟩ An ns cn Ai is ci, none, 0, 0, rfl⟩, HD.out.2.2⟩
    have hI25 : (is.length : Int) ≤ 24 := by omega
    obtain ⟨m, hm⟩ : ∃ m, 25 - is.length = m + 1 ∧ 25 - (is.length + 1) = m := ⟨24 - is.length, by omega, by omega⟩
    have HMM := Lib.hid hm
    clear hm h25 hn0
    obtain ⟨x, r, hcur⟩ : ∃ x r, cur = x :: r := by
      have h := HL.out
      rcases cur with _ | ⟨x, r⟩
      · simp at h; omega
      · exact ⟨x, r, rfl⟩
    subst hcur
    have HRL : Hid (r.length + 1 = n) := Lib.hid (by have := HL.out; simpa using this)
    obtain ⟨bb, off, rfl, hbb, hcell0⟩ := hR.cells.u8 (l := x :: r) (k := 0) (by simp)
    have hbh : Below wh.heap.size wh wr := h0.trans (hM.b.mono h0.size)
    have e0 : wr.cell? ⟨bb, off, none⟩ = some (.int .u8 x) := (hbh.cell (p := ⟨bb, off, none⟩) hbb).trans (by simpa using hcell0)
    have hs1 : BRow wh (some ⟨bb, off + 1, none⟩) (c' - 1) r := hR.sub 1 (by simp)
    clear hcell0
    have u0 : wr.cell? ⟨go, 0, none⟩ = some (.int .i64 5) := hM.v.cell 0
    by_cases hx0 : x = 0
    · subst hx0
      have HE : Hid (X = some (ns, LV.js is, r)) := Lib.hid (by rw [← HJ.out, HMM.out.1]; exact joinM_end)
      by_cases hc1 : c' = 1
      · have hn1 : n = 1 := by omega
        have hr0 : r = [] := List.eq_nil_of_length_eq_zero (by have := HRL.out; omega)
        subst hc1 hn1 hr0
        go_upto_region 3 with fail
        clear u0 u4 e0
        obtain ⟨e0, e1, e2, e3, e4⟩ : wr.cell? ⟨go, 0, none⟩ = some (.int .i64 5) ∧ wr.cell? ⟨go, 1, none⟩ = some (.int .i64 0) ∧ wr.cell? ⟨go, 2, none⟩ = some (.string ⟨#[]⟩) ∧ wr.cell? ⟨go, 3, none⟩ = some (.slice An ns.length cn) ∧ wr.cell? ⟨go, 4, none⟩ = some (.slice Ai is.length ci) := ⟨hM.v.cell 0, hM.v.cell 1, hM.v.cell 2, hM.v.cell 3, hM.v.cell 4⟩
        obtain ⟨x0, x1, x2, x3, x4⟩ : wr.cell? ⟨gr, 0, none⟩ = some (.int .i64 0) ∧ wr.cell? ⟨gr, 1, none⟩ = some (.int .i64 0) ∧ wr.cell? ⟨gr, 2, none⟩ = some (.string ⟨#[]⟩) ∧ wr.cell? ⟨gr, 3, none⟩ = some (.slice none 0 0) ∧ wr.cell? ⟨gr, 4, none⟩ = some (.slice none 0 0) := ⟨hM.res.cell 0, hM.res.cell 1, hM.res.cell 2, hM.res.cell 3, hM.res.cell 4⟩
        obtain ⟨y0, y1, y2, y3, y4⟩ : wr.frozen? ⟨gr, 0, none⟩ = false ∧ wr.frozen? ⟨gr, 1, none⟩ = false ∧ wr.frozen? ⟨gr, 2, none⟩ = false ∧ wr.frozen? ⟨gr, 3, none⟩ = false ∧ wr.frozen? ⟨gr, 4, none⟩ = false := ⟨hM.res.free 0, hM.res.free 1, hM.res.free 2, hM.res.free 3, hM.res.free 4⟩
        obtain ⟨W9, hW9⟩ : ∃ W9, W9 = (((((wr.setCell ⟨gr, 0, none⟩ (.int .i64 5)).setCell ⟨gr, 1, none⟩ (.int .i64 0)).setCell ⟨gr, 2, none⟩ (.string ⟨#[]⟩)).setCell ⟨gr, 3, none⟩ (.slice An ns.length cn)).setCell ⟨gr, 4, none⟩ (.slice Ai is.length ci)) := ⟨_, rfl⟩
        have hC9 : Chg wr W9 (fun k => k = gr) := by rw [hW9]; exact chg_five wr gr (.int .i64 5) (.int .i64 0) (.string ⟨#[]⟩) (.slice An ns.length cn) (.slice Ai is.length ci)
        have hZ9 : Blk W9 gr 25 #[.int .i64 5, .int .i64 0, .string ⟨#[]⟩, .slice An ns.length cn, .slice Ai is.length ci] := by rw [hW9]; exact hM.res.five (.int .i64 5) (.int .i64 0) (.string ⟨#[]⟩) (.slice An ns.length cn) (.slice Ai is.length ci)
        obtain ⟨j0, j1, j2, j3, j4⟩ : W9.cell? ⟨gr, 0, none⟩ = some (.int .i64 5) ∧ W9.cell? ⟨gr, 1, none⟩ = some (.int .i64 0) ∧ W9.cell? ⟨gr, 2, none⟩ = some (.string ⟨#[]⟩) ∧ W9.cell? ⟨gr, 3, none⟩ = some (.slice An ns.length cn) ∧ W9.cell? ⟨gr, 4, none⟩ = some (.slice Ai is.length ci) := ⟨hZ9.cell 0, hZ9.cell 1, hZ9.cell 2, hZ9.cell 3, hZ9.cell 4⟩
        have hD := MvS.done (k := (5)) (n := (0)) (s := ⟨#[]⟩) (An := An) (ns := ns) (cn := cn) (Ai := Ai) (is := is) (ci := ci) hM hC9 (by omega) (by omega) (by decide) hnsz
        have HD := Lib.hid hD
        have HW9 := Lib.hid hW9
        clear hW9 hD
        go_region
        go_wp2
        rw [← HW9.out]
        obtain ⟨k0, k1, k2, k3, k4⟩ : W9.drew.cell? ⟨gr, 0, none⟩ = some (.int .i64 5) ∧ W9.drew.cell? ⟨gr, 1, none⟩ = some (.int .i64 0) ∧ W9.drew.cell? ⟨gr, 2, none⟩ = some (.string ⟨#[]⟩) ∧ W9.drew.cell? ⟨gr, 3, none⟩ = some (.slice An ns.length cn) ∧ W9.drew.cell? ⟨gr, 4, none⟩ = some (.slice Ai is.length ci) := ⟨j0, j1, j2, j3, j4⟩
        exact bodyPost_ret (v := .tuple #[.agg #[.int .i64 5, .int .i64 0, .string ⟨#[]⟩, .slice An ns.length cn, .slice Ai is.length ci], .slice (some ⟨bb, off, none⟩) 0 0, .bool true]) (by simp [results, Tryd.results49, go_sem, k0, k1, k2, k3, k4]) rfl ⟨by rw [HE.out]; exact ⟨LV.mk (5) (0) ⟨#[]⟩ An ns cn Ai is ci, some ⟨bb, off, none⟩, 0, rfl, LV.At.below (Below.refl _ _).drew _ HD.out.1, HD.out.2.1, row_j _ _ _ _ _ _ _ _ _, BRow.none⟩, HD.out.2.2.drew⟩
      go_upto_region 3 with fail
      clear u0 u4 e0
      obtain ⟨e0, e1, e2, e3, e4⟩ : wr.cell? ⟨go, 0, none⟩ = some (.int .i64 5) ∧ wr.cell? ⟨go, 1, none⟩ = some (.int .i64 0) ∧ wr.cell? ⟨go, 2, none⟩ = some (.string ⟨#[]⟩) ∧ wr.cell? ⟨go, 3, none⟩ = some (.slice An ns.length cn) ∧ wr.cell? ⟨go, 4, none⟩ = some (.slice Ai is.length ci) := ⟨hM.v.cell 0, hM.v.cell 1, hM.v.cell 2, hM.v.cell 3, hM.v.cell 4⟩
      obtain ⟨x0, x1, x2, x3, x4⟩ : wr.cell? ⟨gr, 0, none⟩ = some (.int .i64 0) ∧ wr.cell? ⟨gr, 1, none⟩ = some (.int .i64 0) ∧ wr.cell? ⟨gr, 2, none⟩ = some (.string ⟨#[]⟩) ∧ wr.cell? ⟨gr, 3, none⟩ = some (.slice none 0 0) ∧ wr.cell? ⟨gr, 4, none⟩ = some (.slice none 0 0) := ⟨hM.res.cell 0, hM.res.cell 1, hM.res.cell 2, hM.res.cell 3, hM.res.cell 4⟩
      obtain ⟨y0, y1, y2, y3, y4⟩ : wr.frozen? ⟨gr, 0, none⟩ = false ∧ wr.frozen? ⟨gr, 1, none⟩ = false ∧ wr.frozen? ⟨gr, 2, none⟩ = false ∧ wr.frozen? ⟨gr, 3, none⟩ = false ∧ wr.frozen? ⟨gr, 4, none⟩ = false := ⟨hM.res.free 0, hM.res.free 1, hM.res.free 2, hM.res.free 3, hM.res.free 4⟩
      obtain ⟨W9, hW9⟩ : ∃ W9, W9 = (((((wr.setCell ⟨gr, 0, none⟩ (.int .i64 5)).setCell ⟨gr, 1, none⟩ (.int .i64 0)).setCell ⟨gr, 2, none⟩ (.string ⟨#[]⟩)).setCell ⟨gr, 3, none⟩ (.slice An ns.length cn)).setCell ⟨gr, 4, none⟩ (.slice Ai is.length ci)) := ⟨_, rfl⟩
      have hC9 : Chg wr W9 (fun k => k = gr) := by rw [hW9]; exact chg_five wr gr (.int .i64 5) (.int .i64 0) (.string ⟨#[]⟩) (.slice An ns.length cn) (.slice Ai is.length ci)
      have hZ9 : Blk W9 gr 25 #[.int .i64 5, .int .i64 0, .string ⟨#[]⟩, .slice An ns.length cn, .slice Ai is.length ci] := by rw [hW9]; exact hM.res.five (.int .i64 5) (.int .i64 0) (.string ⟨#[]⟩) (.slice An ns.length cn) (.slice Ai is.length ci)
      obtain ⟨j0, j1, j2, j3, j4⟩ : W9.cell? ⟨gr, 0, none⟩ = some (.int .i64 5) ∧ W9.cell? ⟨gr, 1, none⟩ = some (.int .i64 0) ∧ W9.cell? ⟨gr, 2, none⟩ = some (.string ⟨#[]⟩) ∧ W9.cell? ⟨gr, 3, none⟩ = some (.slice An ns.length cn) ∧ W9.cell? ⟨gr, 4, none⟩ = some (.slice Ai is.length ci) := ⟨hZ9.cell 0, hZ9.cell 1, hZ9.cell 2, hZ9.cell 3, hZ9.cell 4⟩
      have hD := MvS.done (k := (5)) (n := (0)) (s := ⟨#[]⟩) (An := An) (ns := ns) (cn := cn) (Ai := Ai) (is := is) (ci := ci) hM hC9 (by omega) (by omega) (by decide) hnsz
      have HD := Lib.hid hD
      have HW9 := Lib.hid hW9
      clear hW9 hD
      go_region
      go_wp2
      rw [← HW9.out]
      obtain ⟨k0, k1, k2, k3, k4⟩ : W9.drew.cell? ⟨gr, 0, none⟩ = some (.int .i64 5) ∧ W9.drew.cell? ⟨gr, 1, none⟩ = some (.int .i64 0) ∧ W9.drew.cell? ⟨gr, 2, none⟩ = some (.string ⟨#[]⟩) ∧ W9.drew.cell? ⟨gr, 3, none⟩ = some (.slice An ns.length cn) ∧ W9.drew.cell? ⟨gr, 4, none⟩ = some (.slice Ai is.length ci) := ⟨j0, j1, j2, j3, j4⟩
      exact bodyPost_ret (v := .tuple #[.agg #[.int .i64 5, .int .i64 0, .string ⟨#[]⟩, .slice An ns.length cn, .slice Ai is.length ci], .slice (some ⟨bb, off + 1, none⟩) (n - 1) (c' - 1), .bool true]) (by simp [results, Tryd.results49, go_sem, k0, k1, k2, k3, k4]) rfl ⟨by rw [HE.out]; exact ⟨LV.mk (5) (0) ⟨#[]⟩ An ns cn Ai is ci, some ⟨bb, off + 1, none⟩, (c' - 1), by rw [show r.length = n - 1 by have := HRL.out; omega]; rfl, LV.At.below (Below.refl _ _).drew _ HD.out.1, HD.out.2.1, row_j _ _ _ _ _ _ _ _ _, hs1⟩, HD.out.2.2.drew⟩
    have hxb : (x == 0) = false := by rw [beq_eq_false_iff_ne]; exact hx0
    obtain ⟨Y, hY⟩ : ∃ Y, valG false l (x :: r) = Y := ⟨_, rfl⟩
    have HY := Lib.hid hY
    have HC : Hid (Calls Tryd.prog 30 #[.slice (some ⟨bb, off, none⟩) n c', .int .i64 l] wr fun e w' => RvIs wh wr Y e w' ∧ Below wr.heap.size wr w') := Lib.hid (by have h := HIH.out (some ⟨bb, off, none⟩) (c') (x :: r) wr hR hbh (by have := HL.out; omega); rw [hY, HL.out] at h; exact h)
    clear hY
    go_wp2_with fail
    refine HC.out.mono ?_
    rintro e w4 ⟨hrv, hb4⟩
    have hM4 := hM.below hb4
    have hb44 := hb4
    clear HC u0 u4 e0
    cases Y with
    | none =>
      have HE : Hid (X = none) := Lib.hid (by rw [← HJ.out, HMM.out.1]; exact joinM_none hx0 HY.out)
      obtain ⟨z, Az, nz', cz', he⟩ := hrv
      obtain ⟨kz, nz, sz, Anz, nsz, cnz, Aiz, isz, ciz⟩ := z
      have he' : e = .returned (.tuple #[.agg #[.int .i64 kz, .int .i64 nz, .string sz, .slice Anz nsz.length cnz, .slice Aiz isz.length ciz], .slice Az nz' cz', .bool false]) := he
      clear he
      subst he'
      obtain ⟨w5, hw5⟩ : ∃ w5, w5 = w4.alloc (.cells #[.int .i64 kz, .int .i64 nz, .string sz, .slice Anz nsz.length cnz, .slice Aiz isz.length ciz] 25) := ⟨_, rfl⟩
      have hM5 : MvS w w5 gr go (go + 2) 5 0 ⟨#[]⟩ (.slice An ns.length cn) (.slice Ai is.length ci) ns is := by rw [hw5]; exact hM4.alloc _
      have HW5 := Lib.hid hw5
      clear hw5
      go_upto_region 13 with fail
      rw [← HW5.out]
      obtain ⟨e0, e1, e2, e3, e4⟩ : w5.cell? ⟨go, 0, none⟩ = some (.int .i64 5) ∧ w5.cell? ⟨go, 1, none⟩ = some (.int .i64 0) ∧ w5.cell? ⟨go, 2, none⟩ = some (.string ⟨#[]⟩) ∧ w5.cell? ⟨go, 3, none⟩ = some (.slice An ns.length cn) ∧ w5.cell? ⟨go, 4, none⟩ = some (.slice Ai is.length ci) := ⟨hM5.v.cell 0, hM5.v.cell 1, hM5.v.cell 2, hM5.v.cell 3, hM5.v.cell 4⟩
      obtain ⟨x0, x1, x2, x3, x4⟩ : w5.cell? ⟨gr, 0, none⟩ = some (.int .i64 0) ∧ w5.cell? ⟨gr, 1, none⟩ = some (.int .i64 0) ∧ w5.cell? ⟨gr, 2, none⟩ = some (.string ⟨#[]⟩) ∧ w5.cell? ⟨gr, 3, none⟩ = some (.slice none 0 0) ∧ w5.cell? ⟨gr, 4, none⟩ = some (.slice none 0 0) := ⟨hM5.res.cell 0, hM5.res.cell 1, hM5.res.cell 2, hM5.res.cell 3, hM5.res.cell 4⟩
      obtain ⟨y0, y1, y2, y3, y4⟩ : w5.frozen? ⟨gr, 0, none⟩ = false ∧ w5.frozen? ⟨gr, 1, none⟩ = false ∧ w5.frozen? ⟨gr, 2, none⟩ = false ∧ w5.frozen? ⟨gr, 3, none⟩ = false ∧ w5.frozen? ⟨gr, 4, none⟩ = false := ⟨hM5.res.free 0, hM5.res.free 1, hM5.res.free 2, hM5.res.free 3, hM5.res.free 4⟩
      obtain ⟨W9, hW9⟩ : ∃ W9, W9 = (((((w5.setCell ⟨gr, 0, none⟩ (.int .i64 5)).setCell ⟨gr, 1, none⟩ (.int .i64 0)).setCell ⟨gr, 2, none⟩ (.string ⟨#[]⟩)).setCell ⟨gr, 3, none⟩ (.slice An ns.length cn)).setCell ⟨gr, 4, none⟩ (.slice Ai is.length ci)) := ⟨_, rfl⟩
      have hC9 : Chg w5 W9 (fun k => k = gr) := by rw [hW9]; exact chg_five w5 gr (.int .i64 5) (.int .i64 0) (.string ⟨#[]⟩) (.slice An ns.length cn) (.slice Ai is.length ci)
      have hZ9 : Blk W9 gr 25 #[.int .i64 5, .int .i64 0, .string ⟨#[]⟩, .slice An ns.length cn, .slice Ai is.length ci] := by rw [hW9]; exact hM5.res.five (.int .i64 5) (.int .i64 0) (.string ⟨#[]⟩) (.slice An ns.length cn) (.slice Ai is.length ci)
      obtain ⟨j0, j1, j2, j3, j4⟩ : W9.cell? ⟨gr, 0, none⟩ = some (.int .i64 5) ∧ W9.cell? ⟨gr, 1, none⟩ = some (.int .i64 0) ∧ W9.cell? ⟨gr, 2, none⟩ = some (.string ⟨#[]⟩) ∧ W9.cell? ⟨gr, 3, none⟩ = some (.slice An ns.length cn) ∧ W9.cell? ⟨gr, 4, none⟩ = some (.slice Ai is.length ci) := ⟨hZ9.cell 0, hZ9.cell 1, hZ9.cell 2, hZ9.cell 3, hZ9.cell 4⟩
      have hD := MvS.done (k := (5)) (n := (0)) (s := ⟨#[]⟩) (An := An) (ns := ns) (cn := cn) (Ai := Ai) (is := is) (ci := ci) hM5 hC9 (by omega) (by omega) (by decide) hnsz
      have HD := Lib.hid hD
      have HW9 := Lib.hid hW9
      clear hW9 hD
      go_wp2
      rw [← HW9.out]
      exact bodyPost_ret (v := .tuple #[.agg #[.int .i64 5, .int .i64 0, .string ⟨#[]⟩, .slice An ns.length cn, .slice Ai is.length ci], .slice none 0 0, .bool false]) (by simp [results, Tryd.results49, go_sem, j0, j1, j2, j3, j4]) rfl ⟨by rw [HE.out]; exact ⟨LV.mk (5) (0) ⟨#[]⟩ An ns cn Ai is ci, none, 0, 0, rfl⟩, HD.out.2.2⟩
    | some q =>
    obtain ⟨jq, tq⟩ := q
    have HE : Hid (joinM ns (LV.js is ++ [jq]) (memG false (valG false l) false m tq) = X) := Lib.hid (by rw [← HJ.out, HMM.out.1]; exact (joinM_one hx0 HY.out).symm)
    obtain ⟨z, Az, cz', he, hz1, hz2, hzj, hBz⟩ := hrv
    obtain ⟨kz, nz, sz, Anz, nsz, cnz, Aiz, isz, ciz⟩ := z
    have he' : e = .returned (.tuple #[.agg #[.int .i64 kz, .int .i64 nz, .string sz, .slice Anz nsz.length cnz, .slice Aiz isz.length ciz], .slice Az tq.length cz', .bool true]) := he
    clear he
    subst he'
    have htq := valG_len _ _ _ _ HY.out
    have HTQ := Lib.hid htq
    have HZJ := Lib.hid hzj
    clear hzj htq
    obtain ⟨w5, hw5⟩ : ∃ w5, w5 = w4.alloc (.cells #[.int .i64 kz, .int .i64 nz, .string sz, .slice Anz nsz.length cnz, .slice Aiz isz.length ciz] 25) := ⟨_, rfl⟩
    have hM5 : MvS w w5 gr go (go + 2) 5 0 ⟨#[]⟩ (.slice An ns.length cn) (.slice Ai is.length ci) ns is := by rw [hw5]; exact hM4.alloc _
    have hz5 : (LV.mk kz nz sz Anz nsz cnz Aiz isz ciz).At w5 := by rw [hw5]; exact LV.At.below ((Below.refl _ _).alloc (Nat.le_refl _) _) _ hz1
    have hZ5 : Blk w5 w4.heap.size 25 #[.int .i64 kz, .int .i64 nz, .string sz, .slice Anz nsz.length cnz, .slice Aiz isz.length ciz] := by rw [hw5]; exact Blk.new w4 _ _
    have hoff : (LV.mk kz nz sz Anz nsz cnz Aiz isz ciz).On (OffB (go + 2) (.slice An ns.length cn) (.slice Ai is.length ci)) := hM.off hz2
    obtain ⟨gz, hgz⟩ : ∃ g, w4.heap.size = g := ⟨_, rfl⟩
    rw [hgz] at hZ5
    have HW5 := Lib.hid hw5
    clear hw5
    go_upto_region 13 with fail
    first | rw [← HW5.out, hgz] | rw [← HW5.out]
    clear hgz
    obtain ⟨v0, v1, v2, v3, v4⟩ : w5.cell? ⟨gz, 0, none⟩ = some (.int .i64 kz) ∧ w5.cell? ⟨gz, 1, none⟩ = some (.int .i64 nz) ∧ w5.cell? ⟨gz, 2, none⟩ = some (.string sz) ∧ w5.cell? ⟨gz, 3, none⟩ = some (.slice Anz nsz.length cnz) ∧ w5.cell? ⟨gz, 4, none⟩ = some (.slice Aiz isz.length ciz) := ⟨hZ5.cell 0, hZ5.cell 1, hZ5.cell 2, hZ5.cell 3, hZ5.cell 4⟩
    have u4 : w5.cell? ⟨go, 4, none⟩ = some (.slice Ai is.length ci) := hM5.v.cell 4
    go_wp2_with (first | (at_builtin; refine VOwn.any rfl (.tmp 68) (.tmp 70) rfl (go + 2) (.slice Ai is.length ci) is rfl (hM5.oi.alloc _) (w5.heap.size + 1) (some ⟨w5.heap.size, 0, none⟩) 1 1 [(LV.mk kz nz sz Anz nsz cnz Aiz isz ciz)] rfl rfl (one_val w5 _ _ rfl) (by simp; omega) (Nat.le_trans hM5.lt (by simp)) ?_; intro A9 c9 w9 hO9 hG9; have hv9 := (hM5.alloc _).v.grew (hM5.alloc _).oi (hM5.hg) hG9; obtain ⟨g3, g4⟩ : w9.cell? ⟨go, 4, none⟩ = some (.slice Ai is.length ci) ∧ w9.frozen? ⟨go, 4, none⟩ = false := ⟨hv9.cell 4, hv9.free 4⟩))
    have hKF := (hM5.alloc (.cells #[.int .i64 kz, .int .i64 nz, .string sz, .slice Anz nsz.length cnz, .slice Aiz isz.length ciz] 25)).items hO9 hG9 (LV.At.below ((Below.refl _ _).alloc (Nat.le_refl _) _) _ hz5) hoff
    have hm9 : lenAt (w9.setCell ⟨go, 4, none⟩ (.slice A9 (is.length + 1) c9)) ⟨go, 4, none⟩ = is.length + 1 := by
      have e1 := hKF.v.cell 4
      unfold lenAt; rw [e1]; rfl
    go_roundw
    case rel => exact ⟨Az, cz', tq.length, tq, _, _, ns, _, rfl, Lib.hid rfl, by have := HTQ.out; have := HL.out; omega, hBz, hKF, by simp; omega, by simp; omega, hnsz, by rw [js_snoc, List.length_append, List.length_singleton, HMM.out.2, HZJ.out]; exact HE.out⟩
    case measure => rw [hm9, hm0]; omega
set_option maxRecDepth 8000 in
set_option maxHeartbeats 16000000 in
theorem members6 (wh : World) (l : Nat) (A : Option Addr) (c : Nat) (b : List Int) (w : World) (hB : BRow wh A c b) (h0 : Below wh.heap.size wh w) (hl : b.length ≤ 10000000000000) (hl6 : l ≤ 100) (IH : ∀ A c b w, BRow wh A c b → Below wh.heap.size wh w → b.length ≤ 10000000000000 → Calls Tryd.prog 30 #[.slice A b.length c, .int .i64 l] w fun e w' => RvIs wh w (valG false l b) e w' ∧ Below w.heap.size w w') :
    Calls Tryd.prog 49 #[.agg #[.int .i64 6, .int .i64 0, .string ⟨#[]⟩, .slice none 0 0, .slice none 0 0], .slice A b.length c, .int .i64 ((l : Int) + 1)] w fun e w' => RvIs wh w (rowJ 6 (memG false (valG false l) true 25 b)) e w' ∧ Below w.heap.size w w' := by
  obtain ⟨X, hX⟩ : ∃ X, memG false (valG false l) true 25 b = X := ⟨_, rfl⟩
  have HX : Hid (joinM [] (LV.js []) (memG false (valG false l) true (25 - ([] : List LV).length) b) = X) := Lib.hid (by rw [LV.js, joinM_start]; exact hX)
  rw [hX]
  have HIH := Lib.hid IH
  have HB0 := Lib.hid hB
  obtain ⟨N, hN⟩ : ∃ N, b.length = N := ⟨_, rfl⟩
  have HN := Lib.hid hN
  rw [hN] at hl ⊢
  have hwl : IntKind.i64.wrap (l : Int) = (l : Int) := by rw [IntKind.wrap_i64]; omega
  have hsub : (l : Int) + 1 - 1 = (l : Int) := by omega
  clear hB hN hX IH
  obtain ⟨W, hW⟩ : ∃ W, W = (w.alloc (.cells #[.int .i64 6, .int .i64 0, .string ⟨#[]⟩, .slice none 0 0, .slice none 0 0] 25)).alloc (.cells zeroBlk 25) := ⟨_, rfl⟩
  obtain ⟨go, hgo⟩ : ∃ g, w.heap.size = g := ⟨_, rfl⟩
  have hM0 : MvS w W (go + 1) go (go + 2) 6 0 ⟨#[]⟩ (.slice none 0 0) (.slice none 0 0) [] [] := MvS.fresh (by rw [hW, ← hgo]; exact Blk.second w _ _ _) (by rw [hW, ← hgo]; exact (Blk.new w _ _).alloc _) (by rw [hW]; simp; omega) (by omega) (by omega) (by omega) (by omega) (by omega) (by rw [hW]; exact ((Below.refl _ _).alloc (Nat.le_refl _) _).alloc (by simp) _)
  have HW := Lib.hid hW
  have HGO := Lib.hid hgo
  obtain ⟨gr, hgr⟩ : ∃ g, go + 1 = g := ⟨_, rfl⟩
  have HGR := Lib.hid hgr
  rw [hgr] at hM0
  clear hW
  go_enter Tryd.func49, Tryd.ntmps49
  go_upto_region 1 with fail
  first | rw [← HW.out, hgo, hgr] | rw [← HW.out, hgr] | rw [← HW.out, hgo] | rw [← HW.out]
  clear hgo hgr
  go_wp2
  go_loopw [1, 9, 10, 11, 12, 13, 14] (fun u s9 s10 s11 s12 s13 s14 wr => ∃ (A' : Option Addr) (c' n : Nat) (cur : List Int) (vn vi : Value) (ns : List ByteArray) (is : List LV), u = .slice A' n c' ∧ Hid (cur.length = n) ∧ n ≤ N ∧ BRow wh A' c' cur ∧ MvS w wr gr go (go + 2) 6 0 ⟨#[]⟩ vn vi ns is ∧ is.length ≤ 25 ∧ ns.length ≤ is.length ∧ (∀ t ∈ ns, t.size ≤ 9223372036854775807) ∧ Hid (joinM ns (LV.js is) (memG false (valG false l) true (25 - is.length) cur) = X))
    (fun _ _ _ _ _ _ _ wr => 30 - lenAt wr ⟨go, 4, none⟩)
  case atStart => exact ⟨A, c, N, b, _, _, [], [], rfl, HN, Nat.le_refl _, HB0.out, hM0, by simp, by simp, by simp, HX⟩
  case round =>
    obtain ⟨A', c', n, cur, vn, vi, ns, is, rfl, HL, hn, hR, hM, hi25, hnn, hnsz, HJ⟩ := hrel
    clear hM0
    have hcc := hR.len
    rw [HL.out] at hcc
    have hcm := hR.cap
    have hm0 : lenAt wr ⟨go, 4, none⟩ = is.length := by
      have e1 : wr.cell? ⟨go, 4, none⟩ = some vi := hM.v.cell 4
      obtain ⟨A', c', rfl, _⟩ := hM.oi.shape
      unfold lenAt; rw [e1]; rfl
    obtain ⟨An, cn, rfl, _, hcn, _⟩ := hM.on.shape
    obtain ⟨Ai, ci, rfl, _, hci, _⟩ := hM.oi.shape
    have HBW := Lib.hid hM.b
    have u4 : wr.cell? ⟨go, 4, none⟩ = some (.slice Ai is.length ci) := hM.v.cell 4
    by_cases hn0 : n = 0
    · have hI : ¬ (0 : Int) < (n : Int) := by omega
      have hcur : cur = [] := List.eq_nil_of_length_eq_zero (by rw [HL.out]; exact hn0)
      have HE : Hid (X = none) := Lib.hid (by rw [← HJ.out, hcur]; cases 25 - is.length with
        | zero => exact joinM_overB
        | succ m => exact joinM_nil)
      subst hcur
      clear hn0 u4
      obtain ⟨e0, e1, e2, e3, e4⟩ : wr.cell? ⟨go, 0, none⟩ = some (.int .i64 6) ∧ wr.cell? ⟨go, 1, none⟩ = some (.int .i64 0) ∧ wr.cell? ⟨go, 2, none⟩ = some (.string ⟨#[]⟩) ∧ wr.cell? ⟨go, 3, none⟩ = some (.slice An ns.length cn) ∧ wr.cell? ⟨go, 4, none⟩ = some (.slice Ai is.length ci) := ⟨hM.v.cell 0, hM.v.cell 1, hM.v.cell 2, hM.v.cell 3, hM.v.cell 4⟩
      obtain ⟨x0, x1, x2, x3, x4⟩ : wr.cell? ⟨gr, 0, none⟩ = some (.int .i64 0) ∧ wr.cell? ⟨gr, 1, none⟩ = some (.int .i64 0) ∧ wr.cell? ⟨gr, 2, none⟩ = some (.string ⟨#[]⟩) ∧ wr.cell? ⟨gr, 3, none⟩ = some (.slice none 0 0) ∧ wr.cell? ⟨gr, 4, none⟩ = some (.slice none 0 0) := ⟨hM.res.cell 0, hM.res.cell 1, hM.res.cell 2, hM.res.cell 3, hM.res.cell 4⟩
      obtain ⟨y0, y1, y2, y3, y4⟩ : wr.frozen? ⟨gr, 0, none⟩ = false ∧ wr.frozen? ⟨gr, 1, none⟩ = false ∧ wr.frozen? ⟨gr, 2, none⟩ = false ∧ wr.frozen? ⟨gr, 3, none⟩ = false ∧ wr.frozen? ⟨gr, 4, none⟩ = false := ⟨hM.res.free 0, hM.res.free 1, hM.res.free 2, hM.res.free 3, hM.res.free 4⟩
      obtain ⟨W9, hW9⟩ : ∃ W9, W9 = (((((wr.setCell ⟨gr, 0, none⟩ (.int .i64 6)).setCell ⟨gr, 1, none⟩ (.int .i64 0)).setCell ⟨gr, 2, none⟩ (.string ⟨#[]⟩)).setCell ⟨gr, 3, none⟩ (.slice An ns.length cn)).setCell ⟨gr, 4, none⟩ (.slice Ai is.length ci)) := ⟨_, rfl⟩
      have hC9 : Chg wr W9 (fun k => k = gr) := by rw [hW9]; exact chg_five wr gr (.int .i64 6) (.int .i64 0) (.string ⟨#[]⟩) (.slice An ns.length cn) (.slice Ai is.length ci)
      have hZ9 : Blk W9 gr 25 #[.int .i64 6, .int .i64 0, .string ⟨#[]⟩, .slice An ns.length cn, .slice Ai is.length ci] := by rw [hW9]; exact hM.res.five (.int .i64 6) (.int .i64 0) (.string ⟨#[]⟩) (.slice An ns.length cn) (.slice Ai is.length ci)
      obtain ⟨j0, j1, j2, j3, j4⟩ : W9.cell? ⟨gr, 0, none⟩ = some (.int .i64 6) ∧ W9.cell? ⟨gr, 1, none⟩ = some (.int .i64 0) ∧ W9.cell? ⟨gr, 2, none⟩ = some (.string ⟨#[]⟩) ∧ W9.cell? ⟨gr, 3, none⟩ = some (.slice An ns.length cn) ∧ W9.cell? ⟨gr, 4, none⟩ = some (.slice Ai is.length ci) := ⟨hZ9.cell 0, hZ9.cell 1, hZ9.cell 2, hZ9.cell 3, hZ9.cell 4⟩
      have hD := MvS.done (k := (6)) (n := (0)) (s := ⟨#[]⟩) (An := An) (ns := ns) (cn := cn) (Ai := Ai) (is := is) (ci := ci) hM hC9 (by omega) (by omega) (by decide) hnsz
      have HD := Lib.hid hD
      have HW9 := Lib.hid hW9
      clear hW9 hD
      go_wp2
      rw [← HW9.out]
      exact bodyPost_ret (v := .tuple #[.agg #[.int .i64 6, .int .i64 0, .string ⟨#[]⟩, .slice An ns.length cn, .slice Ai is.length ci], .slice none 0 0, .bool false]) (by simp [results, Tryd.results49, go_sem, j0, j1, j2, j3, j4]) rfl ⟨by rw [HE.out]; exact ⟨LV.mk (6) (0) ⟨#[]⟩ An ns cn Ai is ci, none, 0, 0, rfl⟩, HD.out.2.2⟩
    have hI : (0 : Int) < (n : Int) := by omega
    have hI1 : (1 : Int) ≤ (n : Int) := by omega
    by_cases h25 : is.length = 25
    · have hI25 : ¬ (is.length : Int) ≤ 24 := by omega
      have HE : Hid (X = none) := Lib.hid (by rw [← HJ.out, h25]; exact joinM_overB)
      clear h25
      go_upto_region 17 with fail
      clear u4
      obtain ⟨e0, e1, e2, e3, e4⟩ : wr.cell? ⟨go, 0, none⟩ = some (.int .i64 6) ∧ wr.cell? ⟨go, 1, none⟩ = some (.int .i64 0) ∧ wr.cell? ⟨go, 2, none⟩ = some (.string ⟨#[]⟩) ∧ wr.cell? ⟨go, 3, none⟩ = some (.slice An ns.length cn) ∧ wr.cell? ⟨go, 4, none⟩ = some (.slice Ai is.length ci) := ⟨hM.v.cell 0, hM.v.cell 1, hM.v.cell 2, hM.v.cell 3, hM.v.cell 4⟩
      obtain ⟨x0, x1, x2, x3, x4⟩ : wr.cell? ⟨gr, 0, none⟩ = some (.int .i64 0) ∧ wr.cell? ⟨gr, 1, none⟩ = some (.int .i64 0) ∧ wr.cell? ⟨gr, 2, none⟩ = some (.string ⟨#[]⟩) ∧ wr.cell? ⟨gr, 3, none⟩ = some (.slice none 0 0) ∧ wr.cell? ⟨gr, 4, none⟩ = some (.slice none 0 0) := ⟨hM.res.cell 0, hM.res.cell 1, hM.res.cell 2, hM.res.cell 3, hM.res.cell 4⟩
      obtain ⟨y0, y1, y2, y3, y4⟩ : wr.frozen? ⟨gr, 0, none⟩ = false ∧ wr.frozen? ⟨gr, 1, none⟩ = false ∧ wr.frozen? ⟨gr, 2, none⟩ = false ∧ wr.frozen? ⟨gr, 3, none⟩ = false ∧ wr.frozen? ⟨gr, 4, none⟩ = false := ⟨hM.res.free 0, hM.res.free 1, hM.res.free 2, hM.res.free 3, hM.res.free 4⟩
      obtain ⟨W9, hW9⟩ : ∃ W9, W9 = (((((wr.setCell ⟨gr, 0, none⟩ (.int .i64 6)).setCell ⟨gr, 1, none⟩ (.int .i64 0)).setCell ⟨gr, 2, none⟩ (.string ⟨#[]⟩)).setCell ⟨gr, 3, none⟩ (.slice An ns.length cn)).setCell ⟨gr, 4, none⟩ (.slice Ai is.length ci)) := ⟨_, rfl⟩
      have hC9 : Chg wr W9 (fun k => k = gr) := by rw [hW9]; exact chg_five wr gr (.int .i64 6) (.int .i64 0) (.string ⟨#[]⟩) (.slice An ns.length cn) (.slice Ai is.length ci)
      have hZ9 : Blk W9 gr 25 #[.int .i64 6, .int .i64 0, .string ⟨#[]⟩, .slice An ns.length cn, .slice Ai is.length ci] := by rw [hW9]; exact hM.res.five (.int .i64 6) (.int .i64 0) (.string ⟨#[]⟩) (.slice An ns.length cn) (.slice Ai is.length ci)
      obtain ⟨j0, j1, j2, j3, j4⟩ : W9.cell? ⟨gr, 0, none⟩ = some (.int .i64 6) ∧ W9.cell? ⟨gr, 1, none⟩ = some (.int .i64 0) ∧ W9.cell? ⟨gr, 2, none⟩ = some (.string ⟨#[]⟩) ∧ W9.cell? ⟨gr, 3, none⟩ = some (.slice An ns.length cn) ∧ W9.cell? ⟨gr, 4, none⟩ = some (.slice Ai is.length ci) := ⟨hZ9.cell 0, hZ9.cell 1, hZ9.cell 2, hZ9.cell 3, hZ9.cell 4⟩
      have hD := MvS.done (k := (6)) (n := (0)) (s := ⟨#[]⟩) (An := An) (ns := ns) (cn := cn) (Ai := Ai) (is := is) (ci := ci) hM hC9 (by omega) (by omega) (by decide) hnsz
      have HD := Lib.hid hD
      have HW9 := Lib.hid hW9
      clear hW9 hD
      go_wp2
      rw [← HW9.out]
      exact bodyPost_ret (v := .tuple #[.agg #[.int .i64 6, .int .i64 0, .string ⟨#[]⟩, .slice An ns.length cn, .slice Ai is.length ci], .slice none 0 0, .bool false]) (by simp [results, Tryd.results49, go_sem, j0, j1, j2, j3, j4]) rfl ⟨by rw [HE.out]; exact ⟨LV.mk (6) (0) ⟨#[]⟩ An ns cn Ai is ci, none, 0, 0, rfl⟩, HD.out.2.2⟩
    have hI25 : (is.length : Int) ≤ 24 := by omega
    obtain ⟨m, hm⟩ : ∃ m, 25 - is.length = m + 1 ∧ 25 - (is.length + 1) = m := ⟨24 - is.length, by omega, by omega⟩
    have HMM := Lib.hid hm
    clear hm h25 hn0
    obtain ⟨x, r, hcur⟩ : ∃ x r, cur = x :: r := by
      have h := HL.out
      rcases cur with _ | ⟨x, r⟩
      · simp at h; omega
      · exact ⟨x, r, rfl⟩
    subst hcur
    have HRL : Hid (r.length + 1 = n) := Lib.hid (by have := HL.out; simpa using this)
    obtain ⟨bb, off, rfl, hbb, hcell0⟩ := hR.cells.u8 (l := x :: r) (k := 0) (by simp)
    have hbh : Below wh.heap.size wh wr := h0.trans (hM.b.mono h0.size)
    have e0 : wr.cell? ⟨bb, off, none⟩ = some (.int .u8 x) := (hbh.cell (p := ⟨bb, off, none⟩) hbb).trans (by simpa using hcell0)
    have hs1 : BRow wh (some ⟨bb, off + 1, none⟩) (c' - 1) r := hR.sub 1 (by simp)
    clear hcell0
    have u0 : wr.cell? ⟨go, 0, none⟩ = some (.int .i64 6) := hM.v.cell 0
    by_cases hx0 : x = 0
    · subst hx0
      have HE : Hid (X = some (ns, LV.js is, r)) := Lib.hid (by rw [← HJ.out, HMM.out.1]; exact joinM_end)
      by_cases hc1 : c' = 1
      · have hn1 : n = 1 := by omega
        have hr0 : r = [] := List.eq_nil_of_length_eq_zero (by have := HRL.out; omega)
        subst hc1 hn1 hr0
        go_upto_region 3 with fail
        clear u0 u4 e0
        obtain ⟨e0, e1, e2, e3, e4⟩ : wr.cell? ⟨go, 0, none⟩ = some (.int .i64 6) ∧ wr.cell? ⟨go, 1, none⟩ = some (.int .i64 0) ∧ wr.cell? ⟨go, 2, none⟩ = some (.string ⟨#[]⟩) ∧ wr.cell? ⟨go, 3, none⟩ = some (.slice An ns.length cn) ∧ wr.cell? ⟨go, 4, none⟩ = some (.slice Ai is.length ci) := ⟨hM.v.cell 0, hM.v.cell 1, hM.v.cell 2, hM.v.cell 3, hM.v.cell 4⟩
        obtain ⟨x0, x1, x2, x3, x4⟩ : wr.cell? ⟨gr, 0, none⟩ = some (.int .i64 0) ∧ wr.cell? ⟨gr, 1, none⟩ = some (.int .i64 0) ∧ wr.cell? ⟨gr, 2, none⟩ = some (.string ⟨#[]⟩) ∧ wr.cell? ⟨gr, 3, none⟩ = some (.slice none 0 0) ∧ wr.cell? ⟨gr, 4, none⟩ = some (.slice none 0 0) := ⟨hM.res.cell 0, hM.res.cell 1, hM.res.cell 2, hM.res.cell 3, hM.res.cell 4⟩
        obtain ⟨y0, y1, y2, y3, y4⟩ : wr.frozen? ⟨gr, 0, none⟩ = false ∧ wr.frozen? ⟨gr, 1, none⟩ = false ∧ wr.frozen? ⟨gr, 2, none⟩ = false ∧ wr.frozen? ⟨gr, 3, none⟩ = false ∧ wr.frozen? ⟨gr, 4, none⟩ = false := ⟨hM.res.free 0, hM.res.free 1, hM.res.free 2, hM.res.free 3, hM.res.free 4⟩
        obtain ⟨W9, hW9⟩ : ∃ W9, W9 = (((((wr.setCell ⟨gr, 0, none⟩ (.int .i64 6)).setCell ⟨gr, 1, none⟩ (.int .i64 0)).setCell ⟨gr, 2, none⟩ (.string ⟨#[]⟩)).setCell ⟨gr, 3, none⟩ (.slice An ns.length cn)).setCell ⟨gr, 4, none⟩ (.slice Ai is.length ci)) := ⟨_, rfl⟩
        have hC9 : Chg wr W9 (fun k => k = gr) := by rw [hW9]; exact chg_five wr gr (.int .i64 6) (.int .i64 0) (.string ⟨#[]⟩) (.slice An ns.length cn) (.slice Ai is.length ci)
        have hZ9 : Blk W9 gr 25 #[.int .i64 6, .int .i64 0, .string ⟨#[]⟩, .slice An ns.length cn, .slice Ai is.length ci] := by rw [hW9]; exact hM.res.five (.int .i64 6) (.int .i64 0) (.string ⟨#[]⟩) (.slice An ns.length cn) (.slice Ai is.length ci)
        obtain ⟨j0, j1, j2, j3, j4⟩ : W9.cell? ⟨gr, 0, none⟩ = some (.int .i64 6) ∧ W9.cell? ⟨gr, 1, none⟩ = some (.int .i64 0) ∧ W9.cell? ⟨gr, 2, none⟩ = some (.string ⟨#[]⟩) ∧ W9.cell? ⟨gr, 3, none⟩ = some (.slice An ns.length cn) ∧ W9.cell? ⟨gr, 4, none⟩ = some (.slice Ai is.length ci) := ⟨hZ9.cell 0, hZ9.cell 1, hZ9.cell 2, hZ9.cell 3, hZ9.cell 4⟩
        have hD := MvS.done (k := (6)) (n := (0)) (s := ⟨#[]⟩) (An := An) (ns := ns) (cn := cn) (Ai := Ai) (is := is) (ci := ci) hM hC9 (by omega) (by omega) (by decide) hnsz
        have HD := Lib.hid hD
        have HW9 := Lib.hid hW9
        clear hW9 hD
        go_region
        go_wp2
        rw [← HW9.out]
        obtain ⟨k0, k1, k2, k3, k4⟩ : W9.drew.cell? ⟨gr, 0, none⟩ = some (.int .i64 6) ∧ W9.drew.cell? ⟨gr, 1, none⟩ = some (.int .i64 0) ∧ W9.drew.cell? ⟨gr, 2, none⟩ = some (.string ⟨#[]⟩) ∧ W9.drew.cell? ⟨gr, 3, none⟩ = some (.slice An ns.length cn) ∧ W9.drew.cell? ⟨gr, 4, none⟩ = some (.slice Ai is.length ci) := ⟨j0, j1, j2, j3, j4⟩
        exact bodyPost_ret (v := .tuple #[.agg #[.int .i64 6, .int .i64 0, .string ⟨#[]⟩, .slice An ns.length cn, .slice Ai is.length ci], .slice (some ⟨bb, off, none⟩) 0 0, .bool true]) (by simp [results, Tryd.results49, go_sem, k0, k1, k2, k3, k4]) rfl ⟨by rw [HE.out]; exact ⟨LV.mk (6) (0) ⟨#[]⟩ An ns cn Ai is ci, some ⟨bb, off, none⟩, 0, rfl, LV.At.below (Below.refl _ _).drew _ HD.out.1, HD.out.2.1, row_j _ _ _ _ _ _ _ _ _, BRow.none⟩, HD.out.2.2.drew⟩
      go_upto_region 3 with fail
      clear u0 u4 e0
      obtain ⟨e0, e1, e2, e3, e4⟩ : wr.cell? ⟨go, 0, none⟩ = some (.int .i64 6) ∧ wr.cell? ⟨go, 1, none⟩ = some (.int .i64 0) ∧ wr.cell? ⟨go, 2, none⟩ = some (.string ⟨#[]⟩) ∧ wr.cell? ⟨go, 3, none⟩ = some (.slice An ns.length cn) ∧ wr.cell? ⟨go, 4, none⟩ = some (.slice Ai is.length ci) := ⟨hM.v.cell 0, hM.v.cell 1, hM.v.cell 2, hM.v.cell 3, hM.v.cell 4⟩
      obtain ⟨x0, x1, x2, x3, x4⟩ : wr.cell? ⟨gr, 0, none⟩ = some (.int .i64 0) ∧ wr.cell? ⟨gr, 1, none⟩ = some (.int .i64 0) ∧ wr.cell? ⟨gr, 2, none⟩ = some (.string ⟨#[]⟩) ∧ wr.cell? ⟨gr, 3, none⟩ = some (.slice none 0 0) ∧ wr.cell? ⟨gr, 4, none⟩ = some (.slice none 0 0) := ⟨hM.res.cell 0, hM.res.cell 1, hM.res.cell 2, hM.res.cell 3, hM.res.cell 4⟩
      obtain ⟨y0, y1, y2, y3, y4⟩ : wr.frozen? ⟨gr, 0, none⟩ = false ∧ wr.frozen? ⟨gr, 1, none⟩ = false ∧ wr.frozen? ⟨gr, 2, none⟩ = false ∧ wr.frozen? ⟨gr, 3, none⟩ = false ∧ wr.frozen? ⟨gr, 4, none⟩ = false := ⟨hM.res.free 0, hM.res.free 1, hM.res.free 2, hM.res.free 3, hM.res.free 4⟩
      obtain ⟨W9, hW9⟩ : ∃ W9, W9 = (((((wr.setCell ⟨gr, 0, none⟩ (.int .i64 6)).setCell ⟨gr, 1, none⟩ (.int .i64 0)).setCell ⟨gr, 2, none⟩ (.string ⟨#[]⟩)).setCell ⟨gr, 3, none⟩ (.slice An ns.length cn)).setCell ⟨gr, 4, none⟩ (.slice Ai is.length ci)) := ⟨_, rfl⟩
      have hC9 : Chg wr W9 (fun k => k = gr) := by rw [hW9]; exact chg_five wr gr (.int .i64 6) (.int .i64 0) (.string ⟨#[]⟩) (.slice An ns.length cn) (.slice Ai is.length ci)
      have hZ9 : Blk W9 gr 25 #[.int .i64 6, .int .i64 0, .string ⟨#[]⟩, .slice An ns.length cn, .slice Ai is.length ci] := by rw [hW9]; exact hM.res.five (.int .i64 6) (.int .i64 0) (.string ⟨#[]⟩) (.slice An ns.length cn) (.slice Ai is.length ci)
      obtain ⟨j0, j1, j2, j3, j4⟩ : W9.cell? ⟨gr, 0, none⟩ = some (.int .i64 6) ∧ W9.cell? ⟨gr, 1, none⟩ = some (.int .i64 0) ∧ W9.cell? ⟨gr, 2, none⟩ = some (.string ⟨#[]⟩) ∧ W9.cell? ⟨gr, 3, none⟩ = some (.slice An ns.length cn) ∧ W9.cell? ⟨gr, 4, none⟩ = some (.slice Ai is.length ci) := ⟨hZ9.cell 0, hZ9.cell 1, hZ9.cell 2, hZ9.cell 3, hZ9.cell 4⟩
      have hD := MvS.done (k := (6)) (n := (0)) (s := ⟨#[]⟩) (An := An) (ns := ns) (cn := cn) (Ai := Ai) (is := is) (ci := ci) hM hC9 (by omega) (by omega) (by decide) hnsz
      have HD := Lib.hid hD
      have HW9 := Lib.hid hW9
      clear hW9 hD
      go_region
      go_wp2
      rw [← HW9.out]
      obtain ⟨k0, k1, k2, k3, k4⟩ : W9.drew.cell? ⟨gr, 0, none⟩ = some (.int .i64 6) ∧ W9.drew.cell? ⟨gr, 1, none⟩ = some (.int .i64 0) ∧ W9.drew.cell? ⟨gr, 2, none⟩ = some (.string ⟨#[]⟩) ∧ W9.drew.cell? ⟨gr, 3, none⟩ = some (.slice An ns.length cn) ∧ W9.drew.cell? ⟨gr, 4, none⟩ = some (.slice Ai is.length ci) := ⟨j0, j1, j2, j3, j4⟩
      exact bodyPost_ret (v := .tuple #[.agg #[.int .i64 6, .int .i64 0, .string ⟨#[]⟩, .slice An ns.length cn, .slice Ai is.length ci], .slice (some ⟨bb, off + 1, none⟩) (n - 1) (c' - 1), .bool true]) (by simp [results, Tryd.results49, go_sem, k0, k1, k2, k3, k4]) rfl ⟨by rw [HE.out]; exact ⟨LV.mk (6) (0) ⟨#[]⟩ An ns cn Ai is ci, some ⟨bb, off + 1, none⟩, (c' - 1), by rw [show r.length = n - 1 by have := HRL.out; omega]; rfl, LV.At.below (Below.refl _ _).drew _ HD.out.1, HD.out.2.1, row_j _ _ _ _ _ _ _ _ _, hs1⟩, HD.out.2.2.drew⟩
    have hxb : (x == 0) = false := by rw [beq_eq_false_iff_ne]; exact hx0
    by_cases hx1 : x = 1
    rotate_left
    · have hxn : (x != 1) = true := by rw [bne_iff_ne]; exact hx1
      have HE : Hid (X = none) := Lib.hid (by rw [← HJ.out, HMM.out.1]; exact joinM_mark hx0 hx1)
      go_upto_region 6 with fail
      clear u0 u4 e0
      obtain ⟨e0, e1, e2, e3, e4⟩ : wr.cell? ⟨go, 0, none⟩ = some (.int .i64 6) ∧ wr.cell? ⟨go, 1, none⟩ = some (.int .i64 0) ∧ wr.cell? ⟨go, 2, none⟩ = some (.string ⟨#[]⟩) ∧ wr.cell? ⟨go, 3, none⟩ = some (.slice An ns.length cn) ∧ wr.cell? ⟨go, 4, none⟩ = some (.slice Ai is.length ci) := ⟨hM.v.cell 0, hM.v.cell 1, hM.v.cell 2, hM.v.cell 3, hM.v.cell 4⟩
      obtain ⟨x0, x1, x2, x3, x4⟩ : wr.cell? ⟨gr, 0, none⟩ = some (.int .i64 0) ∧ wr.cell? ⟨gr, 1, none⟩ = some (.int .i64 0) ∧ wr.cell? ⟨gr, 2, none⟩ = some (.string ⟨#[]⟩) ∧ wr.cell? ⟨gr, 3, none⟩ = some (.slice none 0 0) ∧ wr.cell? ⟨gr, 4, none⟩ = some (.slice none 0 0) := ⟨hM.res.cell 0, hM.res.cell 1, hM.res.cell 2, hM.res.cell 3, hM.res.cell 4⟩
      obtain ⟨y0, y1, y2, y3, y4⟩ : wr.frozen? ⟨gr, 0, none⟩ = false ∧ wr.frozen? ⟨gr, 1, none⟩ = false ∧ wr.frozen? ⟨gr, 2, none⟩ = false ∧ wr.frozen? ⟨gr, 3, none⟩ = false ∧ wr.frozen? ⟨gr, 4, none⟩ = false := ⟨hM.res.free 0, hM.res.free 1, hM.res.free 2, hM.res.free 3, hM.res.free 4⟩
      obtain ⟨W9, hW9⟩ : ∃ W9, W9 = (((((wr.setCell ⟨gr, 0, none⟩ (.int .i64 6)).setCell ⟨gr, 1, none⟩ (.int .i64 0)).setCell ⟨gr, 2, none⟩ (.string ⟨#[]⟩)).setCell ⟨gr, 3, none⟩ (.slice An ns.length cn)).setCell ⟨gr, 4, none⟩ (.slice Ai is.length ci)) := ⟨_, rfl⟩
      have hC9 : Chg wr W9 (fun k => k = gr) := by rw [hW9]; exact chg_five wr gr (.int .i64 6) (.int .i64 0) (.string ⟨#[]⟩) (.slice An ns.length cn) (.slice Ai is.length ci)
      have hZ9 : Blk W9 gr 25 #[.int .i64 6, .int .i64 0, .string ⟨#[]⟩, .slice An ns.length cn, .slice Ai is.length ci] := by rw [hW9]; exact hM.res.five (.int .i64 6) (.int .i64 0) (.string ⟨#[]⟩) (.slice An ns.length cn) (.slice Ai is.length ci)
      obtain ⟨j0, j1, j2, j3, j4⟩ : W9.cell? ⟨gr, 0, none⟩ = some (.int .i64 6) ∧ W9.cell? ⟨gr, 1, none⟩ = some (.int .i64 0) ∧ W9.cell? ⟨gr, 2, none⟩ = some (.string ⟨#[]⟩) ∧ W9.cell? ⟨gr, 3, none⟩ = some (.slice An ns.length cn) ∧ W9.cell? ⟨gr, 4, none⟩ = some (.slice Ai is.length ci) := ⟨hZ9.cell 0, hZ9.cell 1, hZ9.cell 2, hZ9.cell 3, hZ9.cell 4⟩
      have hD := MvS.done (k := (6)) (n := (0)) (s := ⟨#[]⟩) (An := An) (ns := ns) (cn := cn) (Ai := Ai) (is := is) (ci := ci) hM hC9 (by omega) (by omega) (by decide) hnsz
      have HD := Lib.hid hD
      have HW9 := Lib.hid hW9
      clear hW9 hD
      go_wp2
      rw [← HW9.out]
      exact bodyPost_ret (v := .tuple #[.agg #[.int .i64 6, .int .i64 0, .string ⟨#[]⟩, .slice An ns.length cn, .slice Ai is.length ci], .slice none 0 0, .bool false]) (by simp [results, Tryd.results49, go_sem, j0, j1, j2, j3, j4]) rfl ⟨by rw [HE.out]; exact ⟨LV.mk (6) (0) ⟨#[]⟩ An ns cn Ai is ci, none, 0, 0, rfl⟩, HD.out.2.2⟩
    subst hx1
    by_cases hc1 : c' = 1
    · have hn1 : n = 1 := by omega
      have hr0 : r = [] := List.eq_nil_of_length_eq_zero (by have := HRL.out; omega)
      subst hc1 hn1 hr0
      have HE : Hid (X = none) := Lib.hid (by rw [← HJ.out, HMM.out.1]; exact joinM_name (by rw [getG_false]; rfl))
      have HG : Hid (Calls Tryd.prog 48 #[.slice (some ⟨bb, off, none⟩) 0 0] wr fun e w' => GetTIs wh none e ∧ Below wr.heap.size wr w') := Lib.hid (getT_any wh (some ⟨bb, off, none⟩) 0 [] wr BRow.none hbh (by simp))
      go_wp2_with fail
      refine HG.out.mono ?_
      rintro e w3 ⟨hgt, hb3⟩
      have hgt' : e = .returned (.tuple #[.string ⟨#[]⟩, .slice none 0 0, .bool false]) := hgt
      clear hgt HG
      subst hgt'
      have hM3 := hM.below hb3
      clear u0 u4 e0
      go_upto_region 9 with fail
      obtain ⟨e0, e1, e2, e3, e4⟩ : w3.cell? ⟨go, 0, none⟩ = some (.int .i64 6) ∧ w3.cell? ⟨go, 1, none⟩ = some (.int .i64 0) ∧ w3.cell? ⟨go, 2, none⟩ = some (.string ⟨#[]⟩) ∧ w3.cell? ⟨go, 3, none⟩ = some (.slice An ns.length cn) ∧ w3.cell? ⟨go, 4, none⟩ = some (.slice Ai is.length ci) := ⟨hM3.v.cell 0, hM3.v.cell 1, hM3.v.cell 2, hM3.v.cell 3, hM3.v.cell 4⟩
      obtain ⟨x0, x1, x2, x3, x4⟩ : w3.cell? ⟨gr, 0, none⟩ = some (.int .i64 0) ∧ w3.cell? ⟨gr, 1, none⟩ = some (.int .i64 0) ∧ w3.cell? ⟨gr, 2, none⟩ = some (.string ⟨#[]⟩) ∧ w3.cell? ⟨gr, 3, none⟩ = some (.slice none 0 0) ∧ w3.cell? ⟨gr, 4, none⟩ = some (.slice none 0 0) := ⟨hM3.res.cell 0, hM3.res.cell 1, hM3.res.cell 2, hM3.res.cell 3, hM3.res.cell 4⟩
      obtain ⟨y0, y1, y2, y3, y4⟩ : w3.frozen? ⟨gr, 0, none⟩ = false ∧ w3.frozen? ⟨gr, 1, none⟩ = false ∧ w3.frozen? ⟨gr, 2, none⟩ = false ∧ w3.frozen? ⟨gr, 3, none⟩ = false ∧ w3.frozen? ⟨gr, 4, none⟩ = false := ⟨hM3.res.free 0, hM3.res.free 1, hM3.res.free 2, hM3.res.free 3, hM3.res.free 4⟩
      obtain ⟨W9, hW9⟩ : ∃ W9, W9 = (((((w3.setCell ⟨gr, 0, none⟩ (.int .i64 6)).setCell ⟨gr, 1, none⟩ (.int .i64 0)).setCell ⟨gr, 2, none⟩ (.string ⟨#[]⟩)).setCell ⟨gr, 3, none⟩ (.slice An ns.length cn)).setCell ⟨gr, 4, none⟩ (.slice Ai is.length ci)) := ⟨_, rfl⟩
      have hC9 : Chg w3 W9 (fun k => k = gr) := by rw [hW9]; exact chg_five w3 gr (.int .i64 6) (.int .i64 0) (.string ⟨#[]⟩) (.slice An ns.length cn) (.slice Ai is.length ci)
      have hZ9 : Blk W9 gr 25 #[.int .i64 6, .int .i64 0, .string ⟨#[]⟩, .slice An ns.length cn, .slice Ai is.length ci] := by rw [hW9]; exact hM3.res.five (.int .i64 6) (.int .i64 0) (.string ⟨#[]⟩) (.slice An ns.length cn) (.slice Ai is.length ci)
      obtain ⟨j0, j1, j2, j3, j4⟩ : W9.cell? ⟨gr, 0, none⟩ = some (.int .i64 6) ∧ W9.cell? ⟨gr, 1, none⟩ = some (.int .i64 0) ∧ W9.cell? ⟨gr, 2, none⟩ = some (.string ⟨#[]⟩) ∧ W9.cell? ⟨gr, 3, none⟩ = some (.slice An ns.length cn) ∧ W9.cell? ⟨gr, 4, none⟩ = some (.slice Ai is.length ci) := ⟨hZ9.cell 0, hZ9.cell 1, hZ9.cell 2, hZ9.cell 3, hZ9.cell 4⟩
      have hD := MvS.done (k := (6)) (n := (0)) (s := ⟨#[]⟩) (An := An) (ns := ns) (cn := cn) (Ai := Ai) (is := is) (ci := ci) hM3 hC9 (by omega) (by omega) (by decide) hnsz
      have HD := Lib.hid hD
      have HW9 := Lib.hid hW9
      clear hW9 hD
      go_wp2
      rw [← HW9.out]
      exact bodyPost_ret (v := .tuple #[.agg #[.int .i64 6, .int .i64 0, .string ⟨#[]⟩, .slice An ns.length cn, .slice Ai is.length ci], .slice none 0 0, .bool false]) (by simp [results, Tryd.results49, go_sem, j0, j1, j2, j3, j4]) rfl ⟨by rw [HE.out]; exact ⟨LV.mk (6) (0) ⟨#[]⟩ An ns cn Ai is ci, none, 0, 0, rfl⟩, HD.out.2.2⟩
    obtain ⟨G, hG⟩ : ∃ G, getB r = G := ⟨_, rfl⟩
    have HGB := Lib.hid hG
    have HG : Hid (Calls Tryd.prog 48 #[.slice (some ⟨bb, off + 1, none⟩) (n - 1) (c' - 1)] wr fun e w' => GetTIs wh G e ∧ Below wr.heap.size wr w') := Lib.hid (by have h := getT_any wh (some ⟨bb, off + 1, none⟩) (c' - 1) r wr hs1 hbh (by have := HRL.out; omega); rw [hG, show r.length = n - 1 by have := HRL.out; omega] at h; exact h)
    clear hG
    go_wp2_with fail
    refine HG.out.mono ?_
    rintro e w3 ⟨hgt, hb3⟩
    have hM3 := hM.below hb3
    clear u0 u4 e0
    cases G with
    | none =>
      have HE : Hid (X = none) := Lib.hid (by rw [← HJ.out, HMM.out.1]; exact joinM_name (by rw [getG_false]; exact HGB.out))
      have hgt' : e = .returned (.tuple #[.string ⟨#[]⟩, .slice none 0 0, .bool false]) := hgt
      clear hgt HG
      subst hgt'
      go_upto_region 9 with fail
      obtain ⟨e0, e1, e2, e3, e4⟩ : w3.cell? ⟨go, 0, none⟩ = some (.int .i64 6) ∧ w3.cell? ⟨go, 1, none⟩ = some (.int .i64 0) ∧ w3.cell? ⟨go, 2, none⟩ = some (.string ⟨#[]⟩) ∧ w3.cell? ⟨go, 3, none⟩ = some (.slice An ns.length cn) ∧ w3.cell? ⟨go, 4, none⟩ = some (.slice Ai is.length ci) := ⟨hM3.v.cell 0, hM3.v.cell 1, hM3.v.cell 2, hM3.v.cell 3, hM3.v.cell 4⟩
      obtain ⟨x0, x1, x2, x3, x4⟩ : w3.cell? ⟨gr, 0, none⟩ = some (.int .i64 0) ∧ w3.cell? ⟨gr, 1, none⟩ = some (.int .i64 0) ∧ w3.cell? ⟨gr, 2, none⟩ = some (.string ⟨#[]⟩) ∧ w3.cell? ⟨gr, 3, none⟩ = some (.slice none 0 0) ∧ w3.cell? ⟨gr, 4, none⟩ = some (.slice none 0 0) := ⟨hM3.res.cell 0, hM3.res.cell 1, hM3.res.cell 2, hM3.res.cell 3, hM3.res.cell 4⟩
      obtain ⟨y0, y1, y2, y3, y4⟩ : w3.frozen? ⟨gr, 0, none⟩ = false ∧ w3.frozen? ⟨gr, 1, none⟩ = false ∧ w3.frozen? ⟨gr, 2, none⟩ = false ∧ w3.frozen? ⟨gr, 3, none⟩ = false ∧ w3.frozen? ⟨gr, 4, none⟩ = false := ⟨hM3.res.free 0, hM3.res.free 1, hM3.res.free 2, hM3.res.free 3, hM3.res.free 4⟩
      obtain ⟨W9, hW9⟩ : ∃ W9, W9 = (((((w3.setCell ⟨gr, 0, none⟩ (.int .i64 6)).setCell ⟨gr, 1, none⟩ (.int .i64 0)).setCell ⟨gr, 2, none⟩ (.string ⟨#[]⟩)).setCell ⟨gr, 3, none⟩ (.slice An ns.length cn)).setCell ⟨gr, 4, none⟩ (.slice Ai is.length ci)) := ⟨_, rfl⟩
      have hC9 : Chg w3 W9 (fun k => k = gr) := by rw [hW9]; exact chg_five w3 gr (.int .i64 6) (.int .i64 0) (.string ⟨#[]⟩) (.slice An ns.length cn) (.slice Ai is.length ci)
      have hZ9 : Blk W9 gr 25 #[.int .i64 6, .int .i64 0, .string ⟨#[]⟩, .slice An ns.length cn, .slice Ai is.length ci] := by rw [hW9]; exact hM3.res.five (.int .i64 6) (.int .i64 0) (.string ⟨#[]⟩) (.slice An ns.length cn) (.slice Ai is.length ci)
      obtain ⟨j0, j1, j2, j3, j4⟩ : W9.cell? ⟨gr, 0, none⟩ = some (.int .i64 6) ∧ W9.cell? ⟨gr, 1, none⟩ = some (.int .i64 0) ∧ W9.cell? ⟨gr, 2, none⟩ = some (.string ⟨#[]⟩) ∧ W9.cell? ⟨gr, 3, none⟩ = some (.slice An ns.length cn) ∧ W9.cell? ⟨gr, 4, none⟩ = some (.slice Ai is.length ci) := ⟨hZ9.cell 0, hZ9.cell 1, hZ9.cell 2, hZ9.cell 3, hZ9.cell 4⟩
      have hD := MvS.done (k := (6)) (n := (0)) (s := ⟨#[]⟩) (An := An) (ns := ns) (cn := cn) (Ai := Ai) (is := is) (ci := ci) hM3 hC9 (by omega) (by omega) (by decide) hnsz
      have HD := Lib.hid hD
      have HW9 := Lib.hid hW9
      clear hW9 hD
      go_wp2
      rw [← HW9.out]
      exact bodyPost_ret (v := .tuple #[.agg #[.int .i64 6, .int .i64 0, .string ⟨#[]⟩, .slice An ns.length cn, .slice Ai is.length ci], .slice none 0 0, .bool false]) (by simp [results, Tryd.results49, go_sem, j0, j1, j2, j3, j4]) rfl ⟨by rw [HE.out]; exact ⟨LV.mk (6) (0) ⟨#[]⟩ An ns cn Ai is ci, none, 0, 0, rfl⟩, HD.out.2.2⟩
    | some q =>
    obtain ⟨sx, tx⟩ := q
    obtain ⟨Ax, cx, he, hBx⟩ := hgt
    have he' : e = .returned (.tuple #[.string (strOfNums sx), .slice Ax tx.length cx, .bool true]) := he
    clear he HG
    subst he'
    have HTX : Hid (tx.length ≤ N) := Lib.hid (by have := getB_len _ (Nat.le_refl _) HGB.out; have := HRL.out; omega)
    have hss : (strOfNums sx).size ≤ 9223372036854775807 := by rw [strNums_size]; have h1 := HGB.out; have h2 := getB_taken _ (Nat.le_refl _) h1; have := HRL.out; omega
    obtain ⟨st, hst⟩ : ∃ st, strOfNums sx = st := ⟨_, rfl⟩
    rw [hst] at hss ⊢
    have HST := Lib.hid hst
    clear hst
    have u3 : w3.cell? ⟨go, 3, none⟩ = some (.slice An ns.length cn) := hM3.v.cell 3
    go_upto_region 11 with (first | (at_builtin; refine SOwn.any rfl (.tmp 50) (.tmp 52) rfl (go + 2) (.slice An ns.length cn) ns rfl (hM3.on.alloc _) (w3.heap.size + 1) (some ⟨w3.heap.size, 0, none⟩) 1 1 [st] rfl rfl (one_text w3 _) (by simp; omega) (Nat.le_trans hM3.lt (by simp)) ?_; intro A8 c8 w8 hO8 hG8; have hv8 := (hM3.alloc _).v.grew (hM3.alloc _).on (hM3.hg) hG8; obtain ⟨t3, t4⟩ : w8.cell? ⟨go, 3, none⟩ = some (.slice An ns.length cn) ∧ w8.frozen? ⟨go, 3, none⟩ = false := ⟨hv8.cell 3, hv8.free 3⟩))
    have hM8 := (hM3.alloc (.cells #[.string st] 9)).names hO8 hG8
    have hnsz2 : ∀ t ∈ ns ++ [st], t.size ≤ 9223372036854775807 := fun t ht => by
      rcases List.mem_append.1 ht with ht | ht
      · exact hnsz t ht
      · rw [List.mem_singleton.1 ht]; exact hss
    obtain ⟨ns2, hns2⟩ : ∃ ns2, ns ++ [st] = ns2 := ⟨_, rfl⟩
    have hl2 : ns.length + 1 = ns2.length := by rw [← hns2]; simp
    have HNS := Lib.hid hns2
    rw [hns2] at hM8 hnsz2
    rw [hl2] at hM8 ⊢
    have hnn2 : ns2.length ≤ is.length + 1 := by omega
    obtain ⟨W8, hW8⟩ : ∃ W8, w8.setCell ⟨go, 3, none⟩ (.slice A8 ns2.length c8) = W8 := ⟨_, rfl⟩
    rw [hW8] at hM8 ⊢
    clear hW8 t3 t4 u3 hO8 hG8 hns2 hl2 hv8
    have hbh8 : Below wh.heap.size wh W8 := h0.trans (hM8.b.mono h0.size)
    have u0 := hM8.v.cell 0
    have u4 := hM8.v.cell 4
    have e0 := hM8.v.cell 1
    clear hnsz hnn
    have hnsz := hnsz2
    obtain ⟨Y, hY⟩ : ∃ Y, valG false l (tx) = Y := ⟨_, rfl⟩
    have HY := Lib.hid hY
    have HC : Hid (Calls Tryd.prog 30 #[.slice (Ax) tx.length cx, .int .i64 l] W8 fun e w' => RvIs wh W8 Y e w' ∧ Below W8.heap.size W8 w') := Lib.hid (by have h := HIH.out (Ax) (cx) (tx) W8 hBx hbh8 (by have := HTX.out; omega); rw [hY] at h; exact h)
    clear hY
    go_wp2_with fail
    refine HC.out.mono ?_
    rintro e w4 ⟨hrv, hb4⟩
    have hM4 := hM8.below hb4
    have hb44 := hb4
    clear HC u0 u4 e0
    cases Y with
    | none =>
      have HE : Hid (X = none) := Lib.hid (by rw [← HJ.out, HMM.out.1]; exact joinM_item (by rw [getG_false]; exact HGB.out) HY.out)
      obtain ⟨z, Az, nz', cz', he⟩ := hrv
      obtain ⟨kz, nz, sz, Anz, nsz, cnz, Aiz, isz, ciz⟩ := z
      have he' : e = .returned (.tuple #[.agg #[.int .i64 kz, .int .i64 nz, .string sz, .slice Anz nsz.length cnz, .slice Aiz isz.length ciz], .slice Az nz' cz', .bool false]) := he
      clear he
      subst he'
      obtain ⟨w5, hw5⟩ : ∃ w5, w5 = w4.alloc (.cells #[.int .i64 kz, .int .i64 nz, .string sz, .slice Anz nsz.length cnz, .slice Aiz isz.length ciz] 25) := ⟨_, rfl⟩
      have hM5 : MvS w w5 gr go (go + 2) 6 0 ⟨#[]⟩ (.slice A8 ns2.length c8) (.slice Ai is.length ci) ns2 is := by rw [hw5]; exact hM4.alloc _
      have HW5 := Lib.hid hw5
      clear hw5
      go_upto_region 13 with fail
      rw [← HW5.out]
      obtain ⟨e0, e1, e2, e3, e4⟩ : w5.cell? ⟨go, 0, none⟩ = some (.int .i64 6) ∧ w5.cell? ⟨go, 1, none⟩ = some (.int .i64 0) ∧ w5.cell? ⟨go, 2, none⟩ = some (.string ⟨#[]⟩) ∧ w5.cell? ⟨go, 3, none⟩ = some (.slice A8 ns2.length c8) ∧ w5.cell? ⟨go, 4, none⟩ = some (.slice Ai is.length ci) := ⟨hM5.v.cell 0, hM5.v.cell 1, hM5.v.cell 2, hM5.v.cell 3, hM5.v.cell 4⟩
      obtain ⟨x0, x1, x2, x3, x4⟩ : w5.cell? ⟨gr, 0, none⟩ = some (.int .i64 0) ∧ w5.cell? ⟨gr, 1, none⟩ = some (.int .i64 0) ∧ w5.cell? ⟨gr, 2, none⟩ = some (.string ⟨#[]⟩) ∧ w5.cell? ⟨gr, 3, none⟩ = some (.slice none 0 0) ∧ w5.cell? ⟨gr, 4, none⟩ = some (.slice none 0 0) := ⟨hM5.res.cell 0, hM5.res.cell 1, hM5.res.cell 2, hM5.res.cell 3, hM5.res.cell 4⟩
      obtain ⟨y0, y1, y2, y3, y4⟩ : w5.frozen? ⟨gr, 0, none⟩ = false ∧ w5.frozen? ⟨gr, 1, none⟩ = false ∧ w5.frozen? ⟨gr, 2, none⟩ = false ∧ w5.frozen? ⟨gr, 3, none⟩ = false ∧ w5.frozen? ⟨gr, 4, none⟩ = false := ⟨hM5.res.free 0, hM5.res.free 1, hM5.res.free 2, hM5.res.free 3, hM5.res.free 4⟩
      obtain ⟨W9, hW9⟩ : ∃ W9, W9 = (((((w5.setCell ⟨gr, 0, none⟩ (.int .i64 6)).setCell ⟨gr, 1, none⟩ (.int .i64 0)).setCell ⟨gr, 2, none⟩ (.string ⟨#[]⟩)).setCell ⟨gr, 3, none⟩ (.slice A8 ns2.length c8)).setCell ⟨gr, 4, none⟩ (.slice Ai is.length ci)) := ⟨_, rfl⟩
      have hC9 : Chg w5 W9 (fun k => k = gr) := by rw [hW9]; exact chg_five w5 gr (.int .i64 6) (.int .i64 0) (.string ⟨#[]⟩) (.slice A8 ns2.length c8) (.slice Ai is.length ci)
      have hZ9 : Blk W9 gr 25 #[.int .i64 6, .int .i64 0, .string ⟨#[]⟩, .slice A8 ns2.length c8, .slice Ai is.length ci] := by rw [hW9]; exact hM5.res.five (.int .i64 6) (.int .i64 0) (.string ⟨#[]⟩) (.slice A8 ns2.length c8) (.slice Ai is.length ci)
      obtain ⟨j0, j1, j2, j3, j4⟩ : W9.cell? ⟨gr, 0, none⟩ = some (.int .i64 6) ∧ W9.cell? ⟨gr, 1, none⟩ = some (.int .i64 0) ∧ W9.cell? ⟨gr, 2, none⟩ = some (.string ⟨#[]⟩) ∧ W9.cell? ⟨gr, 3, none⟩ = some (.slice A8 ns2.length c8) ∧ W9.cell? ⟨gr, 4, none⟩ = some (.slice Ai is.length ci) := ⟨hZ9.cell 0, hZ9.cell 1, hZ9.cell 2, hZ9.cell 3, hZ9.cell 4⟩
      have hD := MvS.done (k := (6)) (n := (0)) (s := ⟨#[]⟩) (An := A8) (ns := ns2) (cn := c8) (Ai := Ai) (is := is) (ci := ci) hM5 hC9 (by omega) (by omega) (by decide) hnsz
      have HD := Lib.hid hD
      have HW9 := Lib.hid hW9
      clear hW9 hD
      go_wp2
      rw [← HW9.out]
      exact bodyPost_ret (v := .tuple #[.agg #[.int .i64 6, .int .i64 0, .string ⟨#[]⟩, .slice A8 ns2.length c8, .slice Ai is.length ci], .slice none 0 0, .bool false]) (by simp [results, Tryd.results49, go_sem, j0, j1, j2, j3, j4]) rfl ⟨by rw [HE.out]; exact ⟨LV.mk (6) (0) ⟨#[]⟩ A8 ns2 c8 Ai is ci, none, 0, 0, rfl⟩, HD.out.2.2⟩
    | some q =>
    obtain ⟨jq, tq⟩ := q
    have HE : Hid (joinM ns2 (LV.js is ++ [jq]) (memG false (valG false l) true m tq) = X) := Lib.hid (by rw [← HJ.out, HMM.out.1]; exact by rw [← HNS.out, ← HST.out]; exact (joinM_both (by rw [getG_false]; exact HGB.out) HY.out).symm)
    obtain ⟨z, Az, cz', he, hz1, hz2, hzj, hBz⟩ := hrv
    obtain ⟨kz, nz, sz, Anz, nsz, cnz, Aiz, isz, ciz⟩ := z
    have he' : e = .returned (.tuple #[.agg #[.int .i64 kz, .int .i64 nz, .string sz, .slice Anz nsz.length cnz, .slice Aiz isz.length ciz], .slice Az tq.length cz', .bool true]) := he
    clear he
    subst he'
    have htq := valG_len _ _ _ _ HY.out
    have HTQ := Lib.hid htq
    have HZJ := Lib.hid hzj
    clear hzj htq
    obtain ⟨w5, hw5⟩ : ∃ w5, w5 = w4.alloc (.cells #[.int .i64 kz, .int .i64 nz, .string sz, .slice Anz nsz.length cnz, .slice Aiz isz.length ciz] 25) := ⟨_, rfl⟩
    have hM5 : MvS w w5 gr go (go + 2) 6 0 ⟨#[]⟩ (.slice A8 ns2.length c8) (.slice Ai is.length ci) ns2 is := by rw [hw5]; exact hM4.alloc _
    have hz5 : (LV.mk kz nz sz Anz nsz cnz Aiz isz ciz).At w5 := by rw [hw5]; exact LV.At.below ((Below.refl _ _).alloc (Nat.le_refl _) _) _ hz1
    have hZ5 : Blk w5 w4.heap.size 25 #[.int .i64 kz, .int .i64 nz, .string sz, .slice Anz nsz.length cnz, .slice Aiz isz.length ciz] := by rw [hw5]; exact Blk.new w4 _ _
    have hoff : (LV.mk kz nz sz Anz nsz cnz Aiz isz ciz).On (OffB (go + 2) (.slice A8 ns2.length c8) (.slice Ai is.length ci)) := hM8.off hz2
    obtain ⟨gz, hgz⟩ : ∃ g, w4.heap.size = g := ⟨_, rfl⟩
    rw [hgz] at hZ5
    have HW5 := Lib.hid hw5
    clear hw5
    go_upto_region 13 with fail
    first | rw [← HW5.out, hgz] | rw [← HW5.out]
    clear hgz
    obtain ⟨v0, v1, v2, v3, v4⟩ : w5.cell? ⟨gz, 0, none⟩ = some (.int .i64 kz) ∧ w5.cell? ⟨gz, 1, none⟩ = some (.int .i64 nz) ∧ w5.cell? ⟨gz, 2, none⟩ = some (.string sz) ∧ w5.cell? ⟨gz, 3, none⟩ = some (.slice Anz nsz.length cnz) ∧ w5.cell? ⟨gz, 4, none⟩ = some (.slice Aiz isz.length ciz) := ⟨hZ5.cell 0, hZ5.cell 1, hZ5.cell 2, hZ5.cell 3, hZ5.cell 4⟩
    have u4 : w5.cell? ⟨go, 4, none⟩ = some (.slice Ai is.length ci) := hM5.v.cell 4
    go_wp2_with (first | (at_builtin; refine VOwn.any rfl (.tmp 68) (.tmp 70) rfl (go + 2) (.slice Ai is.length ci) is rfl (hM5.oi.alloc _) (w5.heap.size + 1) (some ⟨w5.heap.size, 0, none⟩) 1 1 [(LV.mk kz nz sz Anz nsz cnz Aiz isz ciz)] rfl rfl (one_val w5 _ _ rfl) (by simp; omega) (Nat.le_trans hM5.lt (by simp)) ?_; intro A9 c9 w9 hO9 hG9; have hv9 := (hM5.alloc _).v.grew (hM5.alloc _).oi (hM5.hg) hG9; obtain ⟨g3, g4⟩ : w9.cell? ⟨go, 4, none⟩ = some (.slice Ai is.length ci) ∧ w9.frozen? ⟨go, 4, none⟩ = false := ⟨hv9.cell 4, hv9.free 4⟩))
    have hKF := (hM5.alloc (.cells #[.int .i64 kz, .int .i64 nz, .string sz, .slice Anz nsz.length cnz, .slice Aiz isz.length ciz] 25)).items hO9 hG9 (LV.At.below ((Below.refl _ _).alloc (Nat.le_refl _) _) _ hz5) hoff
    have hm9 : lenAt (w9.setCell ⟨go, 4, none⟩ (.slice A9 (is.length + 1) c9)) ⟨go, 4, none⟩ = is.length + 1 := by
      have e1 := hKF.v.cell 4
      unfold lenAt; rw [e1]; rfl
    go_roundw
    case rel => exact ⟨Az, cz', tq.length, tq, _, _, ns2, _, rfl, Lib.hid rfl, by have := HTQ.out; have := HTX.out; omega, hBz, hKF, by simp; omega, by simp; omega, hnsz, by rw [js_snoc, List.length_append, List.length_singleton, HMM.out.2, HZJ.out]; exact HE.out⟩
    case measure => rw [hm9, hm0]; omega
end Go.Proofs.YtpnbmgfnnmmokaaDoor
