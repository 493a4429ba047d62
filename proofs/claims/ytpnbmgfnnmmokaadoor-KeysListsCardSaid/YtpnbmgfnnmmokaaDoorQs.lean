/-
  Reading keys: where the program's reader stands, a value under construction.
-/
import Derived.Test.YtpnbmgfnnmmokaaDoorQr
import Derived.Test.YtpnbmgfnnmmokaaDoorWk
set_option linter.unusedVariables false
namespace Go.Proofs.YtpnbmgfnnmmokaaDoor
open Go.RowKit

mutual
theorem LV.On.and {S T : Nat → Prop} : ∀ v : LV, v.On S → v.On T → v.On (fun k => S k ∧ T k)
  | .mk k n s An ns cn Ai is ci, h, g => by
    unfold LV.On at h g ⊢
    exact ⟨fun a e hn => ⟨h.1 a e hn, g.1 a e hn⟩, fun a e hn => ⟨h.2.1 a e hn, g.2.1 a e hn⟩, LV.AllOn.and is h.2.2 g.2.2⟩
theorem LV.AllOn.and {S T : Nat → Prop} : ∀ is : List LV, LV.AllOn S is → LV.AllOn T is → LV.AllOn (fun k => S k ∧ T k) is
  | [], _, _ => trivial
  | v :: vs, h, g => ⟨LV.On.and v h.1 g.1, LV.AllOn.and vs h.2 g.2⟩
end
theorem own_new {w w' : World} {v v' : Value} (h : Grew w v w' v') {k : Nat} (hk : k < w.heap.size) (hne : some k ≠ v.ownBlock) : some k ≠ v'.ownBlock := by
  intro e
  rcases h.at_ with e2 | e2
  · rw [e2] at e; exact hne e
  · have := e2 k e.symm; omega
theorem own_lt {w : World} {base : Nat} {e : TypeId} {size n : Nat} {v : Value} {xs : List Value} (h : w.ownsRow base e size v n xs) {k : Nat} (hk : w.heap.size ≤ k) : some k ≠ v.ownBlock := fun e2 => by have := (h.lt k e2.symm).2; omega

/-- The program's reader at the block r: the bytes, how many were read, whether there is none. -/
def RdAt (w : World) (r : Nat) (A : Option Addr) (c : Nat) (b : List Int) (p : Nat) (no : Bool) : Prop := Blk w r 54 #[.slice A b.length c, .int .i64 p, .bool no]
/-- The blocks of an item: none of those that are written. -/
def Off (go : Nat) (vn vi : Value) (k : Nat) : Prop := go < k ∧ some k ≠ vn.ownBlock ∧ some k ≠ vi.ownBlock
/-- A value under construction, and the reader. -/
structure KvS (w0 wr : World) (gr r go : Nat) (A : Option Addr) (c : Nat) (b : List Int) (p : Nat) (no : Bool) (k n : Int) (s : ByteArray) (vn vi : Value) (ns : List ByteArray) (is : List LV) : Prop where
  rd : RdAt wr r A c b p no
  res : Blk wr gr 25 zeroBlk
  v : Blk wr go 25 #[.int .i64 k, .int .i64 n, .string s, vn, vi]
  on : SOwn wr (go + 1) vn ns
  oi : VOwn wr (go + 1) vi is
  its : ∀ x ∈ is, x.At wr ∧ x.On (Off go vn vi)
  lt : go + 1 ≤ wr.heap.size
  rlt : r < w0.heap.size
  glo : w0.heap.size ≤ gr
  lo : gr < go
  chg : Chg w0 wr (fun k => k = r)
section
variable {w0 wr w2 : World} {gr r go : Nat} {A : Option Addr} {c : Nat} {b : List Int} {p p' : Nat} {no no' : Bool} {k n : Int} {s : ByteArray} {vn vi u : Value} {ns ns' : List ByteArray} {is is' : List LV}
theorem KvS.fresh (h : RdAt wr r A c b p no) (hr : r < w0.heap.size) (hres : Blk wr gr 25 zeroBlk) (hg : w0.heap.size ≤ gr) (hc : Chg w0 wr (fun k => k = r)) (hv : Blk wr go 25 #[.int .i64 k, .int .i64 n, .string s, .slice none 0 0, .slice none 0 0]) (hlo : gr < go) :
    KvS w0 wr gr r go A c b p no k n s (.slice none 0 0) (.slice none 0 0) [] [] :=
  ⟨h, hres, hv, SOwn.nil _ _, VOwn.nil _ _, fun x hx => (by cases hx), hv.lt, hr, hg, hlo, hc⟩
theorem KvS.alloc (h : KvS w0 wr gr r go A c b p no k n s vn vi ns is) (o : Obj) : KvS w0 (wr.alloc o) gr r go A c b p no k n s vn vi ns is :=
  ⟨Blk.alloc h.rd o, h.res.alloc o, h.v.alloc o, h.on.alloc o, h.oi.alloc o, fun x hx => ⟨LV.At.below ((Below.refl _ _).alloc (Nat.le_refl _) _) x (h.its x hx).1, (h.its x hx).2⟩, by have := h.lt; simp; omega, h.rlt, h.glo, h.lo, h.chg.trans (Chg.alloc wr o _) fun i hi => .inl hi⟩
theorem KvS.drew (h : KvS w0 wr gr r go A c b p no k n s vn vi ns is) : KvS w0 wr.drew gr r go A c b p no k n s vn vi ns is :=
  ⟨Blk.drew h.rd, h.res.drew, h.v.drew, h.on.drew, h.oi.drew, fun x hx => ⟨LV.At.below (Below.refl _ _).drew x (h.its x hx).1, (h.its x hx).2⟩, h.lt, h.rlt, h.glo, h.lo, h.chg.trans (Chg.drew wr (fun k => k = r)) fun i hi => .inl hi⟩
/-- The reader has gone on. -/
theorem KvS.read (h : KvS w0 wr gr r go A c b p no k n s vn vi ns is) (hc : Chg wr w2 (fun k => k = r)) (hr : RdAt w2 r A c b p' no') : KvS w0 w2 gr r go A c b p' no' k n s vn vi ns is := by
  have lo := h.lo
  have glo := h.glo
  have rlt := h.rlt
  exact ⟨hr, h.res.chg hc (by omega), h.v.chg hc (by omega), row_chgP h.on hc (by omega), row_chgP h.oi hc (by omega),
    fun x hx => ⟨LV.At.move (S := Off go vn vi) (fun k hk hl => hc.block k hl (by have := hk.1; omega)) hc.size x (h.its x hx).1 (h.its x hx).2, (h.its x hx).2⟩,
    Nat.le_trans h.lt hc.size, rlt, glo, lo, h.chg.trans hc fun i hi => .inl hi⟩
/-- The names have grown. -/
theorem KvS.names (h : KvS w0 wr gr r go A c b p no k n s vn vi ns is) (hO : SOwn w2 (go + 1) u ns') (hG : Grew wr vn w2 u) : KvS w0 (w2.setCell ⟨go, 3, none⟩ u) gr r go A c b p no k n s u vi ns' is := by
  have lo := h.lo
  have glo := h.glo
  have rlt := h.rlt
  have g1 : Blk w2 r _ _ := Blk.grew h.rd h.on (by omega) hG
  have g2 := h.res.grew h.on (by omega) hG
  have g3 := h.v.grew h.on (by omega) hG
  have hi : VOwn w2 (go + 1) vi is := owns_grown h.oi hG.by_ (owns_apart h.oi h.on (by decide))
  have g4 := g3.set_ 3 u
  have hst := Chg.setCell w2 ⟨go, 3, none⟩ u
  refine ⟨g1.far (by show r ≠ go; omega) _, g2.far (by show gr ≠ go; omega) _, by simpa using g4, owns_store hO (by omega) _ _, owns_store hi (by omega) _ _, fun x hx => ?_, Nat.le_trans (Nat.le_trans h.lt hG.by_.size) hst.size, rlt, glo, lo, ?_⟩
  · obtain ⟨a1, a2⟩ := h.its x hx
    have a3 := LV.On.and x a2 a1.on
    have a4 : x.At w2 := LV.At.move (S := Off go vn vi) (fun k hk hl => hG.by_.block k hl hk.2.1) hG.by_.size x a1 a2
    refine ⟨LV.At.move (S := Off go vn vi) (fun k hk hl => hst.block k hl (by have := hk.1; show ¬ k = go; omega)) hst.size x a4 a2, LV.On.mono (fun k hk => ⟨hk.1.1, own_new hG hk.2 hk.1.2.1, hk.1.2.2⟩) x a3⟩
  · have hb : Below w0.heap.size wr (w2.setCell ⟨go, 3, none⟩ u) := ((grew_below h.on h.lt hG).mono (by omega)).setCell (p := ⟨go, 3, none⟩) (by show w0.heap.size ≤ go; omega) _
    exact ⟨hb.os.trans h.chg.os, hb.tape.trans h.chg.tape, hb.output.trans h.chg.output, Nat.le_trans h.chg.size hb.size, fun k hk hne => (hb.block k hk).trans (h.chg.block k hk hne)⟩
/-- The items have grown by one. -/
theorem KvS.items (h : KvS w0 wr gr r go A c b p no k n s vn vi ns is) {x : LV} (hO : VOwn w2 (go + 1) u (is ++ [x])) (hG : Grew wr vi w2 u) (hx : x.At wr) (hx2 : x.On (Off go vn vi)) : KvS w0 (w2.setCell ⟨go, 4, none⟩ u) gr r go A c b p no k n s vn u ns (is ++ [x]) := by
  have lo := h.lo
  have glo := h.glo
  have rlt := h.rlt
  have g1 : Blk w2 r _ _ := Blk.grew h.rd h.oi (by omega) hG
  have g2 := h.res.grew h.oi (by omega) hG
  have g3 := h.v.grew h.oi (by omega) hG
  have hi : SOwn w2 (go + 1) vn ns := owns_grown h.on hG.by_ (owns_apart h.on h.oi (by decide))
  have g4 := g3.set_ 4 u
  have hst := Chg.setCell w2 ⟨go, 4, none⟩ u
  refine ⟨g1.far (by show r ≠ go; omega) _, g2.far (by show gr ≠ go; omega) _, by simpa using g4, owns_store hi (by omega) _ _, owns_store hO (by omega) _ _, fun y hy => ?_, Nat.le_trans (Nat.le_trans h.lt hG.by_.size) hst.size, rlt, glo, lo, ?_⟩
  · have hy' : y.At wr ∧ y.On (Off go vn vi) := by
      rcases List.mem_append.1 hy with hy | hy
      · exact h.its y hy
      · rw [List.mem_singleton.1 hy]; exact ⟨hx, hx2⟩
    obtain ⟨a1, a2⟩ := hy'
    have a3 := LV.On.and y a2 a1.on
    have a4 : y.At w2 := LV.At.move (S := Off go vn vi) (fun k hk hl => hG.by_.block k hl hk.2.2) hG.by_.size y a1 a2
    refine ⟨LV.At.move (S := Off go vn vi) (fun k hk hl => hst.block k hl (by have := hk.1; show ¬ k = go; omega)) hst.size y a4 a2, LV.On.mono (fun k hk => ⟨hk.1.1, hk.1.2.1, own_new hG hk.2 hk.1.2.2⟩) y a3⟩
  · have hb : Below w0.heap.size wr (w2.setCell ⟨go, 4, none⟩ u) := ((grew_below h.oi h.lt hG).mono (by omega)).setCell (p := ⟨go, 4, none⟩) (by show w0.heap.size ≤ go; omega) _
    exact ⟨hb.os.trans h.chg.os, hb.tape.trans h.chg.tape, hb.output.trans h.chg.output, Nat.le_trans h.chg.size hb.size, fun k hk hne => (hb.block k hk).trans (h.chg.block k hk hne)⟩
/-- A number or a text was stored. -/
theorem KvS.num (h : KvS w0 wr gr r go A c b p no k n s vn vi ns is) (n' : Int) : KvS w0 (wr.setCell ⟨go, 1, none⟩ (.int .i64 n')) gr r go A c b p no k n' s vn vi ns is := by
  have lo := h.lo
  have glo := h.glo
  have rlt := h.rlt
  have hst := Chg.setCell wr ⟨go, 1, none⟩ (.int .i64 n')
  have g4 := h.v.set_ 1 (.int .i64 n')
  exact ⟨Blk.far h.rd (by show r ≠ go; omega) _, h.res.far (by show gr ≠ go; omega) _, by simpa using g4, owns_store h.on (by omega) _ _, owns_store h.oi (by omega) _ _,
    fun x hx => ⟨LV.At.move (S := Off go vn vi) (fun k hk hl => hst.block k hl (by have := hk.1; show ¬ k = go; omega)) hst.size x (h.its x hx).1 (h.its x hx).2, (h.its x hx).2⟩,
    Nat.le_trans h.lt hst.size, rlt, glo, lo, ⟨hst.os.trans h.chg.os, hst.tape.trans h.chg.tape, hst.output.trans h.chg.output, Nat.le_trans h.chg.size hst.size, fun k hk hne => (hst.block k (Nat.lt_of_lt_of_le hk h.chg.size) (by show ¬ k = go; omega)).trans (h.chg.block k hk hne)⟩⟩
theorem KvS.txt (h : KvS w0 wr gr r go A c b p no k n s vn vi ns is) (s' : ByteArray) : KvS w0 (wr.setCell ⟨go, 2, none⟩ (.string s')) gr r go A c b p no k n s' vn vi ns is := by
  have lo := h.lo
  have glo := h.glo
  have rlt := h.rlt
  have hst := Chg.setCell wr ⟨go, 2, none⟩ (.string s')
  have g4 := h.v.set_ 2 (.string s')
  exact ⟨Blk.far h.rd (by show r ≠ go; omega) _, h.res.far (by show gr ≠ go; omega) _, by simpa using g4, owns_store h.on (by omega) _ _, owns_store h.oi (by omega) _ _,
    fun x hx => ⟨LV.At.move (S := Off go vn vi) (fun k hk hl => hst.block k hl (by have := hk.1; show ¬ k = go; omega)) hst.size x (h.its x hx).1 (h.its x hx).2, (h.its x hx).2⟩,
    Nat.le_trans h.lt hst.size, rlt, glo, lo, ⟨hst.os.trans h.chg.os, hst.tape.trans h.chg.tape, hst.output.trans h.chg.output, Nat.le_trans h.chg.size hst.size, fun k hk hne => (hst.block k (Nat.lt_of_lt_of_le hk h.chg.size) (by show ¬ k = go; omega)).trans (h.chg.block k hk hne)⟩⟩
/-- The value as it is returned, in a world in which only its result's block was written since. -/
theorem KvS.done {An : Option Addr} {cn : Nat} {Ai : Option Addr} {ci : Nat} (h : KvS w0 wr gr r go A c b p no k n s (.slice An ns.length cn) (.slice Ai is.length ci) ns is) {W9 : World} (hW : Chg wr W9 (fun k => k = gr)) (hk : -9223372036854775808 ≤ k ∧ k ≤ 9223372036854775807) (hn : -9223372036854775808 ≤ n ∧ n ≤ 9223372036854775807)
    (hs : s.size ≤ 9223372036854775807) (hns : ∀ t ∈ ns, t.size ≤ 9223372036854775807) :
    (LV.mk k n s An ns cn Ai is ci).At W9 ∧ (LV.mk k n s An ns cn Ai is ci).On (fun k => w0.heap.size ≤ k) ∧ RdAt W9 r A c b p no ∧ Chg w0 W9 (fun k => k = r) := by
  have lo := h.lo
  have glo := h.glo
  have rlt := h.rlt
  have h1 : SOwn W9 (go + 1) (.slice An ns.length cn) ns := row_chgP h.on hW (by omega)
  have h2 : VOwn W9 (go + 1) (.slice Ai is.length ci) is := row_chgP h.oi hW (by omega)
  obtain ⟨c1, c2, c3, _⟩ := h1.cells
  obtain ⟨d1, d2, d3, _⟩ := h2.cells
  unfold maxLen at c3 d3
  refine ⟨?_, ?_, Blk.chg h.rd hW (by omega), ⟨hW.os.trans h.chg.os, hW.tape.trans h.chg.tape, hW.output.trans h.chg.output, Nat.le_trans h.chg.size hW.size, fun k hk hne => (hW.block k (Nat.lt_of_lt_of_le hk h.chg.size) (by omega)).trans (h.chg.block k hk hne)⟩⟩
  · unfold LV.At
    refine ⟨c1, d1, LV.allAt.2 fun y hy => ?_, hk, hn, hs, hns, ⟨c2, by omega⟩, ⟨d2, by omega⟩⟩
    obtain ⟨a1, a2⟩ := h.its y hy
    exact LV.At.move (S := Off go (.slice An ns.length cn) (.slice Ai is.length ci)) (fun b hb hl => hW.block b hl (by have := hb.1; omega)) hW.size _ a1 a2
  · unfold LV.On
    refine ⟨fun a ha _ => ?_, fun a ha _ => ?_, LV.allOn.2 fun y hy => LV.On.mono (fun b hb => by have := hb.1; omega) _ (h.its y hy).2⟩
    · have := own_blk h.on ha; omega
    · have := own_blk h.oi ha; omega
/-- A value that was read behind here is none of what is written. -/
theorem KvS.off (h : KvS w0 wr gr r go A c b p no k n s vn vi ns is) {x : LV} (hx : x.On (fun k => wr.heap.size ≤ k)) : x.On (Off go vn vi) :=
  LV.On.mono (fun k hk => ⟨by have := h.lt; omega, own_lt h.on hk, own_lt h.oi hk⟩) x hx
end
end Go.Proofs.YtpnbmgfnnmmokaaDoor
