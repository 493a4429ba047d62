/-
  Plain: what stands at a path; the contracts of Get, of path and of munimentref02.
-/
import Derived.Test.YtpnbmgfnnmmokaaDoorWh
import Derived.Test.YtpnbmgfnnmmokaaDoorTb
import Derived.LoopTactic
set_option linter.unusedVariables false
namespace Go.Proofs.YtpnbmgfnnmmokaaDoor
open Go.RowKit

def itemP : JV → Int → Option JV
  | .mk _ _ _ _ is, k => if 0 ≤ k then is[k.toNat]? else none
def getP : List ByteArray → JV → Option JV
  | [], j => some j
  | s :: ss, j => match itemP j (placeP j s) with
    | none => none
    | some x => getP ss x
open Classical in
/-- What stands at a path. -/
noncomputable def getX (j : JV) (s : ByteArray) : Option JV := match stepsP s (s.size + 1) 0 0 [] with
  | none => none
  | some l => if FormedP j 6 then getP l j else none
def zeroJ : JV := .mk 0 0 ⟨#[]⟩ [] []
def zeroV : LV := .mk 0 0 ⟨#[]⟩ none [] 0 none [] 0
theorem zero_at (w : World) : zeroV.At w := by
  unfold zeroV LV.At
  exact ⟨Cells.nil, Cells.nil, trivial, by omega, by omega, by decide, by simp, ⟨Nat.le_refl _, Nat.zero_le _⟩, ⟨Nat.le_refl _, Nat.zero_le _⟩⟩
abbrev zeroBlk : Array Value := #[.int .i64 0, .int .i64 0, .string ⟨#[]⟩, .slice none 0 0, .slice none 0 0]
theorem Blk.five {w : World} {g : Nat} {t : TypeId} {x y z u v : Value} (h : Blk w g t #[x, y, z, u, v]) (a b c d e : Value) : Blk (((((w.setCell ⟨g, 0, none⟩ (a)).setCell ⟨g, 1, none⟩ (b)).setCell ⟨g, 2, none⟩ (c)).setCell ⟨g, 3, none⟩ (d)).setCell ⟨g, 4, none⟩ (e)) g t #[a, b, c, d, e] := by
  have := ((((h.set_ 0 a).set_ 1 b).set_ 2 c).set_ 3 d).set_ 4 e
  simpa using this
theorem chg_five (w : World) (g : Nat) (a b c d e : Value) : Chg w (((((w.setCell ⟨g, 0, none⟩ (a)).setCell ⟨g, 1, none⟩ (b)).setCell ⟨g, 2, none⟩ (c)).setCell ⟨g, 3, none⟩ (d)).setCell ⟨g, 4, none⟩ (e)) (fun k => k = g) :=
  ((((Chg.setCell w ⟨g, 0, none⟩ a).trans (Chg.setCell _ ⟨g, 1, none⟩ b) fun i hi => .inl hi).trans (Chg.setCell _ ⟨g, 2, none⟩ c) fun i hi => .inl hi).trans (Chg.setCell _ ⟨g, 3, none⟩ d) fun i hi => .inl hi).trans (Chg.setCell _ ⟨g, 4, none⟩ e) fun i hi => .inl hi
theorem Blk.chg {w w' : World} {g : Nat} {t : TypeId} {cs : Array Value} {S : Nat → Prop} (h : Blk w g t cs) (hc : Chg w w' S) (hg : ¬ S g) : Blk w' g t cs := by
  have hl := h.lt
  unfold Blk at *
  rw [hc.block g hl hg]
  exact h
theorem row_otherP {w : World} {base : Nat} {e : TypeId} {size n g : Nat} {v : Value} {xs : List Value} (h : w.ownsRow base e size v n xs) (hg : g < base) : v.ownBlock = none ∨ v.ownBlock ≠ some g := by
  rcases h.2 with ⟨rfl, _⟩ | ⟨b, cap, cur, rfl, hb, _⟩
  · exact .inl rfl
  · refine .inr fun e => ?_
    injection e with e
    have e : b = g := e
    omega
theorem row_chgP {w w' : World} {base : Nat} {e : TypeId} {size n : Nat} {v : Value} {xs : List Value} {g : Nat} (h : w.ownsRow base e size v n xs) (hc : Chg w w' (fun k => k = g)) (hg : g < base) : w'.ownsRow base e size v n xs :=
  World.ownsRow.kept (row := some g) h ⟨hc.os, hc.tape, hc.output, hc.size, fun k hk hne => hc.block k hk fun e => hne (by rw [e])⟩ (row_otherP h hg)
theorem place_lt {k n : Int} {s : ByteArray} {ns : List ByteArray} {is : List JV} {left : Nat} (hf : FormedP (.mk k n s ns is) left) {st : ByteArray} (h0 : 0 ≤ placeP (.mk k n s ns is) st) : (placeP (.mk k n s ns is) st).toNat < is.length := by
  rw [FormedP] at hf
  rw [placeP] at h0 ⊢
  by_cases h5 : k = 5
  · rw [if_pos h5] at h0 ⊢
    by_cases hn : numP st < is.length
    · rw [if_pos hn] at h0 ⊢; omega
    · rw [if_neg hn] at h0; omega
  · rw [if_neg h5] at h0 ⊢
    by_cases h6 : k = 6
    · rw [if_pos h6] at h0 ⊢
      have hl := (hf.2.1.2.2.2.2.2.2 (by omega)).2.1 h6
      rcases findGo_ge st ns 0 with h | ⟨h1, h2⟩
      · omega
      · omega
    · rw [if_neg h6] at h0; omega
theorem formed_item {k n : Int} {s : ByteArray} {ns : List ByteArray} {is : List JV} {left : Nat} (hf : FormedP (.mk k n s ns is) left) {x : JV} (hx : x ∈ is) : FormedP x (left - 1) := by
  rw [FormedP] at hf
  exact formedAll_iff.1 hf.2.2.2 x hx

/-- The answer of Get. -/
def GetRes (X : Option JV) (e : Ending) (w' : World) : Prop := ∃ v : LV, e = .returned (.tuple #[v.val, .bool X.isSome]) ∧ v.At w' ∧ v.j = X.getD zeroJ

end Go.Proofs.YtpnbmgfnnmmokaaDoor
