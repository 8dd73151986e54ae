/-
  Locks: their check.
-/
import Derived.Test.YtafdijjcangflaaDoorLin6
namespace Go.Proofs.YtafdijjcangflaaDoor
open Go.RowKit

/-- A lock. -/
structure LK where
  ep : Int
  sh : Bool
  hs : List ByteArray

def epochOk (n : Int) : Bool := decide (0 ≤ n) && decide (n ≤ 1073741824)
def isHold (s : ByteArray) : Bool := !s.toList.isEmpty && validL s

/-- The error of the holder at i. -/
def errAt (hs : List ByteArray) (i : Nat) : Nat :=
  if isHold (hs[i]?.getD ⟨#[]⟩) = false then 12 else if 0 < i ∧ 0 ≤ cmpName (hs[i - 1]?.getD ⟨#[]⟩) (hs[i]?.getD ⟨#[]⟩) then 32 else 0
def chk (hs : List ByteArray) : Nat := match (List.range hs.length).find? (fun i => errAt hs i != 0) with
  | none => 0
  | some i => errAt hs i
/-- The error of a lock. -/
def checkL (l : LK) : Nat :=
  if epochOk l.ep = false then 2 else if 32 < l.hs.length then 9 else if chk l.hs ≠ 0 then chk l.hs else if l.sh = false ∧ 1 < l.hs.length then 10 else if l.sh = true ∧ l.hs.length = 0 then 3 else 0

def OkTo (hs : List ByteArray) (k : Nat) : Prop := ∀ j, j < k → errAt hs j = 0
theorem chk_at {hs : List ByteArray} {k : Nat} (h : OkTo hs k) (hk : k < hs.length) (he : errAt hs k ≠ 0) : chk hs = errAt hs k := by
  have : (List.range hs.length).find? (fun i => errAt hs i != 0) = some k := by
    rw [List.find?_eq_some_iff_getElem]
    refine ⟨by simpa using he, k, by simpa using hk, by simp, fun j hj => by simp [h j hj]⟩
  simp [chk, this]
theorem chk_all {hs : List ByteArray} (h : OkTo hs hs.length) : chk hs = 0 := by
  have : (List.range hs.length).find? (fun i => errAt hs i != 0) = none := by
    rw [List.find?_eq_none]
    intro i hi
    simp [h i (by simpa using hi)]
  simp [chk, this]

/-- A slice value that reads as a list of texts. -/
def SeesStrs (w : World) (v : Value) (l : List ByteArray) : Prop :=
  (v = .slice none 0 0 ∧ l = []) ∨ ∃ g off cap, v = .slice (some ⟨g, off, none⟩) l.length cap ∧ l.length ≤ cap ∧ cap ≤ maxLen ∧
    ∀ i : Nat, i < l.length → w.cell? ⟨g, off + i, none⟩ = some (.string (l[i]?.getD ⟨#[]⟩))
theorem SeesStrs.isSlice {w : World} {v : Value} {l : List ByteArray} (h : SeesStrs w v l) : ∃ a c, v = .slice a l.length c := by
  rcases h with ⟨rfl, rfl⟩ | ⟨g, off, cap, rfl, _⟩
  · exact ⟨_, _, rfl⟩
  · exact ⟨_, _, rfl⟩
theorem SeesStrs.len {w : World} {v : Value} {l : List ByteArray} (h : SeesStrs w v l) : l.length ≤ 9223372036854775807 := by
  rcases h with ⟨rfl, rfl⟩ | ⟨g, off, cap, rfl, h1, h2, _⟩
  · simp
  · unfold maxLen at h2; omega
theorem SeesStrs.later {w w' : World} {v : Value} {l : List ByteArray} {B : Nat} (h : SeesStrs w v l) (hb : Below B w w') (hB : ∀ g, v.ownBlock = some g → g < B) : SeesStrs w' v l := by
  rcases h with h | ⟨g, off, cap, rfl, hc, hm, hcell⟩
  · exact .inl h
  · exact .inr ⟨g, off, cap, rfl, hc, hm, fun i hi => (hb.cell (p := ⟨g, off + i, none⟩) (hB g rfl)).trans (hcell i hi)⟩
theorem SeesStrs.block_lt {w : World} {v : Value} {l : List ByteArray} (h : SeesStrs w v l) (hl : 0 < l.length) : ∀ g, v.ownBlock = some g → g < w.heap.size := by
  intro g hg
  rcases h with ⟨rfl, rfl⟩ | ⟨g', off, cap, rfl, hc, hm, hcell⟩
  · simp at hl
  · simp [Value.ownBlock] at hg; subst hg
    exact World.block_lt_of_cell? w _ (hcell 0 hl)
/-- It reads so in every later world. -/
theorem SeesStrs.below {w w' : World} {v : Value} {l : List ByteArray} (h : SeesStrs w v l) (hb : Below w.heap.size w w') : SeesStrs w' v l := by
  rcases h with h | ⟨g, off, cap, rfl, hc, hm, hcell⟩
  · exact .inl h
  · refine .inr ⟨g, off, cap, rfl, hc, hm, fun i hi => ?_⟩
    exact (hb.cell (p := ⟨g, off + i, none⟩) (World.block_lt_of_cell? w _ (hcell i hi))).trans (hcell i hi)

theorem isEpoch_is (n : Int) (b : Bool) (w : World) (h : epochOk n = b) : Calls Tryd.prog 52 #[.int .i64 n] w fun e w' => e = .returned (.bool b) ∧ w = w' := by
  subst h
  by_cases h1 : 0 ≤ n
  · have e0 := Lib.hid (show epochOk n = decide (n ≤ 1073741824) by simp [epochOk, h1])
    go_enter Tryd.func52, Tryd.ntmps52
    go_wp2
    go_ret
    exact ⟨by rw [e0.out]; rfl, rfl⟩
  · have e0 := Lib.hid (show epochOk n = false by simp [epochOk, h1])
    go_enter Tryd.func52, Tryd.ntmps52
    go_wp2
    go_ret
    exact ⟨by rw [e0.out]; rfl, rfl⟩

set_option maxRecDepth 100000 in
theorem isHolder_is (s : ByteArray) (b : Bool) (w : World) (hs : s.size ≤ 1073741824) (h : isHold s = b) : Calls Tryd.prog 53 #[.string s] w fun e w' => e = .returned (.bool b) ∧ Below w.heap.size w w' := by
  cases hn : s.toList.isEmpty
  · have hne : (!s.toList.isEmpty) = true := by simp [hn]
    have hv : validL s = b := by rw [← h]; simp [isHold, hn]
    have HV := Lib.hid (Valid_any s b w hs hv)
    clear hv h hn
    go_enter Tryd.func53, Tryd.ntmps53
    go_wp2_with fail
    refine HV.out.mono ?_
    rintro e w1 ⟨rfl, hw⟩
    have HW := Lib.hid hw
    clear hw
    go_wp2_with fail
    go_ret
    exact ⟨rfl, HW.out⟩
  · have hne : (!s.toList.isEmpty) = false := by simp [hn]
    obtain rfl : false = b := by rw [← h]; simp [isHold, hn]
    clear h hn
    go_enter Tryd.func53, Tryd.ntmps53
    go_wp2_with fail
    go_ret
    exact ⟨rfl, Below.refl _ _⟩

theorem cells3 {w : World} {b : Nat} {v0 v1 v2 : Value} {t : TypeId} (h : w.heap[b]? = some (.cells #[v0, v1, v2] t (0, 0))) :
    w.cell? ⟨b, 0, none⟩ = some v0 ∧ w.cell? ⟨b, 1, none⟩ = some v1 ∧ w.cell? ⟨b, 2, none⟩ = some v2 := by
  refine ⟨?_, ?_, ?_⟩ <;> simp [World.cell?, h]
end Go.Proofs.YtafdijjcangflaaDoor
