/- 'asm.Print': at every byte and every number. -/
import Derived.Test.YtadkilofkpmpgaaGreatDoorChk
import Derived.Test.YtadkilofkpmpgaaGreatDoorUp
import Derived.Test.YtadkilofkpmpgaaGreatDoorRep
namespace Go.Proofs.YtadkilofkpmpgaaGreatDoor
open Go Go.RowKit
set_option maxRecDepth 100000
def ascOk (s : ByteArray) : Prop := s.size ≤ 65536 ∧ ∀ (j : Nat) (b : UInt8), s.data.toList[j]? = some b → b.toNat < 128
/-- What is known of the calls of 'Print', a number having k digits. -/
def callP (k : Nat) : Rk.Call := fun f args q ob => match f, args with
  | 40, ⟨[.int .u8 x]⟩ => if 0 ≤ x ∧ x < 256 then some (ofV x, q, ob) else none
  | 20, ⟨[.int .i64 x, .int .i64 y]⟩ => if y = 16 then some (.string ⟨⟨hexS k x⟩⟩, q, hasD k x ∧ ob) else none
  | 19, ⟨[.string s]⟩ => some (.string ⟨⟨s.data.toList.map Lib.upperB⟩⟩, q, ascOk s ∧ ob)
  | 21, ⟨[.string s, .int .i64 y]⟩ => if s.data.toList = [48] ∧ 0 ≤ y ∧ y < 4 then some (.string ⟨⟨List.replicate y.toNat 48⟩⟩, q, ob) else none
  | _, _ => none
theorem callP_good (k : Nat) : Rk.Good Tryz.prog kn5 (callP k) := by
  intro f args q ob v q' ob' h w hk o
  unfold callP at h
  split at h
  · split at h
    · rename_i hx
      cases h
      exact ⟨o, of_calls _ hx.1 hx.2 w⟩
    · cases h
  · split at h
    · rename_i hy
      cases h
      subst hy
      exact ⟨o.2, fmt_calls k _ o.1 w hk⟩
    · cases h
  · cases h
    exact ⟨o.2, up_calls _ w o.1.1 o.1.2⟩
  · split at h
    · rename_i s y hy
      cases h
      obtain ⟨m, hm⟩ := Int.eq_ofNat_of_zero_le hy.2.1
      have hs : s = ⟨⟨[48]⟩⟩ := by
        obtain ⟨⟨l⟩⟩ := s
        have := hy.1
        simp only at this
        rw [this]
      subst hs
      subst hm
      exact ⟨o, rep_calls m (by have := hy.2.2; omega) w⟩
    · cases h
  · cases h

def shp (m : Int) : List UInt8 × Int × List UInt8 := shpRows.getD m.toNat ([], 0, [])
def digs (b : Nat) : Int := (shp (opMode (Int.ofNat b))).2.1
/-- A line's text, where its mode writes no number. -/
def lineT0 (b : Nat) : List UInt8 := opName (Int.ofNat b) ++ (shp (opMode (Int.ofNat b))).1
/-- A line's text, its number having k digits. -/
def lineT (b k : Nat) (n : Int) : List UInt8 := opName (Int.ofNat b) ++ ((shp (opMode (Int.ofNat b))).1 ++ (List.replicate ((digs b).toNat - k) 48 ++ ((hexS k n).map Lib.upperB ++ (shp (opMode (Int.ofNat b))).2.2)))
def good0 : List Nat := good.filter fun b => digs b == 0
def good2 : List Nat := good.filter fun b => digs b == 2
def good4 : List Nat := good.filter fun b => digs b == 4
noncomputable abbrev runP (k b : Nat) (n : Int) (q : Rk.Orc) := Rk.fn Tryz.prog okf kn5 (callP k) 100 3 7 #[lineV (Int.ofNat b) n] q True
abbrev chkOb (b : Nat) (n : Int) : Prop := decide (n ≥ limM (opMode (Int.ofNat b))) = false ∧ decide (n < 0) = false ∧ True
theorem prt_bad (n : Int) : bad.map (fun b => runP 1 b n []) = bad.map (fun _ => some (.tuple ⟨[.string ⟨⟨[]⟩⟩, .int .i64 13]⟩, [], True)) := by kernel_rfl
theorem prt_neg (n : Int) : good.map (fun b => runP 1 b n [(1, true)]) = good.map (fun _ => some (.tuple ⟨[.string ⟨⟨[]⟩⟩, .int .i64 10]⟩, [], decide (n < 0) = true ∧ True)) := by kernel_rfl
theorem prt_far (n : Int) : good.map (fun b => runP 1 b n [(1, false), (1, true)]) = good.map (fun b => some (.tuple ⟨[.string ⟨⟨[]⟩⟩, .int .i64 10]⟩, [], decide (n ≥ limM (opMode (Int.ofNat b))) = true ∧ decide (n < 0) = false ∧ True)) := by kernel_rfl
theorem prt_0 (n : Int) : good0.map (fun b => runP 1 b n [(1, false), (1, false)]) = good0.map (fun b => some (.tuple ⟨[.string ⟨⟨lineT0 b⟩⟩, .int .i64 0]⟩, [], chkOb b n)) := by kernel_rfl
theorem prt_2 (n : Int) : good2.map (fun b => runP 1 b n [(1, false), (1, false)]) = good2.map (fun b => some (.tuple ⟨[.string ⟨⟨lineT b 1 n⟩⟩, .int .i64 0]⟩, [], ascOk ⟨⟨hexS 1 n⟩⟩ ∧ hasD 1 n ∧ chkOb b n)) := by kernel_rfl
end Go.Proofs.YtadkilofkpmpgaaGreatDoor
