/- What 'opcode.Byte' answers, as a walk along the table. -/
import Derived.Test.YtadkilofkpmpgaaGreatDoorBy
namespace Go.Proofs.YtadkilofkpmpgaaGreatDoor
open Go Go.RowKit

/-- The walk along the table: the byte that stands at its head, and the error so far. -/
def byteW (nm : List UInt8) (m : Int) : List (List UInt8 × Int × Int) → Nat → Int → Int × Int
  | [], _, e => (0, e)
  | x :: l, i, e => match x.1 with
    | [] => byteW nm m l (i + 1) e
    | _ => match x.1 == nm with
      | false => byteW nm m l (i + 1) e
      | true => match x.2.1 == m with
        | true => ((i : Int), 0)
        | false => byteW nm m l (i + 1) 15

theorem byteW_is (nm : ByteArray) (m : Int) : ∀ (n s : Nat) (e : Int),
    byteW nm.data.toList m ((List.range' s n).map (fun i : Nat => opAt (i : Int))) s e =
      match ((List.range' s n).filter isOp).find? (hit nm m) with
      | some x => ((x : Int), 0)
      | none => (0, if (((List.range' s n).filter isOp).any fun x => opName (x : Int) == nm.data.toList) = true then 15 else e)
  | 0, s, e => by simp [byteW]
  | n + 1, s, e => by
    rw [List.range'_succ, List.map_cons, byteW, List.filter_cons]
    cases hnm : (opAt (s : Int)).1 with
    | nil =>
      have ho : isOp s = false := by unfold isOp opName; rw [hnm]; rfl
      simp only [ho]
      exact byteW_is nm m n (s + 1) e
    | cons c cs =>
      have ho : isOp s = true := by unfold isOp opName; rw [hnm]; rfl
      have hname : opName (s : Int) = c :: cs := hnm
      simp only [ho, if_true, List.find?_cons, List.any_cons]
      cases hq : (c :: cs == nm.data.toList) with
      | false =>
        have hh : hit nm m s = false := by unfold hit; rw [hname, hq]; rfl
        simp only [hh, hname, hq, Bool.false_or]
        exact byteW_is nm m n (s + 1) e
      | true =>
        cases hm : ((opAt (s : Int)).2.1 == m) with
        | true =>
          have hh : hit nm m s = true := by unfold hit opMode; rw [hname, hq, hm]; rfl
          simp only [hh]
        | false =>
          have hh : hit nm m s = false := by unfold hit opMode; rw [hname, hq, hm]; rfl
          simp only [hh, hname, hq, Bool.true_or, if_true]
          rw [byteW_is nm m n (s + 1) 15]
          simp

theorem opTab_rows : (List.range' 0 256).map (fun i : Nat => opAt (i : Int)) = opTab := by decide +kernel
theorem byteR_is (nm : ByteArray) (m : Int) : byteR nm m = byteW nm.data.toList m opTab 0 14 := by
  rw [← opTab_rows, byteW_is]
  unfold byteR errOf upto
  rw [List.range_eq_range']
  rfl

theorem byte_callsW (nm : ByteArray) (m : Int) (w : World) : Calls Tryz.prog 29 #[.string nm, .int .i64 m] w fun e w' => e = .returned (.tuple #[.int .u8 (byteW nm.data.toList m opTab 0 14).1, .int .i64 (byteW nm.data.toList m opTab 0 14).2]) ∧ Below w.heap.size w w' := by
  rw [← byteR_is]
  exact byte_calls nm m w
end Go.Proofs.YtadkilofkpmpgaaGreatDoor
