/- The statement of 'DriveChecks': at any script it answers true, the listed variables reading as the program's text lays them, time alone passing outside, calm assumed; micro.finds, which the row names and does not list, is never read. -/
import Derived.Test.YtpophgfjdlkgiaaGreatDoorDcL
import Derived.Test.YtpophgfjdlkgiaaGreatDoorDcJ
import Derived.Test.YtpophgfjdlkgiaaGreatDoorCards
import Derived.Test.YtpophgfjdlkgiaaGreatDoorTie
import Derived.Clock
import Derived.LaidMore
import Derived.OpenShut
import Derived.MakeChecks
import Derived.Carry
import Derived.RowKit3
import Derived.SevenTiedAt
import Derived.Stop.Joined
namespace Go.Proofs.YtpophgfjdlkgiaaGreatDoor.checks
open Go Go.ChangeShapes Go.WideShapes Go.ChangeAt Go.RowKit Go.Clock
set_option maxRecDepth 100000
abbrev laid : List (String × DataW Unit) := Rows.driveChecksRow.laid
theorem laidOut : laidOutB Tryz.prog = true := by kernel_rfl
theorem cells24 : Tryz.prog.cellsOf 24 = 2 := by kernel_rfl
section
variable {H : Type} {enc : TypeId × Value → H} {W : World} {base : Nat} {sp : Nat → Bool} {held : Bool}
theorem open_script {r : Reach} {b0 : Nat} {v : Value} {d : DataW H} {ps : List MemPlace} (hval : Value.okWide Tryz.prog W r b0 24 v) (hd : DataW.Trod enc Tryz.prog W base sp held 24 v d ps) :
    ∃ n p c es, v = .agg #[.int .i64 n, .slice p es.length c] ∧ IntAt W p es ∧ es.length ≤ maxLen := by
  obtain ⟨cs, rfl, hsz⟩ := okWide_struct Tryz.underlying24 hval
  rw [cells24] at hsz
  obtain ⟨l⟩ := cs
  match l, hsz with
  | [c0, c1], _ =>
  obtain ⟨fuel, hf⟩ := hd
  obtain ⟨y0, y1, m, hx, _, hy0, hy1⟩ := trod_struct2 Tryz.underlying24 hf
  obtain ⟨n, e0, rfl, _⟩ := DataW.trod_int Tryz.underlying3 hy0
  simp [Value.cells, cells3] at e0
  subst e0
  rcases open_ints Tryz.underlying22 Tryz.underlying3 cells3 hy1 with ⟨e1, _⟩ | ⟨a, len, cap, zs, e1, _, hl, hm, hz, _, hcell, _⟩
  · simp [Value.cells, cells22] at e1
    subst e1
    exact ⟨n, none, 0, [], rfl, fun j x hj => by simp at hj, by simp⟩
  · simp [Value.cells, cells22] at e1
    subst e1
    have hlz : len ≤ zs.length := by rw [hz]; split <;> omega
    have hlen : (zs.take len).length = len := by rw [List.length_take]; omega
    refine ⟨n, some a, cap, zs.take len, by rw [hlen], fun j x hj => ?_, by omega⟩
    have hj2 : j < len := by
      have := (List.getElem?_eq_some_iff.1 hj).1
      omega
    have hsp : a.spot = none := by
      have := World.cell?_spot (hcell 0 (by omega))
      simpa [Addr.add] using this
    obtain ⟨B, o, s⟩ := a
    simp only at hsp
    subst hsp
    refine ⟨B, o, rfl, ?_⟩
    have hc := hcell j (by omega)
    rw [add_plain] at hc
    rw [hc]
    rw [List.getElem?_take_of_lt hj2] at hj
    rw [List.getD_eq_getElem?_getD, hj]; rfl
end
theorem lifted (os : Os) (started : os.Started) (H : Type) (enc : TypeId × Value → H) (F : Stop.Interp) :
    ReturnsInHanded { calm := true } Tryz.checked os 3 .any (fun w args => (Rows.driveChecksSpec.pre enc Tryz.prog Tryz.f3 [] false w args ∧ laidMetH Tryz.prog laid w) ∧ sizedMet enc Tryz.prog Tryz.f3 (OpenSpec.ofChange Rows.driveChecksSpec) false w args)
      ((OpenSpec.ofChange Rows.driveChecksSpec).postWith enc Tryz.prog Tryz.f3 F (outsideKept [.timePasses]) false true false) := by
  refine returns_of_change (C := Tryz.checked) (X := fun w _ => laidMetH Tryz.prog laid w) (fun _ _ _ hh h => h.of_heap hh) own started (by kernel_rfl) Tryz.func3
    (witness_at (enc := enc) (C := Tryz.checked) (X := fun w _ => laidMetH Tryz.prog laid w) (World.laidAll Tryz.prog os laid) #[.agg #[.int .i64 0, .slice none 0 0]] 8 (World.laidAll_os _ _ _) (World.shaped_of_ZipB (by kernel_rfl) (by kernel_rfl)) (by kernel_rfl) (by kernel_rfl) (by kernel_rfl)
      (by rw [MakeChecks.laidMetH_plain _ _ _ (by kernel_rfl)]; exact laidMet_laidAll _ (by kernel_rfl) (by kernel_rfl))) ?_
  intro W base args ds gs before hval0 hW _ _ hL _
  have hval : ∀ (j : Nat) t v, Tryz.f3.params[j]? = some t → args[j]? = some v → Value.okWide Tryz.prog W .any base t v := hval0
  have hW' := hW
  obtain ⟨p, q, hA0, hV, rfl, hfz, hnd⟩ := hW
  have hA : DataW.TrodAll enc Tryz.prog W 0 (fun _ => true) true Tryz.f3.params.toList args.toList ds p := hA0
  rw [Tryz.params3] at hA hval
  obtain ⟨v0, d0, rfl, rfl, h0⟩ := trodAll_one hA
  obtain ⟨rfl, rfl⟩ := trodVars_none hV
  obtain ⟨n, sl, c, es, rfl, hx, _⟩ := open_script (hval 0 24 v0 rfl rfl) h0
  obtain ⟨J, j0, j1, j2⟩ := lit_of hL (by kernel_rfl) 2 1 rfl rfl
  clear hA0 hval0
  simp only [List.append_nil] at hW'
  have hlt : ∀ x ∈ p, x.block < W.heap.size := fun x hx => by simpa using hW'.lt x (by simp [hx])
  have main : Calls Tryz.prog 3 #[.agg #[.int .i64 n, .slice sl es.length c]] W fun e w' => e = .returned (.bool true) ∧ Below W.heap.size W w' := by
    by_cases hl : es.length ≤ 1100
    · exact law_main sl es c n hl W hx (fun W' hW' => awk_calls j0 j1 j2 W' hW')
    · obtain ⟨B, o, rfl, _⟩ := hx 0 es[0] (List.getElem?_eq_getElem (by omega))
      exact law_long j0 j1 j2 B o es.length c n (by omega)
  refine main.mono fun e W' ⟨he, hB⟩ => ?_
  subst he
  have eW : ({ W' with os := W.os } : World) = W' := by rw [← hB.os]
  refine ⟨_, rfl, ?_, (Since.of_below hB).1⟩
  rw [eW]
  exact post_below (pa := p) (pv := []) hW' (fun _ _ _ => trodAll_mk1 (shut_bool Tryz.underlying4 _))
    (by
      have hh := trodAll_mk1 (enc := enc) (P := Tryz.prog) (w := W') (base := 0) (spare := fun b => decide (b < W.heap.size)) (held := true) (Below.trod laidOut (by kernel_rfl) (of_decide_eq_true (by kernel_rfl)) h0 hB hlt)
      exact hh) rfl hB
theorem row_holds : Rows.DriveChecksSaid :=
  holds_of_wide_time 3 Tryz.f3 rfl rfl rfl rfl rfl rfl rfl ⟨rfl, rfl, rfl, rfl, rfl⟩ rfl rfl rfl rfl rfl (by kernel_rfl) Tryz.func3 (by kernel_rfl)
    (of_decide_eq_true (by kernel_rfl)) (by unfold Func.isWrapper; first | (rw [if_pos (by decide +kernel)]; kernel_rfl) | (rw [if_neg (by decide +kernel)]; exact ⟨rfl, rfl⟩))
    (fun os started H enc _ F => lifted os started H enc F)
/-- The tied card: the row's listed variables are tied to the program's text. -/
theorem card_holds : Rows.DriveChecksCardSaid :=
  Claim7.holds_tied_plain_at .later [] [.data, .widerDeep, .widerDeep] true Rows.driveChecksCard.stood.harness Rows.driveChecksCard.stood.looks
    row_holds (fun _ h => by cases h) (by kernel_rfl) (fun _ h => by cases h) driveChecks_row_tie rfl ⟨rfl, rfl⟩ (by kernel_rfl) rfl
    (fun f fn hf hfn => by
      obtain rfl : f = 3 := Option.some.inj ((show Tryz.prog.funcNamed "cochineal/cochineallaw19.DriveChecks" = some 3 by kernel_rfl).symm.trans hf) |>.symm
      obtain rfl : fn = Tryz.f3 := (Option.some.inj (Tryz.func3.symm.trans hfn)).symm
      exact ⟨by kernel_rfl, fun j t ht => by
        rw [Tryz.params3] at ht
        have hm : t ∈ [24] := by simpa using Array.mem_of_getElem? ht
        have hall : ([24].all fun u => !Tryz.prog.wantsStandIn u) = true := by kernel_rfl
        exact (show Tryz.prog.wantsStandIn t = false by simpa using List.all_eq_true.1 hall t hm)⟩)
    (by kernel_rfl)
#print axioms card_holds
end Go.Proofs.YtpophgfjdlkgiaaGreatDoor.checks
