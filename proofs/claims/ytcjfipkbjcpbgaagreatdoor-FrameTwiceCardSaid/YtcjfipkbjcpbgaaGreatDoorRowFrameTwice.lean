/-
  A transform that is there twice is told as such. (The law marquetrylaw21.FrameTwice of the given program, for every input.)
  The frame of this text was written by the kit's own proof-skeleton.mjs.
-/
import Derived.Test.YtcjfipkbjcpbgaaGreatDoorRows
import Derived.WalkKit
import Derived.ProofKit
import Derived.OpenShut
import Derived.ShutString
import Derived.ChangeOld
import Derived.Below
import Derived.LaidMore
import Derived.Lay
import Derived.SevenTiedAt
import Derived.Stop.Joined
import Derived.Test.YtcjfipkbjcpbgaaGreatDoorCards
import Derived.Test.YtcjfipkbjcpbgaaGreatDoorTie
import Derived.Test.YtcjfipkbjcpbgaaGreatDoorTwice
import Derived.Test.YtcjfipkbjcpbgaaGreatDoorFacts
namespace Go.Proofs.YtcjfipkbjcpbgaaGreatDoor.frameTwice
open Go.ChangeShapes Go.WideShapes Go.ChangeAt Go.RowKit
open Go.ChangeMaps (open_string shut_string)
set_option linter.unusedVariables false

theorem own : ownKnob Tryz.prog.godebug = none := by kernel_rfl
theorem laidOut : laidOutB Tryz.prog = true := by kernel_rfl

/-! ### STEP 1: THE WALK: the Go text returns true, AND WRITES NOTHING THAT WAS THERE: 'Below w.heap.size w w'' (Derived/Below.lean: '.refl', '.alloc', '.drew', '.setCell' at a new block, '.trans'). Open each 'IsRow' by 'rcases' AHEAD of 'go_enter'; part every test ahead of the walk. -/
theorem walk (a0 : Option Addr) (len0 cap0 : Nat) (z0 : List Int) (w : World) (w0 : IsRow .u8 w a0 len0 cap0 z0) :
    Calls Tryz.prog 3 #[.slice a0 len0 cap0] w fun e w' => e = .returned (.bool true) ∧ Below w.heap.size w w' := by
  exact law_FrameTwice a0 len0 cap0 _ w w0.reads.2.1 (fun x hx => wf_u8 (w0.reads.2.2 x hx)) w0.reads.1

/-! ### THE ROW's STEP: WRITTEN OUT: LEAVE IT -/
set_option maxRecDepth 100000 in
theorem lifted (os : Os) (started : os.Started) (H : Type) (enc : TypeId × Value → H) :
    ReturnsInHanded {} Tryz.checked os 3 .any (fun w args => (Rows.frameTwiceSpec.pre enc Tryz.prog Tryz.f3 Rows.frameTwiceRow.domain false w args ∧ laidMetH Tryz.prog Rows.frameTwiceRow.laid w) ∧ sizedMet enc Tryz.prog Tryz.f3 (OpenSpec.ofChange Rows.frameTwiceSpec) false w args) (Rows.frameTwiceSpec.post enc Tryz.prog Tryz.f3 false true false false) := by
  refine returnsInHanded_of_change_and (C := Tryz.checked) (X := fun w _ => laidMetH Tryz.prog Rows.frameTwiceRow.laid w) (fun _ _ _ hh h => h.of_heap hh) own started (by kernel_rfl) Tryz.func3
    (ChangeSpec.witness_shaped (enc := enc) (C := Tryz.checked) (os := os) (X := fun w _ => laidMetH Tryz.prog Rows.frameTwiceRow.laid w) false (World.laidAll Tryz.prog os Rows.frameTwiceRow.laid) #[.slice none 0 0] 8 (World.laidAll_os _ _ _)
      (World.shaped_of_ZipB (by kernel_rfl) (by kernel_rfl)) (by kernel_rfl) (by kernel_rfl) (by kernel_rfl)
      (by rw [MakeChecks.laidMetH_plain _ _ _ (by kernel_rfl)]; exact laidMet_laidAll _ (by kernel_rfl) (by kernel_rfl))) ?_
  intro W base args ds gs before hval0 hW hcnd hsz hL _
  have hval : ∀ (j : Nat) t v, Tryz.f3.params[j]? = some t → args[j]? = some v → Value.okWide Tryz.prog W .any base t v := hval0
  have hW' := hW
  obtain ⟨p, q, hA0, hV, rfl, hfz, hnd⟩ := hW
  have hA : DataW.TrodAll enc Tryz.prog W 0 (fun _ => true) true Tryz.f3.params.toList args.toList ds p := hA0
  rw [Tryz.params3] at hA hval
  obtain ⟨v0, vs0, d0, ds0, p0, q0, hargs, rfl, rfl, h0, r0⟩ := trodAll_cons hA
  obtain ⟨rfl, rfl, rfl⟩ := trodAll_nil r0
  obtain rfl : args = #[v0] := by cases args; simp_all
  obtain ⟨rfl, rfl⟩ := trodVars_none hV
  obtain ⟨a0, len0, cap0, rfl⟩ := okWide_slice Tryz.underlying22 (hval 0 22 v0 rfl rfl)
  have k0 := h0
  have lt0 : ∀ x ∈ p0, x.block < W.heap.size := by obtain ⟨m, hm⟩ := k0; exact DataW.trod_lt m _ _ _ hm
  obtain ⟨z0, w0⟩ : ∃ zs, IsRow .u8 W a0 len0 cap0 zs := by
    obtain ⟨fuel, hf⟩ := h0
    rcases open_ints Tryz.underlying22 Tryz.underlying5 (by kernel_rfl) hf with ⟨hcs, _⟩ | ⟨x, l, c, zs, hcs, _, hl, hm, hz, _, hcell, hwz⟩
    · simp [Value.cells] at hcs
      obtain ⟨rfl, rfl, rfl⟩ := hcs
      exact ⟨[], .inl ⟨rfl, rfl, rfl, rfl⟩⟩
    · simp [Value.cells] at hcs
      obtain ⟨rfl, rfl, rfl⟩ := hcs
      exact ⟨zs, .inr ⟨_, rfl, hl, hm, by simpa using hz, hcell, hwz⟩⟩
  clear hA0 hval0
  refine (walk a0 len0 cap0 z0 W w0).mono fun e W' ⟨he, bel⟩ => ?_
  subst he
  exact ⟨_, rfl, _, _, _, [], _, [], hW', trodAll_mk1 (shut_bool Tryz.underlying4 _), (trodAll_cons_mk (Below.trod laidOut (by kernel_rfl) (of_decide_eq_true (by kernel_rfl)) k0 bel lt0) trodAll_mk0), rfl, bel.frame _, fun h => by cases h⟩

theorem cell0 : (Rows.frameTwiceRow.wf (OpenSpec.ofChange Rows.frameTwiceSpec)) = true := by kernel_rfl
theorem cell3 : (Tryz.f3.params.all (Tryz.pinned.checked.prog.readableRec ·)) = true := by kernel_rfl
theorem cell4 : (namedTie Tryz.pinned.checked.prog Rows.frameTwiceRow.named Rows.frameTwiceSpec.vars) = true := by kernel_rfl
theorem cell5 : ((Rows.frameTwiceRow.stops == [])) = true := by kernel_rfl
theorem cell7 : ((Rows.frameTwiceRow.knobs == [])) = true := by kernel_rfl
theorem cell9 : ((Rows.frameTwiceRow.inPlace == Tryz.pinned.checked.prog.inPlace 3)) = true := by kernel_rfl
theorem cell10 : ((Rows.frameTwiceRow.unfollowed == Tryz.pinned.checked.prog.unfollowed 3)) = true := by kernel_rfl
theorem cell11 : ((Rows.frameTwiceRow.recurses == Tryz.pinned.checked.prog.recurses 3)) = true := by kernel_rfl
theorem cell12 : ((Rows.frameTwiceRow.named == Tryz.pinned.checked.prog.varsNamed 3)) = true := by kernel_rfl
theorem cell13 : ((Rows.frameTwiceRow.maps == (Tryz.f3.params.toList ++ Rows.frameTwiceSpec.plain.varTypes Tryz.pinned.checked.prog).any (Tryz.pinned.checked.prog.mapsRec ·))) = true := by kernel_rfl
theorem cell14 : ((Rows.frameTwiceRow.ifaces == (Tryz.f3.params.toList ++ Rows.frameTwiceSpec.plain.varTypes Tryz.pinned.checked.prog).any (Tryz.pinned.checked.prog.ifacesRec ·))) = true := by kernel_rfl
theorem cell15 : ((Rows.frameTwiceRow.mapsOut == Tryz.pinned.checked.prog.mapsAmong Tryz.f3.resultTypes.toList)) = true := by kernel_rfl
theorem cell16 : ((Rows.frameTwiceRow.loops == (Tryz.f3.params.toList ++ Rows.frameTwiceSpec.plain.varTypes Tryz.pinned.checked.prog).any (Tryz.pinned.checked.prog.loopsFrom ·))) = true := by kernel_rfl
theorem cell17 : ((Rows.frameTwiceRow.wideKeys == (Tryz.f3.params.toList ++ Rows.frameTwiceSpec.plain.varTypes Tryz.pinned.checked.prog ++ Tryz.f3.resultTypes.toList).any (Tryz.pinned.checked.prog.wideKeysFrom ·))) = true := by kernel_rfl
theorem cell18 : (Rows.frameTwiceSpec.vars.all (Tryz.pinned.checked.prog.varReadable ·)) = true := by kernel_rfl
theorem cell19 : (Tryz.f3.resultTypes.all (fun t => Tryz.pinned.checked.prog.readableRec t && decide (t < Tryz.pinned.checked.prog.types.size))) = true := by kernel_rfl
theorem cell20 : ((Rows.frameTwiceRow.ifacesOut == Tryz.f3.resultTypes.toList.any (Tryz.pinned.checked.prog.ifacesRec ·))) = true := by kernel_rfl
theorem cell21 : ((Rows.frameTwiceRow.loopsOut == Tryz.f3.resultTypes.toList.any (Tryz.pinned.checked.prog.loopsFrom ·))) = true := by kernel_rfl
theorem cell23 : (Rows.frameTwiceRow.shortTexts.isNone) = true := by kernel_rfl
theorem cell29 : ((Rows.frameTwiceRow.pinned == Rows.frameTwiceRow.pinnedBy)) = true := by kernel_rfl
theorem cell30 : ((Rows.frameTwiceRow.veiled == (Tryz.f3.params.toList ++ Rows.frameTwiceSpec.plain.varTypes Tryz.pinned.checked.prog ++ Tryz.f3.resultTypes.toList).any (Tryz.pinned.checked.prog.veiledRec ·))) = true := by kernel_rfl
theorem cell31 : (Rows.frameTwiceRow.veiledFits Tryz.pinned.checked.prog Tryz.f3.params.toList (Tryz.f3.params.toList ++ Rows.frameTwiceSpec.plain.varTypes Tryz.pinned.checked.prog ++ Tryz.f3.resultTypes.toList)) = true := by kernel_rfl
theorem closed : joinedFacts Tryz.pinned.checked.prog 3 Tryz.f3 Rows.frameTwiceSpec Rows.frameTwiceRow = true := by
  unfold joinedFacts
  exact (Facts.both (Facts.both (Facts.both (Facts.both (Facts.both (Facts.both (Facts.both (Facts.both (Facts.both (Facts.both (Facts.both (Facts.both (Facts.both (Facts.both (Facts.both (Facts.both (Facts.both (Facts.both (Facts.both (Facts.both (Facts.both (Facts.both (Facts.both (Facts.both (Facts.both (Facts.both (Facts.both (Facts.both (Facts.both (Facts.both (Facts.both cell0 Facts.fact1) Facts.fact2) cell3) cell4) cell5) Facts.fact6) cell7) Facts.fact8) cell9) cell10) cell11) cell12) cell13) cell14) cell15) cell16) cell17) cell18) cell19) cell20) cell21) Facts.fact22) cell23) Facts.fact24) Facts.fact25) Facts.fact26) Facts.fact27) (by kernel_rfl)) cell29) cell30) cell31)

theorem over : Rows.frameTwiceRow.holds Tryz.pinned (OpenSpec.ofChange Rows.frameTwiceSpec) :=
  OpenClaim.holds_of_wide 3 Tryz.f3 rfl rfl rfl rfl rfl rfl rfl ⟨rfl, rfl, rfl, rfl, rfl⟩ rfl rfl rfl rfl rfl (by kernel_rfl) Tryz.func3 closed
    (of_decide_eq_true (by kernel_rfl)) (by unfold Func.isWrapper; first | (rw [if_pos (by decide +kernel)]; kernel_rfl) | (rw [if_neg (by decide +kernel)]; exact ⟨rfl, rfl⟩))
    (fun os started H enc _ => lifted os started H enc)

/-- THE TIED CARD. -/
theorem card_over : Rows.FrameTwiceCardSaid :=
  Claim7.holds_tied_plain_at .later [] [.data, .data, .data, .data, .sentinel, .sentinel, .listed, .data, .pinned] true (true, "e76e119d6b24516c4aa512d50cde04abf3ad4ce1eb879c730434fba95d56e23a") true
    over (fun _ h => by cases h) (by kernel_rfl) (fun _ h => by cases h) frameTwice_row_tie rfl ⟨rfl, rfl⟩ (by kernel_rfl) rfl
    (fun f fn hf hfn => by
      obtain rfl : f = 3 := Option.some.inj ((show Tryz.prog.funcNamed "marquetry/marquetrylaw21.FrameTwice" = some 3 by kernel_rfl).symm.trans hf) |>.symm
      obtain rfl : fn = Tryz.f3 := (Option.some.inj (Tryz.func3.symm.trans hfn)).symm
      exact ⟨by kernel_rfl, fun j t ht => by
        have hm : t ∈ Tryz.f3.params.toList := by simpa using Array.mem_of_getElem? ht
        have hall : (Tryz.f3.params.toList.all fun u => !Tryz.prog.wantsStandIn u) = true := by kernel_rfl
        exact (show Tryz.prog.wantsStandIn t = false by simpa using List.all_eq_true.1 hall t hm)⟩)
    (by kernel_rfl)
end Go.Proofs.YtcjfipkbjcpbgaaGreatDoor.frameTwice
namespace Go.Proofs.YtcjfipkbjcpbgaaGreatDoor
/-- The statement. -/
theorem FrameTwice_holds : Rows.FrameTwiceCardSaid := frameTwice.card_over
#print axioms FrameTwice_holds
end Go.Proofs.YtcjfipkbjcpbgaaGreatDoor
