/-
  A group of which each code has one symbol tells one pixel again and again, without bits. (The law marquetrylaw18.GroupNothing of the given program, for every input.)
  The frame of this text was written by the kit's own proof-skeleton.mjs.
-/
import Derived.Test.YtfeloicmkcfinaaDoorRows
import Derived.WalkKit
import Derived.ProofKit
import Derived.OpenShut
import Derived.ShutString
import Derived.ChangeOld
import Derived.Below
import Derived.LaidMore
import Derived.Lay
import Derived.SevenTiedAt
import Derived.Stop.Joined
import Derived.Test.YtfeloicmkcfinaaDoorCards
import Derived.Test.YtfeloicmkcfinaaDoorTie
import Derived.Test.YtfeloicmkcfinaaDoorLaws18N
import Derived.Test.YtfeloicmkcfinaaDoorFacts
namespace Go.Proofs.YtfeloicmkcfinaaDoor.groupNothing
open Go.ChangeShapes Go.WideShapes Go.ChangeAt Go.RowKit
open Go.ChangeMaps (open_string shut_string)
set_option linter.unusedVariables false

theorem own : ownKnob Tryd.prog.godebug = none := by kernel_rfl
theorem laidOut : laidOutB Tryd.prog = true := by kernel_rfl

/-! ### STEP 1: THE WALK: the Go text returns true, AND WRITES NOTHING THAT WAS THERE: 'Below w.heap.size w w'' (Derived/Below.lean: '.refl', '.alloc', '.drew', '.setCell' at a new block, '.trans'). Open each 'IsRow' by 'rcases' AHEAD of 'go_enter'; part every test ahead of the walk. -/
theorem walk (a0 : Int) (a1 : Int) (a2 : Option Addr) (len2 cap2 : Nat) (z2 : List Int) (w : World) (w0 : (Lit.int .u32 a0).wf = true) (w1 : (Lit.int .u8 a1).wf = true) (w2 : IsRow .u8 w a2 len2 cap2 z2) :
    Calls Tryd.prog 3 #[.int .u32 a0, .int .u8 a1, .slice a2 len2 cap2] w fun e w' => e = .returned (.bool true) ∧ Below w.heap.size w w' := by
  exact law_GroupNothingI a0 a1 a2 len2 cap2 _ w (wf_u32 w0) (wf_u8 w1) w2.reads.2.1 (fun x hx => wf_u8 (w2.reads.2.2 x hx))

/-! ### THE ROW's STEP: WRITTEN OUT: LEAVE IT -/
set_option maxRecDepth 100000 in
theorem lifted (os : Os) (started : os.Started) (H : Type) (enc : TypeId × Value → H) :
    ReturnsInHanded {} Tryd.checked os 3 .any (fun w args => (Rows.groupNothingSpec.pre enc Tryd.prog Tryd.f3 Rows.groupNothingRow.domain false w args ∧ laidMetH Tryd.prog Rows.groupNothingRow.laid w) ∧ sizedMet enc Tryd.prog Tryd.f3 (OpenSpec.ofChange Rows.groupNothingSpec) false w args) (Rows.groupNothingSpec.post enc Tryd.prog Tryd.f3 false true false false) := by
  refine returnsInHanded_of_change_and (C := Tryd.checked) (X := fun w _ => laidMetH Tryd.prog Rows.groupNothingRow.laid w) (fun _ _ _ hh h => h.of_heap hh) own started (by kernel_rfl) Tryd.func3
    (ChangeSpec.witness_shaped (enc := enc) (C := Tryd.checked) (os := os) (X := fun w _ => laidMetH Tryd.prog Rows.groupNothingRow.laid w) false (World.laidAll Tryd.prog os Rows.groupNothingRow.laid) #[.int .u32 0, .int .u8 0, .slice none 0 0] 8 (World.laidAll_os _ _ _)
      (World.shaped_of_ZipB (by kernel_rfl) (by kernel_rfl)) (by kernel_rfl) (by kernel_rfl) (by kernel_rfl)
      (by rw [MakeChecks.laidMetH_plain _ _ _ (by kernel_rfl)]; exact laidMet_laidAll _ (by kernel_rfl) (by kernel_rfl))) ?_
  intro W base args ds gs before hval0 hW hcnd hsz hL _
  have hval : ∀ (j : Nat) t v, Tryd.f3.params[j]? = some t → args[j]? = some v → Value.okWide Tryd.prog W .any base t v := hval0
  have hW' := hW
  obtain ⟨p, q, hA0, hV, rfl, hfz, hnd⟩ := hW
  have hA : DataW.TrodAll enc Tryd.prog W 0 (fun _ => true) true Tryd.f3.params.toList args.toList ds p := hA0
  rw [Tryd.params3] at hA hval
  obtain ⟨v0, vs0, d0, ds0, p0, q0, hargs, rfl, rfl, h0, r0⟩ := trodAll_cons hA
  obtain ⟨v1, vs1, d1, ds1, p1, q1, rfl, rfl, rfl, h1, r1⟩ := trodAll_cons r0
  obtain ⟨v2, vs2, d2, ds2, p2, q2, rfl, rfl, rfl, h2, r2⟩ := trodAll_cons r1
  obtain ⟨rfl, rfl, rfl⟩ := trodAll_nil r2
  obtain rfl : args = #[v0, v1, v2] := by cases args; simp_all
  obtain ⟨rfl, rfl⟩ := trodVars_none hV
  obtain ⟨a0, rfl, rfl, rfl, w0⟩ := open_int Tryd.underlying22 (hval 0 22 v0 rfl rfl) h0
  obtain ⟨a1, rfl, rfl, rfl, w1⟩ := open_int Tryd.underlying5 (hval 1 5 v1 rfl rfl) h1
  obtain ⟨a2, len2, cap2, rfl⟩ := okWide_slice Tryd.underlying23 (hval 2 23 v2 rfl rfl)
  have k2 := h2
  have lt2 : ∀ x ∈ p2, x.block < W.heap.size := by obtain ⟨m, hm⟩ := k2; exact DataW.trod_lt m _ _ _ hm
  obtain ⟨z2, w2⟩ : ∃ zs, IsRow .u8 W a2 len2 cap2 zs := by
    obtain ⟨fuel, hf⟩ := h2
    rcases open_ints Tryd.underlying23 Tryd.underlying5 (by kernel_rfl) hf with ⟨hcs, _⟩ | ⟨x, l, c, zs, hcs, _, hl, hm, hz, _, hcell, hwz⟩
    · simp [Value.cells] at hcs
      obtain ⟨rfl, rfl, rfl⟩ := hcs
      exact ⟨[], .inl ⟨rfl, rfl, rfl, rfl⟩⟩
    · simp [Value.cells] at hcs
      obtain ⟨rfl, rfl, rfl⟩ := hcs
      exact ⟨zs, .inr ⟨_, rfl, hl, hm, by simpa using hz, hcell, hwz⟩⟩
  clear hA0 hval0
  refine (walk a0 a1 a2 len2 cap2 z2 W w0 w1 w2).mono fun e W' ⟨he, bel⟩ => ?_
  subst he
  exact ⟨_, rfl, _, _, _, [], _, [], hW', trodAll_mk1 (shut_bool Tryd.underlying4 _), (trodAll_cons_mk (shut_int Tryd.underlying22 w0) (trodAll_cons_mk (shut_int Tryd.underlying5 w1) (trodAll_cons_mk (Below.trod laidOut (by kernel_rfl) (of_decide_eq_true (by kernel_rfl)) k2 bel lt2) trodAll_mk0))), rfl, bel.frame _, fun h => by cases h⟩

theorem cell0 : (Rows.groupNothingRow.wf (OpenSpec.ofChange Rows.groupNothingSpec)) = true := by kernel_rfl
theorem cell3 : (Tryd.f3.params.all (Tryd.pinned.checked.prog.readableRec ·)) = true := by kernel_rfl
theorem cell4 : (namedTie Tryd.pinned.checked.prog Rows.groupNothingRow.named Rows.groupNothingSpec.vars) = true := by kernel_rfl
theorem cell5 : ((Rows.groupNothingRow.stops == [])) = true := by kernel_rfl
theorem cell7 : ((Rows.groupNothingRow.knobs == [])) = true := by kernel_rfl
theorem cell9 : ((Rows.groupNothingRow.inPlace == Tryd.pinned.checked.prog.inPlace 3)) = true := by kernel_rfl
theorem cell10 : ((Rows.groupNothingRow.unfollowed == Tryd.pinned.checked.prog.unfollowed 3)) = true := by kernel_rfl
theorem cell11 : ((Rows.groupNothingRow.recurses == Tryd.pinned.checked.prog.recurses 3)) = true := by kernel_rfl
theorem cell12 : ((Rows.groupNothingRow.named == Tryd.pinned.checked.prog.varsNamed 3)) = true := by kernel_rfl
theorem cell13 : ((Rows.groupNothingRow.maps == (Tryd.f3.params.toList ++ Rows.groupNothingSpec.plain.varTypes Tryd.pinned.checked.prog).any (Tryd.pinned.checked.prog.mapsRec ·))) = true := by kernel_rfl
theorem cell14 : ((Rows.groupNothingRow.ifaces == (Tryd.f3.params.toList ++ Rows.groupNothingSpec.plain.varTypes Tryd.pinned.checked.prog).any (Tryd.pinned.checked.prog.ifacesRec ·))) = true := by kernel_rfl
theorem cell15 : ((Rows.groupNothingRow.mapsOut == Tryd.pinned.checked.prog.mapsAmong Tryd.f3.resultTypes.toList)) = true := by kernel_rfl
theorem cell16 : ((Rows.groupNothingRow.loops == (Tryd.f3.params.toList ++ Rows.groupNothingSpec.plain.varTypes Tryd.pinned.checked.prog).any (Tryd.pinned.checked.prog.loopsFrom ·))) = true := by kernel_rfl
theorem cell17 : ((Rows.groupNothingRow.wideKeys == (Tryd.f3.params.toList ++ Rows.groupNothingSpec.plain.varTypes Tryd.pinned.checked.prog ++ Tryd.f3.resultTypes.toList).any (Tryd.pinned.checked.prog.wideKeysFrom ·))) = true := by kernel_rfl
theorem cell18 : (Rows.groupNothingSpec.vars.all (Tryd.pinned.checked.prog.varReadable ·)) = true := by kernel_rfl
theorem cell19 : (Tryd.f3.resultTypes.all (fun t => Tryd.pinned.checked.prog.readableRec t && decide (t < Tryd.pinned.checked.prog.types.size))) = true := by kernel_rfl
theorem cell20 : ((Rows.groupNothingRow.ifacesOut == Tryd.f3.resultTypes.toList.any (Tryd.pinned.checked.prog.ifacesRec ·))) = true := by kernel_rfl
theorem cell21 : ((Rows.groupNothingRow.loopsOut == Tryd.f3.resultTypes.toList.any (Tryd.pinned.checked.prog.loopsFrom ·))) = true := by kernel_rfl
theorem cell23 : (Rows.groupNothingRow.shortTexts.isNone) = true := by kernel_rfl
theorem cell29 : ((Rows.groupNothingRow.pinned == Rows.groupNothingRow.pinnedBy)) = true := by kernel_rfl
theorem cell30 : ((Rows.groupNothingRow.veiled == (Tryd.f3.params.toList ++ Rows.groupNothingSpec.plain.varTypes Tryd.pinned.checked.prog ++ Tryd.f3.resultTypes.toList).any (Tryd.pinned.checked.prog.veiledRec ·))) = true := by kernel_rfl
theorem cell31 : (Rows.groupNothingRow.veiledFits Tryd.pinned.checked.prog Tryd.f3.params.toList (Tryd.f3.params.toList ++ Rows.groupNothingSpec.plain.varTypes Tryd.pinned.checked.prog ++ Tryd.f3.resultTypes.toList)) = true := by kernel_rfl
theorem closed : joinedFacts Tryd.pinned.checked.prog 3 Tryd.f3 Rows.groupNothingSpec Rows.groupNothingRow = true := by
  unfold joinedFacts
  exact (Facts.both (Facts.both (Facts.both (Facts.both (Facts.both (Facts.both (Facts.both (Facts.both (Facts.both (Facts.both (Facts.both (Facts.both (Facts.both (Facts.both (Facts.both (Facts.both (Facts.both (Facts.both (Facts.both (Facts.both (Facts.both (Facts.both (Facts.both (Facts.both (Facts.both (Facts.both (Facts.both (Facts.both (Facts.both (Facts.both (Facts.both cell0 Facts.fact1) Facts.fact2) cell3) cell4) cell5) Facts.fact6) cell7) Facts.fact8) cell9) cell10) cell11) cell12) cell13) cell14) cell15) cell16) cell17) cell18) cell19) cell20) cell21) Facts.fact22) cell23) Facts.fact24) Facts.fact25) Facts.fact26) Facts.fact27) (by kernel_rfl)) cell29) cell30) cell31)

theorem over : Rows.groupNothingRow.holds Tryd.pinned (OpenSpec.ofChange Rows.groupNothingSpec) :=
  OpenClaim.holds_of_wide 3 Tryd.f3 rfl rfl rfl rfl rfl rfl rfl ⟨rfl, rfl, rfl, rfl, rfl⟩ rfl rfl rfl rfl rfl (by kernel_rfl) Tryd.func3 closed
    (of_decide_eq_true (by kernel_rfl)) (by unfold Func.isWrapper; first | (rw [if_pos (by decide +kernel)]; kernel_rfl) | (rw [if_neg (by decide +kernel)]; exact ⟨rfl, rfl⟩))
    (fun os started H enc _ => lifted os started H enc)

/-- THE TIED CARD. -/
theorem card_over : Rows.GroupNothingCardSaid :=
  Claim7.holds_tied_plain_at .later [] [.data, .data, .data, .data, .sentinel, .sentinel, .listed, .data, .pinned] true (true, "99f9711e1f7fad7b682ab66da9c015a9e076e8ff88504b7c11408fae2eb0123c") true
    over (fun _ h => by cases h) (by kernel_rfl) (fun _ h => by cases h) groupNothing_row_tie rfl ⟨rfl, rfl⟩ (by kernel_rfl) rfl
    (fun f fn hf hfn => by
      obtain rfl : f = 3 := Option.some.inj ((show Tryd.prog.funcNamed "marquetry/marquetrylaw18.GroupNothing" = some 3 by kernel_rfl).symm.trans hf) |>.symm
      obtain rfl : fn = Tryd.f3 := (Option.some.inj (Tryd.func3.symm.trans hfn)).symm
      exact ⟨by kernel_rfl, fun j t ht => by
        have hm : t ∈ Tryd.f3.params.toList := by simpa using Array.mem_of_getElem? ht
        have hall : (Tryd.f3.params.toList.all fun u => !Tryd.prog.wantsStandIn u) = true := by kernel_rfl
        exact (show Tryd.prog.wantsStandIn t = false by simpa using List.all_eq_true.1 hall t hm)⟩)
    (by kernel_rfl)
end Go.Proofs.YtfeloicmkcfinaaDoor.groupNothing
namespace Go.Proofs.YtfeloicmkcfinaaDoor
/-- The statement. -/
theorem GroupNothing_holds : Rows.GroupNothingCardSaid := groupNothing.card_over
#print axioms GroupNothing_holds
end Go.Proofs.YtfeloicmkcfinaaDoor
