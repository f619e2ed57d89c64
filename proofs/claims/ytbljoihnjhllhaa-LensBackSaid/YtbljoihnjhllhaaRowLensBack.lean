/-
  Lengths that are written are read again, and nothing behind them; which ones may be written. (The law marquetrylaw07.LensBack of the given program, for every input.)
  The frame of this text was written by the kit's own proof-skeleton.mjs.
-/
import Derived.Test.YtbljoihnjhllhaaRows
import Derived.WalkKit
import Derived.ProofKit
import Derived.OpenShut
import Derived.ShutString
import Derived.ChangeOld
import Derived.Below
import Derived.Test.YtbljoihnjhllhaaLensBack4
import Derived.Test.YtbljoihnjhllhaaFacts
namespace Go.Proofs.Ytbljoihnjhllhaa.lensBack
open Go.ChangeShapes Go.WideShapes Go.ChangeAt Go.RowKit
open Go.ChangeMaps (open_string shut_string)
set_option linter.unusedVariables false

theorem own : ownKnob Try.prog.godebug = none := by kernel_rfl
theorem laidOut : laidOutB Try.prog = true := by kernel_rfl

/-! ### STEP 1: THE WALK: the Go text returns true, AND WRITES NOTHING THAT WAS THERE: 'Below w.heap.size w w'' (Derived/Below.lean: '.refl', '.alloc', '.drew', '.setCell' at a new block, '.trans'). Open each 'IsRow' by 'rcases' AHEAD of 'go_enter'; part every test ahead of the walk. -/
theorem walk (a0 : Option Addr) (len0 cap0 : Nat) (z0 : List Int) (a1 : Int) (w : World) (w0 : IsRow .i64 w a0 len0 cap0 z0) (w1 : (Lit.int .u8 a1).wf = true) :
    Calls Try.prog 3 #[.slice a0 len0 cap0, .int .u8 a1] w fun e w' => e = .returned (.bool true) ∧ Below w.heap.size w w' := by
  exact law_LensBack a0 len0 cap0 _ a1 w w0.reads.2.1 (fun x hx => by have := wf_i64 (w0.reads.2.2 x hx); omega) (wf_u8 w1)

/-! ### THE ROW's STEP: WRITTEN OUT: LEAVE IT -/
set_option maxRecDepth 100000 in
theorem lifted (os : Os) (started : os.Started) (H : Type) (enc : TypeId × Value → H) :
    ReturnsInHanded {} Try.checked os 3 .any (Rows.lensBackSpec.pre6 enc Try.prog Try.f3 Rows.lensBackRow.domain false) (Rows.lensBackSpec.post enc Try.prog Try.f3 false true false false) := by
  refine returnsInHanded_of_change (C := Try.checked) own started (by kernel_rfl) Try.func3
    (ChangeSpec.witness6 (enc := enc) (C := Try.checked) false ⟨#[], #[.slice none 0 0, .int .u8 0], []⟩ 8 (by kernel_rfl) (by kernel_rfl) (by kernel_rfl) (by kernel_rfl)) ?_
  intro W base args ds gs before hval0 hW hcnd _
  have hval : ∀ (j : Nat) t v, Try.f3.params[j]? = some t → args[j]? = some v → Value.okWide Try.prog W .any base t v := hval0
  have hW' := hW
  obtain ⟨p, q, hA0, hV, rfl, hfz, hnd⟩ := hW
  have hA : DataW.TrodAll enc Try.prog W 0 (fun _ => true) true Try.f3.params.toList args.toList ds p := hA0
  rw [Try.params3] at hA hval
  obtain ⟨v0, vs0, d0, ds0, p0, q0, hargs, rfl, rfl, h0, r0⟩ := trodAll_cons hA
  obtain ⟨v1, vs1, d1, ds1, p1, q1, rfl, rfl, rfl, h1, r1⟩ := trodAll_cons r0
  obtain ⟨rfl, rfl, rfl⟩ := trodAll_nil r1
  obtain rfl : args = #[v0, v1] := by cases args; simp_all
  obtain ⟨rfl, rfl⟩ := trodVars_none hV
  obtain ⟨a0, len0, cap0, rfl⟩ := okWide_slice Try.underlying22 (hval 0 22 v0 rfl rfl)
  have k0 := h0
  have lt0 : ∀ x ∈ p0, x.block < W.heap.size := by obtain ⟨m, hm⟩ := k0; exact DataW.trod_lt m _ _ _ hm
  obtain ⟨z0, w0⟩ : ∃ zs, IsRow .i64 W a0 len0 cap0 zs := by
    obtain ⟨fuel, hf⟩ := h0
    rcases open_ints Try.underlying22 Try.underlying3 (by kernel_rfl) hf with ⟨hcs, _⟩ | ⟨x, l, c, zs, hcs, _, hl, hm, hz, _, hcell, hwz⟩
    · simp [Value.cells] at hcs
      obtain ⟨rfl, rfl, rfl⟩ := hcs
      exact ⟨[], .inl ⟨rfl, rfl, rfl, rfl⟩⟩
    · simp [Value.cells] at hcs
      obtain ⟨rfl, rfl, rfl⟩ := hcs
      exact ⟨zs, .inr ⟨_, rfl, hl, hm, by simpa using hz, hcell, hwz⟩⟩
  obtain ⟨a1, rfl, rfl, rfl, w1⟩ := open_int Try.underlying5 (hval 1 5 v1 rfl rfl) h1
  clear hA0 hval0
  refine (walk a0 len0 cap0 z0 a1 W w0 w1).mono fun e W' ⟨he, bel⟩ => ?_
  subst he
  exact ⟨_, rfl, _, _, _, [], _, [], hW', trodAll_mk1 (shut_bool Try.underlying4 _), (trodAll_cons_mk (Below.trod laidOut (by kernel_rfl) (of_decide_eq_true (by kernel_rfl)) k0 bel lt0) (trodAll_cons_mk (shut_int Try.underlying5 w1) trodAll_mk0)), rfl, bel.frame _, fun h => by cases h⟩

theorem cell0 : (Rows.lensBackRow.wf (OpenSpec.ofChange Rows.lensBackSpec)) = true := by kernel_rfl
theorem cell3 : (Try.f3.params.all (Try.pinned.checked.prog.readableRec ·)) = true := by kernel_rfl
theorem cell4 : (namedTie Try.pinned.checked.prog Rows.lensBackRow.named Rows.lensBackSpec.vars) = true := by kernel_rfl
theorem cell5 : ((Rows.lensBackRow.stops == [])) = true := by kernel_rfl
theorem cell7 : ((Rows.lensBackRow.knobs == [])) = true := by kernel_rfl
theorem cell9 : ((Rows.lensBackRow.inPlace == Try.pinned.checked.prog.inPlace 3)) = true := by kernel_rfl
theorem cell10 : ((Rows.lensBackRow.unfollowed == Try.pinned.checked.prog.unfollowed 3)) = true := by kernel_rfl
theorem cell11 : ((Rows.lensBackRow.recurses == Try.pinned.checked.prog.recurses 3)) = true := by kernel_rfl
theorem cell12 : ((Rows.lensBackRow.named == Try.pinned.checked.prog.varsNamed 3)) = true := by kernel_rfl
theorem cell13 : ((Rows.lensBackRow.maps == (Try.f3.params.toList ++ Rows.lensBackSpec.plain.varTypes Try.pinned.checked.prog).any (Try.pinned.checked.prog.mapsRec ·))) = true := by kernel_rfl
theorem cell14 : ((Rows.lensBackRow.ifaces == (Try.f3.params.toList ++ Rows.lensBackSpec.plain.varTypes Try.pinned.checked.prog).any (Try.pinned.checked.prog.ifacesRec ·))) = true := by kernel_rfl
theorem cell15 : ((Rows.lensBackRow.mapsOut == Try.pinned.checked.prog.mapsAmong Try.f3.resultTypes.toList)) = true := by kernel_rfl
theorem cell16 : ((Rows.lensBackRow.loops == (Try.f3.params.toList ++ Rows.lensBackSpec.plain.varTypes Try.pinned.checked.prog).any (Try.pinned.checked.prog.loopsFrom ·))) = true := by kernel_rfl
theorem cell17 : ((Rows.lensBackRow.wideKeys == (Try.f3.params.toList ++ Rows.lensBackSpec.plain.varTypes Try.pinned.checked.prog ++ Try.f3.resultTypes.toList).any (Try.pinned.checked.prog.wideKeysFrom ·))) = true := by kernel_rfl
theorem cell18 : (Rows.lensBackSpec.vars.all (Try.pinned.checked.prog.varReadable ·)) = true := by kernel_rfl
theorem cell19 : (Try.f3.resultTypes.all (fun t => Try.pinned.checked.prog.readableRec t && decide (t < Try.pinned.checked.prog.types.size))) = true := by kernel_rfl
theorem cell20 : ((Rows.lensBackRow.ifacesOut == Try.f3.resultTypes.toList.any (Try.pinned.checked.prog.ifacesRec ·))) = true := by kernel_rfl
theorem cell21 : ((Rows.lensBackRow.loopsOut == Try.f3.resultTypes.toList.any (Try.pinned.checked.prog.loopsFrom ·))) = true := by kernel_rfl
theorem cell23 : (Rows.lensBackRow.shortTexts.isNone) = true := by kernel_rfl
theorem cell29 : ((Rows.lensBackRow.pinned == Rows.lensBackRow.pinnedBy)) = true := by kernel_rfl
theorem cell30 : ((Rows.lensBackRow.veiled == (Try.f3.params.toList ++ Rows.lensBackSpec.plain.varTypes Try.pinned.checked.prog ++ Try.f3.resultTypes.toList).any (Try.pinned.checked.prog.veiledRec ·))) = true := by kernel_rfl
theorem cell31 : (Rows.lensBackRow.veiledFits Try.pinned.checked.prog Try.f3.params.toList (Try.f3.params.toList ++ Rows.lensBackSpec.plain.varTypes Try.pinned.checked.prog ++ Try.f3.resultTypes.toList)) = true := by kernel_rfl
theorem closed : joinedFacts Try.pinned.checked.prog 3 Try.f3 Rows.lensBackSpec Rows.lensBackRow = true := by
  unfold joinedFacts
  exact (Facts.both (Facts.both (Facts.both (Facts.both (Facts.both (Facts.both (Facts.both (Facts.both (Facts.both (Facts.both (Facts.both (Facts.both (Facts.both (Facts.both (Facts.both (Facts.both (Facts.both (Facts.both (Facts.both (Facts.both (Facts.both (Facts.both (Facts.both (Facts.both (Facts.both (Facts.both (Facts.both (Facts.both (Facts.both (Facts.both (Facts.both cell0 Facts.fact1) Facts.fact2) cell3) cell4) cell5) Facts.fact6) cell7) Facts.fact8) cell9) cell10) cell11) cell12) cell13) cell14) cell15) cell16) cell17) cell18) cell19) cell20) cell21) Facts.fact22) cell23) Facts.fact24) Facts.fact25) Facts.fact26) Facts.fact27) (by kernel_rfl)) cell29) cell30) cell31)

theorem over : Rows.lensBackRow.holds Try.pinned (OpenSpec.ofChange Rows.lensBackSpec) :=
  OpenClaim.holds_of_wide 3 Try.f3 rfl rfl rfl rfl rfl rfl rfl ⟨rfl, rfl, rfl, rfl, rfl⟩ rfl rfl rfl rfl rfl (by kernel_rfl) Try.func3 closed
    (of_decide_eq_true (by kernel_rfl)) (by unfold Func.isWrapper; first | (rw [if_pos (by decide +kernel)]; kernel_rfl) | (rw [if_neg (by decide +kernel)]; exact ⟨rfl, rfl⟩))
    (fun os started H enc _ => lifted os started H enc)

end Go.Proofs.Ytbljoihnjhllhaa.lensBack
namespace Go.Proofs.Ytbljoihnjhllhaa
/-- The statement. -/
theorem LensBack_holds : Rows.LensBackSaid := lensBack.over
#print axioms LensBack_holds
end Go.Proofs.Ytbljoihnjhllhaa
