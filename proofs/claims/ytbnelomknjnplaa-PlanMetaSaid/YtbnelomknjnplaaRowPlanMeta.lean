/-
  Groups may be of each block one from 0 to 63, and of no other number of blocks. (The law marquetrylaw20.PlanMeta of the given program, for every input.)
  The frame of this text was written by the kit's own proof-skeleton.mjs.
-/
import Derived.Test.YtbnelomknjnplaaRows
import Derived.WalkKit
import Derived.Lib.SmallJoins
import Derived.ProofKit
import Derived.OpenShut
import Derived.ShutString
import Derived.ChangeOld
import Derived.Below
import Derived.Test.YtbnelomknjnplaaLaws20M
import Derived.Test.YtbnelomknjnplaaFacts
namespace Go.Proofs.Ytbnelomknjnplaa.planMeta
open Go.ChangeShapes Go.WideShapes Go.ChangeAt Go.RowKit
open Go.ChangeMaps (open_string shut_string)
set_option linter.unusedVariables false

theorem own : ownKnob Try.prog.godebug = none := by kernel_rfl
theorem laidOut : laidOutB Try.prog = true := by kernel_rfl

/-! ### STEP 1: THE WALK: the Go text returns true, AND WRITES NOTHING THAT WAS THERE: 'Below w.heap.size w w'' (Derived/Below.lean: '.refl', '.alloc', '.drew', '.setCell' at a new block, '.trans'). Open each 'IsRow' by 'rcases' AHEAD of 'go_enter'; part every test ahead of the walk. -/
theorem walk (x0 y0 : Int) (a0 : Option Addr) (len0 cap0 : Nat) (z0 : List Int) (a1 : Int) (a2 : Option Addr) (len2 cap2 : Nat) (z2 : List Int) (w : World) (w0 : IsRow .u32 w a0 len0 cap0 z0) (w1 : (Lit.int .i64 a1).wf = true) (w2 : IsRow .i64 w a2 len2 cap2 z2) :
    Calls Try.prog 5 #[.agg #[.int .i64 x0, .int .i64 y0, .slice a0 len0 cap0], .int .i64 a1, .slice a2 len2 cap2] w fun e w' => e = .returned (.bool true) ∧ Below w.heap.size w w' := by
  exact law_PlanMeta x0 y0 a1 a0 a2 len0 cap0 len2 cap2 _ _ w w0.reads.2.1 (fun x hx => by have := wf_u32 (w0.reads.2.2 x hx); omega) w2.reads.2.1

/-! ### THE ROW's STEP: WRITTEN OUT: LEAVE IT -/
set_option maxRecDepth 100000 in
theorem lifted (os : Os) (started : os.Started) (H : Type) (enc : TypeId × Value → H) :
    ReturnsInHanded {} Try.checked os 5 .any (Rows.planMetaSpec.pre6 enc Try.prog Try.f5 Rows.planMetaRow.domain false) (Rows.planMetaSpec.post enc Try.prog Try.f5 false true false false) := by
  refine returnsInHanded_of_change (C := Try.checked) own started (by kernel_rfl) Try.func5
    (ChangeSpec.witness6 (enc := enc) (C := Try.checked) false ⟨#[], #[.agg #[.int .i64 0, .int .i64 0, .slice none 0 0], .int .i64 0, .slice none 0 0], []⟩ 8 (by kernel_rfl) (by kernel_rfl) (by kernel_rfl) (by kernel_rfl)) ?_
  intro W base args ds gs before hval0 hW hcnd _
  have hval : ∀ (j : Nat) t v, Try.f5.params[j]? = some t → args[j]? = some v → Value.okWide Try.prog W .any base t v := hval0
  have hW' := hW
  obtain ⟨p, q, hA0, hV, rfl, hfz, hnd⟩ := hW
  have hA : DataW.TrodAll enc Try.prog W 0 (fun _ => true) true Try.f5.params.toList args.toList ds p := hA0
  rw [Try.params5] at hA hval
  obtain ⟨v0, vs0, d0, ds0, p0, q0, hargs, rfl, rfl, h0, r0⟩ := trodAll_cons hA
  obtain ⟨v1, vs1, d1, ds1, p1, q1, rfl, rfl, rfl, h1, r1⟩ := trodAll_cons r0
  obtain ⟨v2, vs2, d2, ds2, p2, q2, rfl, rfl, rfl, h2, r2⟩ := trodAll_cons r1
  obtain ⟨rfl, rfl, rfl⟩ := trodAll_nil r2
  obtain rfl : args = #[v0, v1, v2] := by cases args; simp_all
  obtain ⟨rfl, rfl⟩ := trodVars_none hV
  have k0 := h0
  have lt0 : ∀ x ∈ p0, x.block < W.heap.size := by obtain ⟨m, hm⟩ := k0; exact DataW.trod_lt m _ _ _ hm
  obtain ⟨u0, u0', u0'', e0, e0', e0'', fu0, hag0, _, _, g0, g0', g0''⟩ := Joins.open_agg3 Try.underlying24 (by kernel_rfl) (by kernel_rfl) (hval 0 24 v0 rfl rfl) h0
  subst hag0
  obtain ⟨x0, hx0, _, _⟩ := DataW.trod_int Try.underlying3 g0
  obtain ⟨y0, hy0, _, _⟩ := DataW.trod_int Try.underlying3 g0'
  obtain ⟨a0, len0, cap0, hs0⟩ := Joins.slice_form Try.underlying22 g0''
  cases hx0; cases hy0; cases hs0
  obtain ⟨z0, w0⟩ : ∃ zs, IsRow .u32 W a0 len0 cap0 zs := by
    have hf := g0''
    rcases open_ints Try.underlying22 Try.underlying38 (by kernel_rfl) hf with ⟨hcs, _⟩ | ⟨x, l, c, zs, hcs, _, hl, hm, hz, _, hcell, hwz⟩
    · simp at hcs
      obtain ⟨rfl, rfl, rfl⟩ := hcs
      exact ⟨[], .inl ⟨rfl, rfl, rfl, rfl⟩⟩
    · simp at hcs
      obtain ⟨rfl, rfl, rfl⟩ := hcs
      exact ⟨zs, .inr ⟨_, rfl, hl, hm, by simpa using hz, hcell, hwz⟩⟩
  obtain ⟨a1, rfl, rfl, rfl, w1⟩ := open_int Try.underlying3 (hval 1 3 v1 rfl rfl) h1
  obtain ⟨a2, len2, cap2, rfl⟩ := okWide_slice Try.underlying28 (hval 2 28 v2 rfl rfl)
  have k2 := h2
  have lt2 : ∀ x ∈ p2, x.block < W.heap.size := by obtain ⟨m, hm⟩ := k2; exact DataW.trod_lt m _ _ _ hm
  obtain ⟨z2, w2⟩ : ∃ zs, IsRow .i64 W a2 len2 cap2 zs := by
    obtain ⟨fuel, hf⟩ := h2
    rcases open_ints Try.underlying28 Try.underlying3 (by kernel_rfl) hf with ⟨hcs, _⟩ | ⟨x, l, c, zs, hcs, _, hl, hm, hz, _, hcell, hwz⟩
    · simp [Value.cells] at hcs
      obtain ⟨rfl, rfl, rfl⟩ := hcs
      exact ⟨[], .inl ⟨rfl, rfl, rfl, rfl⟩⟩
    · simp [Value.cells] at hcs
      obtain ⟨rfl, rfl, rfl⟩ := hcs
      exact ⟨zs, .inr ⟨_, rfl, hl, hm, by simpa using hz, hcell, hwz⟩⟩
  clear hA0 hval0
  refine (walk x0 y0 a0 len0 cap0 z0 a1 a2 len2 cap2 z2 W w0 w1 w2).mono fun e W' ⟨he, bel⟩ => ?_
  subst he
  exact ⟨_, rfl, _, _, _, [], _, [], hW', trodAll_mk1 (shut_bool Try.underlying4 _), (trodAll_cons_mk (Below.trod laidOut (by kernel_rfl) (of_decide_eq_true (by kernel_rfl)) k0 bel lt0) (trodAll_cons_mk (shut_int Try.underlying3 w1) (trodAll_cons_mk (Below.trod laidOut (by kernel_rfl) (of_decide_eq_true (by kernel_rfl)) k2 bel lt2) trodAll_mk0))), rfl, bel.frame _, fun h => by cases h⟩

theorem cell0 : (Rows.planMetaRow.wf (OpenSpec.ofChange Rows.planMetaSpec)) = true := by kernel_rfl
theorem cell3 : (Try.f5.params.all (Try.pinned.checked.prog.readableRec ·)) = true := by kernel_rfl
theorem cell4 : (namedTie Try.pinned.checked.prog Rows.planMetaRow.named Rows.planMetaSpec.vars) = true := by kernel_rfl
theorem cell5 : ((Rows.planMetaRow.stops == [])) = true := by kernel_rfl
theorem cell7 : ((Rows.planMetaRow.knobs == [])) = true := by kernel_rfl
theorem cell9 : ((Rows.planMetaRow.inPlace == Try.pinned.checked.prog.inPlace 5)) = true := by kernel_rfl
theorem cell10 : ((Rows.planMetaRow.unfollowed == Try.pinned.checked.prog.unfollowed 5)) = true := by kernel_rfl
theorem cell11 : ((Rows.planMetaRow.recurses == Try.pinned.checked.prog.recurses 5)) = true := by kernel_rfl
theorem cell12 : ((Rows.planMetaRow.named == Try.pinned.checked.prog.varsNamed 5)) = true := by kernel_rfl
theorem cell13 : ((Rows.planMetaRow.maps == (Try.f5.params.toList ++ Rows.planMetaSpec.plain.varTypes Try.pinned.checked.prog).any (Try.pinned.checked.prog.mapsRec ·))) = true := by kernel_rfl
theorem cell14 : ((Rows.planMetaRow.ifaces == (Try.f5.params.toList ++ Rows.planMetaSpec.plain.varTypes Try.pinned.checked.prog).any (Try.pinned.checked.prog.ifacesRec ·))) = true := by kernel_rfl
theorem cell15 : ((Rows.planMetaRow.mapsOut == Try.pinned.checked.prog.mapsAmong Try.f5.resultTypes.toList)) = true := by kernel_rfl
theorem cell16 : ((Rows.planMetaRow.loops == (Try.f5.params.toList ++ Rows.planMetaSpec.plain.varTypes Try.pinned.checked.prog).any (Try.pinned.checked.prog.loopsFrom ·))) = true := by kernel_rfl
theorem cell17 : ((Rows.planMetaRow.wideKeys == (Try.f5.params.toList ++ Rows.planMetaSpec.plain.varTypes Try.pinned.checked.prog ++ Try.f5.resultTypes.toList).any (Try.pinned.checked.prog.wideKeysFrom ·))) = true := by kernel_rfl
theorem cell18 : (Rows.planMetaSpec.vars.all (Try.pinned.checked.prog.varReadable ·)) = true := by kernel_rfl
theorem cell19 : (Try.f5.resultTypes.all (fun t => Try.pinned.checked.prog.readableRec t && decide (t < Try.pinned.checked.prog.types.size))) = true := by kernel_rfl
theorem cell20 : ((Rows.planMetaRow.ifacesOut == Try.f5.resultTypes.toList.any (Try.pinned.checked.prog.ifacesRec ·))) = true := by kernel_rfl
theorem cell21 : ((Rows.planMetaRow.loopsOut == Try.f5.resultTypes.toList.any (Try.pinned.checked.prog.loopsFrom ·))) = true := by kernel_rfl
theorem cell23 : (Rows.planMetaRow.shortTexts.isNone) = true := by kernel_rfl
theorem cell29 : ((Rows.planMetaRow.pinned == Rows.planMetaRow.pinnedBy)) = true := by kernel_rfl
theorem cell30 : ((Rows.planMetaRow.veiled == (Try.f5.params.toList ++ Rows.planMetaSpec.plain.varTypes Try.pinned.checked.prog ++ Try.f5.resultTypes.toList).any (Try.pinned.checked.prog.veiledRec ·))) = true := by kernel_rfl
theorem cell31 : (Rows.planMetaRow.veiledFits Try.pinned.checked.prog Try.f5.params.toList (Try.f5.params.toList ++ Rows.planMetaSpec.plain.varTypes Try.pinned.checked.prog ++ Try.f5.resultTypes.toList)) = true := by kernel_rfl
theorem closed : joinedFacts Try.pinned.checked.prog 5 Try.f5 Rows.planMetaSpec Rows.planMetaRow = true := by
  unfold joinedFacts
  exact (Facts.both (Facts.both (Facts.both (Facts.both (Facts.both (Facts.both (Facts.both (Facts.both (Facts.both (Facts.both (Facts.both (Facts.both (Facts.both (Facts.both (Facts.both (Facts.both (Facts.both (Facts.both (Facts.both (Facts.both (Facts.both (Facts.both (Facts.both (Facts.both (Facts.both (Facts.both (Facts.both (Facts.both (Facts.both (Facts.both (Facts.both cell0 Facts.fact1) Facts.fact2) cell3) cell4) cell5) Facts.fact6) cell7) Facts.fact8) cell9) cell10) cell11) cell12) cell13) cell14) cell15) cell16) cell17) cell18) cell19) cell20) cell21) Facts.fact22) cell23) Facts.fact24) Facts.fact25) Facts.fact26) Facts.fact27) (by kernel_rfl)) cell29) cell30) cell31)

theorem over : Rows.planMetaRow.holds Try.pinned (OpenSpec.ofChange Rows.planMetaSpec) :=
  OpenClaim.holds_of_wide 5 Try.f5 rfl rfl rfl rfl rfl rfl rfl ⟨rfl, rfl, rfl, rfl, rfl⟩ rfl rfl rfl rfl rfl (by kernel_rfl) Try.func5 closed
    (of_decide_eq_true (by kernel_rfl)) (by unfold Func.isWrapper; first | (rw [if_pos (by decide +kernel)]; kernel_rfl) | (rw [if_neg (by decide +kernel)]; exact ⟨rfl, rfl⟩))
    (fun os started H enc _ => lifted os started H enc)

end Go.Proofs.Ytbnelomknjnplaa.planMeta
namespace Go.Proofs.Ytbnelomknjnplaa
/-- The statement. -/
theorem PlanMeta_holds : Rows.PlanMetaSaid := planMeta.over
#print axioms PlanMeta_holds
end Go.Proofs.Ytbnelomknjnplaa
