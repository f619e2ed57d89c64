/-
  A tree that is none. (The law marquetrylaw05.TreeNone of the given program, for every input.)
  The frame of this text was written by the kit's own proof-skeleton.mjs.
-/
import Derived.Test.YtoanhnebalapeaaRows
import Derived.WalkKit
import Derived.ProofKit
import Derived.OpenShut
import Derived.ShutString
import Derived.ChangeOld
import Derived.Below
import Derived.Test.YtoanhnebalapeaaLaws05N
import Derived.Test.YtoanhnebalapeaaFacts
import Derived.SizedLaws
namespace Go.Proofs.Ytoanhnebalapeaa.treeNone
open Go.ChangeShapes Go.WideShapes Go.ChangeAt Go.RowKit
open Go.ChangeMaps (open_string shut_string)
set_option linter.unusedVariables false

theorem own : ownKnob Try.prog.godebug = none := by kernel_rfl
theorem laidOut : laidOutB Try.prog = true := by kernel_rfl

/-! ### STEP 1: THE WALK: the Go text returns true, AND WRITES NOTHING THAT WAS THERE: 'Below w.heap.size w w'' (Derived/Below.lean: '.refl', '.alloc', '.drew', '.setCell' at a new block, '.trans'). Open each 'IsRow' by 'rcases' AHEAD of 'go_enter'; part every test ahead of the walk. -/
theorem walk (a0 : Int) (a1 : Option Addr) (len1 cap1 : Nat) (z1 : List Int) (w : World) (w0 : (Lit.int .i64 a0).wf = true) (w1 : IsRow .u8 w a1 len1 cap1 z1) (s1 : cap1 * 1 ≤ reachBytes) :
    Calls Try.prog 15 #[.int .i64 a0, .slice a1 len1 cap1] w fun e w' => e = .returned (.bool true) ∧ Below w.heap.size w w' := by
  exact law_TreeNone a0 a1 len1 cap1 _ w w1.reads.2.1 (fun x hx => wf_u8 (w1.reads.2.2 x hx)) (by have := w1.reads.1; unfold reachBytes at s1; omega)

/-! ### THE ROW's STEP: WRITTEN OUT: LEAVE IT -/
set_option maxRecDepth 100000 in
theorem lifted (os : Os) (started : os.Started) (H : Type) (enc : TypeId × Value → H) :
    ReturnsInHanded {} Try.checked os 15 .any (Rows.treeNoneSpec.pre6 enc Try.prog Try.f15 Rows.treeNoneRow.domain false) (Rows.treeNoneSpec.post enc Try.prog Try.f15 false true false false) := by
  refine returnsInHanded_of_change_sized (C := Try.checked) own started (by kernel_rfl) Try.func15
    (ChangeSpec.witness6 (enc := enc) (C := Try.checked) false ⟨#[], #[.int .i64 0, .slice none 0 0], []⟩ 8 (by kernel_rfl) (by kernel_rfl) (by kernel_rfl) (by kernel_rfl)) ?_
  intro W base args ds gs before hval0 hW hcnd hsz _
  have hval : ∀ (j : Nat) t v, Try.f15.params[j]? = some t → args[j]? = some v → Value.okWide Try.prog W .any base t v := hval0
  have hW' := hW
  obtain ⟨p, q, hA0, hV, rfl, hfz, hnd⟩ := hW
  have hA : DataW.TrodAll enc Try.prog W 0 (fun _ => true) true Try.f15.params.toList args.toList ds p := hA0
  rw [Try.params15] at hA hval
  obtain ⟨v0, vs0, d0, ds0, p0, q0, hargs, rfl, rfl, h0, r0⟩ := trodAll_cons hA
  obtain ⟨v1, vs1, d1, ds1, p1, q1, rfl, rfl, rfl, h1, r1⟩ := trodAll_cons r0
  obtain ⟨rfl, rfl, rfl⟩ := trodAll_nil r1
  obtain rfl : args = #[v0, v1] := by cases args; simp_all
  obtain ⟨rfl, rfl⟩ := trodVars_none hV
  obtain ⟨a0, rfl, rfl, rfl, w0⟩ := open_int Try.underlying3 (hval 0 3 v0 rfl rfl) h0
  obtain ⟨a1, len1, cap1, rfl⟩ := okWide_slice Try.underlying22 (hval 1 22 v1 rfl rfl)
  have k1 := h1
  have lt1 : ∀ x ∈ p1, x.block < W.heap.size := by obtain ⟨m, hm⟩ := k1; exact DataW.trod_lt m _ _ _ hm
  obtain ⟨z1, w1, s1⟩ : ∃ zs, IsRow .u8 W a1 len1 cap1 zs ∧ cap1 * 1 ≤ reachBytes := by
    obtain ⟨fuel, hf⟩ := h1
    rcases open_ints Try.underlying22 Try.underlying5 (by kernel_rfl) hf with ⟨hcs, _⟩ | ⟨x, l, c, zs, hcs, _, hl, hm, hz, hx, hcell, hwz⟩
    · simp [Value.cells] at hcs
      obtain ⟨rfl, rfl, rfl⟩ := hcs
      exact ⟨[], .inl ⟨rfl, rfl, rfl, rfl⟩, by rw [Nat.zero_mul]; exact Nat.zero_le _⟩
    · simp [Value.cells] at hcs
      obtain ⟨rfl, rfl, rfl⟩ := hcs
      have hd := (Prod.mk.inj hx).1
      have hs := sized_slice hsz (j := 1) (t := 22) (e := 5) rfl (by rw [hd]; rfl) Try.underlying22
      rw [show Try.checked.prog.bytesOf 5 = 1 from by kernel_rfl] at hs
      simp only [lits, List.length_map, List.length_take, List.length_drop] at hs
      simp only [if_true] at hz
      exact ⟨zs, .inr ⟨_, rfl, hl, hm, hz, hcell, hwz⟩, by rw [show min _ zs.length + (zs.length - _) = zs.length from by omega, hz] at hs; exact hs⟩
  clear hA0 hval0
  refine (walk a0 a1 len1 cap1 z1 W w0 w1 s1).mono fun e W' ⟨he, bel⟩ => ?_
  subst he
  exact ⟨_, rfl, _, _, _, [], _, [], hW', trodAll_mk1 (shut_bool Try.underlying4 _), (trodAll_cons_mk (shut_int Try.underlying3 w0) (trodAll_cons_mk (Below.trod laidOut (by kernel_rfl) (of_decide_eq_true (by kernel_rfl)) k1 bel lt1) trodAll_mk0)), rfl, bel.frame _, fun h => by cases h⟩

theorem cell0 : (Rows.treeNoneRow.wf (OpenSpec.ofChange Rows.treeNoneSpec)) = true := by kernel_rfl
theorem cell3 : (Try.f15.params.all (Try.pinned.checked.prog.readableRec ·)) = true := by kernel_rfl
theorem cell4 : (namedTie Try.pinned.checked.prog Rows.treeNoneRow.named Rows.treeNoneSpec.vars) = true := by kernel_rfl
theorem cell5 : ((Rows.treeNoneRow.stops == [])) = true := by kernel_rfl
theorem cell7 : ((Rows.treeNoneRow.knobs == [])) = true := by kernel_rfl
theorem cell9 : ((Rows.treeNoneRow.inPlace == Try.pinned.checked.prog.inPlace 15)) = true := by kernel_rfl
theorem cell10 : ((Rows.treeNoneRow.unfollowed == Try.pinned.checked.prog.unfollowed 15)) = true := by kernel_rfl
theorem cell11 : ((Rows.treeNoneRow.recurses == Try.pinned.checked.prog.recurses 15)) = true := by kernel_rfl
theorem cell12 : ((Rows.treeNoneRow.named == Try.pinned.checked.prog.varsNamed 15)) = true := by kernel_rfl
theorem cell13 : ((Rows.treeNoneRow.maps == (Try.f15.params.toList ++ Rows.treeNoneSpec.plain.varTypes Try.pinned.checked.prog).any (Try.pinned.checked.prog.mapsRec ·))) = true := by kernel_rfl
theorem cell14 : ((Rows.treeNoneRow.ifaces == (Try.f15.params.toList ++ Rows.treeNoneSpec.plain.varTypes Try.pinned.checked.prog).any (Try.pinned.checked.prog.ifacesRec ·))) = true := by kernel_rfl
theorem cell15 : ((Rows.treeNoneRow.mapsOut == Try.pinned.checked.prog.mapsAmong Try.f15.resultTypes.toList)) = true := by kernel_rfl
theorem cell16 : ((Rows.treeNoneRow.loops == (Try.f15.params.toList ++ Rows.treeNoneSpec.plain.varTypes Try.pinned.checked.prog).any (Try.pinned.checked.prog.loopsFrom ·))) = true := by kernel_rfl
theorem cell17 : ((Rows.treeNoneRow.wideKeys == (Try.f15.params.toList ++ Rows.treeNoneSpec.plain.varTypes Try.pinned.checked.prog ++ Try.f15.resultTypes.toList).any (Try.pinned.checked.prog.wideKeysFrom ·))) = true := by kernel_rfl
theorem cell18 : (Rows.treeNoneSpec.vars.all (Try.pinned.checked.prog.varReadable ·)) = true := by kernel_rfl
theorem cell19 : (Try.f15.resultTypes.all (fun t => Try.pinned.checked.prog.readableRec t && decide (t < Try.pinned.checked.prog.types.size))) = true := by kernel_rfl
theorem cell20 : ((Rows.treeNoneRow.ifacesOut == Try.f15.resultTypes.toList.any (Try.pinned.checked.prog.ifacesRec ·))) = true := by kernel_rfl
theorem cell21 : ((Rows.treeNoneRow.loopsOut == Try.f15.resultTypes.toList.any (Try.pinned.checked.prog.loopsFrom ·))) = true := by kernel_rfl
theorem cell23 : (Rows.treeNoneRow.shortTexts.isNone) = true := by kernel_rfl
theorem cell29 : ((Rows.treeNoneRow.pinned == Rows.treeNoneRow.pinnedBy)) = true := by kernel_rfl
theorem cell30 : ((Rows.treeNoneRow.veiled == (Try.f15.params.toList ++ Rows.treeNoneSpec.plain.varTypes Try.pinned.checked.prog ++ Try.f15.resultTypes.toList).any (Try.pinned.checked.prog.veiledRec ·))) = true := by kernel_rfl
theorem cell31 : (Rows.treeNoneRow.veiledFits Try.pinned.checked.prog Try.f15.params.toList (Try.f15.params.toList ++ Rows.treeNoneSpec.plain.varTypes Try.pinned.checked.prog ++ Try.f15.resultTypes.toList)) = true := by kernel_rfl
theorem closed : joinedFacts Try.pinned.checked.prog 15 Try.f15 Rows.treeNoneSpec Rows.treeNoneRow = true := by
  unfold joinedFacts
  exact (Facts.both (Facts.both (Facts.both (Facts.both (Facts.both (Facts.both (Facts.both (Facts.both (Facts.both (Facts.both (Facts.both (Facts.both (Facts.both (Facts.both (Facts.both (Facts.both (Facts.both (Facts.both (Facts.both (Facts.both (Facts.both (Facts.both (Facts.both (Facts.both (Facts.both (Facts.both (Facts.both (Facts.both (Facts.both (Facts.both (Facts.both cell0 Facts.fact1) Facts.fact2) cell3) cell4) cell5) Facts.fact6) cell7) Facts.fact8) cell9) cell10) cell11) cell12) cell13) cell14) cell15) cell16) cell17) cell18) cell19) cell20) cell21) Facts.fact22) cell23) Facts.fact24) Facts.fact25) Facts.fact26) Facts.fact27) (by kernel_rfl)) cell29) cell30) cell31)

theorem over : Rows.treeNoneRow.holds Try.pinned (OpenSpec.ofChange Rows.treeNoneSpec) :=
  OpenClaim.holds_of_wide 15 Try.f15 rfl rfl rfl rfl rfl rfl rfl ⟨rfl, rfl, rfl, rfl, rfl⟩ rfl rfl rfl rfl rfl (by kernel_rfl) Try.func15 closed
    (of_decide_eq_true (by kernel_rfl)) (by unfold Func.isWrapper; first | (rw [if_pos (by decide +kernel)]; kernel_rfl) | (rw [if_neg (by decide +kernel)]; exact ⟨rfl, rfl⟩))
    (fun os started H enc _ => lifted os started H enc)

end Go.Proofs.Ytoanhnebalapeaa.treeNone
namespace Go.Proofs.Ytoanhnebalapeaa
/-- The statement. -/
theorem TreeNone_holds : Rows.TreeNoneSaid := treeNone.over
#print axioms TreeNone_holds
end Go.Proofs.Ytoanhnebalapeaa
