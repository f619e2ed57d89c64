/- Package pixel: split, join, each, Sub. (Pix1 without Add, for a seat that lacks it.) -/
import Derived.Test.YtbnelomknjnplaaPixP
import Derived.Test.YtbnelomknjnplaaTab1
import Derived.Test.YtbnelomknjnplaaTab2P
namespace Go.Proofs.Ytbnelomknjnplaa
open Go.RowKit
open Go.Proofs.YtbnelomknjnplaaW.PrintWords

abbrev quadV (a b c d : Int) : Value := .agg #[.int .i64 a, .int .i64 b, .int .i64 c, .int .i64 d]
theorem and255 (x : Int) (h0 : 0 ≤ x) (h1 : x < 4294967296) : bits BinOp.and .u32 x 255 = x % 256 :=
  bits_mask .u32 32 (by decide) (fun n h0 h1 => by simp [IntKind.wrap, IntKind.bits, IntKind.signed]; omega) 8 (by omega) x h0 (by omega)
theorem or_byte (x y : Int) (h0 : 0 ≤ x) (h1 : x < 16777216) (hy : 0 ≤ y ∧ y < 256) : bits BinOp.or .u32 (x * 256) y = x * 256 + y := by
  obtain ⟨a, rfl⟩ := Int.eq_ofNat_of_zero_le h0
  obtain ⟨c, rfl⟩ := Int.eq_ofNat_of_zero_le hy.1
  have hc : (a : Int) * 256 = ((a * 256 : Nat) : Int) := by simp
  have ha : c < 2 ^ 8 := by have : (2 : Nat) ^ 8 = 256 := by decide
                            omega
  rw [hc]
  have h := (bits_nat .u32 32 (by decide) (fun n h0 h1 => by simp [IntKind.wrap, IntKind.bits, IntKind.signed]; omega) (a * 256) c (by omega) (by omega)).2
  have e : a * 256 ||| c = a * 256 + c := by
    have := Nat.shiftLeft_add_eq_or_of_lt ha a
    rw [Nat.shiftLeft_eq, show (2 : Nat) ^ 8 = 256 by decide] at this
    exact this.symm
  rw [h, e]
  simp
theorem results_one {P : Program} {fn : Func} {p : Tmp} {ty : TypeId} (h : fn.results = #[.cell p ty]) (tmps : Array Value) (w : World) (g : Nat) (t : TypeId) (cs : Array Value) (fr : Nat × Nat) (d : TypeDesc)
    (hp : tmps.getD p undef = .pointer (some ⟨g, 0, none⟩)) (hg : w.heap[g]? = some (.cells cs t fr))
    (hu : P.underlying ty = some d) (hd : (match d with | .struct _ | .array _ _ => true | _ => false) = true) (hi : (P.info? ty).map (·.size) = some cs.size) :
    (results fn tmps).run P w = .ok (.agg cs) w := by
  have : (results fn tmps).run P w = ((asAddr (tmps.getD p undef)).run P w).andThen fun a w₁ => (loadVar ty a).run P w₁ := by
    simp only [results, h]
    simp [Sem.run_bind, Result.andThen]
  rw [this, hp, show (asAddr (Value.pointer (some ⟨g, 0, none⟩))).run P w = .ok ⟨g, 0, none⟩ w from rfl]
  simp only [Result.andThen]
  rw [run_loadVar_row w g t ty cs fr d hg hu hd hi]
theorem size_quad : (Try.prog.info? 109).map (·.size) = some 4 := by kernel_rfl

set_option maxHeartbeats 1000000 in
theorem split_any (p : Int) (w : World) (h0 : 0 ≤ p) (h1 : p < 4294967296) : Calls Try.prog 71 #[.int .u32 p] w fun e w' => e = .returned (quadV (partP p 0) (partP p 1) (partP p 2) (partP p 3)) ∧ Below w.heap.size w w' := by
  go_enter Try.func71, Try.ntmps71
  go_wp2_with fail
  refine bodyPost_ret (results_one rfl _ _ _ _ _ _ _ rfl (alloc_new _ _ _) Try.underlying109 rfl size_quad) rfl ?_
  refine ⟨?_, (Below.refl _ _).alloc (Nat.le_refl _) _⟩
  rw [and255 _ (by omega) (by omega), and255 _ (by omega) (by omega), and255 _ (by omega) (by omega)]
  simp only [partP, quadV]
  rw [w64 _ (by omega) (by omega), w64 _ (by omega) (by omega), w64 _ (by omega) (by omega)]
  have e0 : p / 2 ^ (24 - 8 * 0) % 256 = p / 16777216 := by omega
  have e1 : p / 2 ^ (24 - 8 * 1) % 256 = p / 65536 % 256 := by omega
  have e2 : p / 2 ^ (24 - 8 * 2) % 256 = p / 256 % 256 := by omega
  have e3 : p / 2 ^ (24 - 8 * 3) % 256 = p % 256 := by omega
  rw [e0, e1, e2, e3]
set_option maxHeartbeats 1000000 in
theorem join_any (a b c d : Int) (w : World) :
    Calls Try.prog 72 #[quadV a b c d] w fun e w' => e = .returned (.int .u32 (mk4 a b c d)) ∧ Below w.heap.size w w' := by
  have hn := alloc_new w #[.int .i64 a, .int .i64 b, .int .i64 c, .int .i64 d] 109
  have hb1 := (Below.refl _ w).alloc (Nat.le_refl _) (.cells #[.int .i64 a, .int .i64 b, .int .i64 c, .int .i64 d] 109)
  obtain ⟨X, hX⟩ : ∃ X, w.heap.size = X := ⟨_, rfl⟩
  rw [hX] at hn hb1
  have HX := Lib.hid hX; have HN := Lib.hid hn; have HB := Lib.hid hb1
  clear hX hn hb1
  go_enter Try.func72, Try.ntmps72
  go_wp2_with fail
  rw [HX.out]
  generalize w.alloc (.cells #[.int .i64 a, .int .i64 b, .int .i64 c, .int .i64 d] 109) = w1 at *
  go_loopw [3, 5, 7] (fun v _ i wr => ∃ k : Nat, k ≤ 4 ∧ i = .int .i64 k ∧ v = .int .u32 (mkS a b c d k) ∧ wr = w1) (fun _ _ i _ => 4 - (intOf i).toNat)
  case atStart => exact ⟨0, Nat.zero_le _, rfl, rfl, rfl⟩
  case round =>
    obtain ⟨k, hk, rfl, rfl, rfl⟩ := hrel
    by_cases hlt : k < 4
    · have hcell : ∃ x : Int, (∀ W, (Instr.index 109 (.agg #[.int .i64 a, .int .i64 b, .int .i64 c, .int .i64 d]) (.int .i64 k)).run Try.prog W = .ok (.int .i64 x) W) ∧ x = #[a, b, c, d].getD k 0 := by
        have h : k = 0 ∨ k = 1 ∨ k = 2 ∨ k = 3 := by omega
        rcases h with rfl | rfl | rfl | rfl
        · exact ⟨a, fun W => by simp [Instr.index, run_underlying Try.underlying109, asIntOf, go_sem], rfl⟩
        · exact ⟨b, fun W => by simp [Instr.index, run_underlying Try.underlying109, asIntOf, go_sem], rfl⟩
        · exact ⟨c, fun W => by simp [Instr.index, run_underlying Try.underlying109, asIntOf, go_sem], rfl⟩
        · exact ⟨d, fun W => by simp [Instr.index, run_underlying Try.underlying109, asIntOf, go_sem], rfl⟩
      obtain ⟨x, hc, hx⟩ := hcell
      have e2 : (mkS a b c d k * 256 % 4294967296 + x % 256) % 4294967296 = mkS a b c d (k + 1) := by have h := mkS_step k hlt hx; simpa [IntKind.wrap, IntKind.bits, IntKind.signed] using h
      have e3 := mkS_lt a b c d hlt
      have e4 := or_byte (mkS a b c d k) (x % 256) e3.1 e3.2 ⟨Int.emod_nonneg _ (by omega), Int.emod_lt_of_pos _ (by omega)⟩
      clear hx
      have hd' : decide ((k : Int) < 4) = true := by simp; omega
      have hd2 : (k : Int) < 4 := by omega
      generalize mkS a b c d k = y at *
      go_wp2_with fail
      go_roundw
      case rel => exact ⟨k + 1, by omega, by go_num, by refine congrArg (Value.int .u32) ?_; omega, by first | rfl | trivial⟩
      case measure => simp [intOf]; omega
    · have : k = 4 := by omega
      subst this
      go_wp2_with fail
      go_ret
      exact ⟨rfl, by rw [HX.out]; exact HB.out⟩

/-- A function of three numbers that only counts. -/
def Counts (f : Nat) (F : Int → Int → Int → Int) : Prop := ∀ (a b c : Int) (w : World), 0 ≤ a ∧ a < 256 → 0 ≤ b ∧ b < 256 → 0 ≤ c ∧ c < 256 → Calls Try.prog f #[.int .i64 a, .int .i64 b, .int .i64 c] w fun e w' => e = .returned (.int .i64 (F a b c)) ∧ w = w'
def eachP (F : Int → Int → Int → Int) (p q r : Int) (k : Nat) : Int := F (partP p k) (partP q k) (partP r k)

def quadS (F : Int → Int → Int → Int) (p q r : Int) (k : Nat) : Array Value := #[.int .i64 (if 0 < k then eachP F p q r 0 else partP p 0), .int .i64 (if 1 < k then eachP F p q r 1 else partP p 1), .int .i64 (if 2 < k then eachP F p q r 2 else partP p 2), .int .i64 (if 3 < k then eachP F p q r 3 else partP p 3)]
theorem quadS_at (F : Int → Int → Int → Int) (p q r : Int) {k : Nat} (hk : k < 4) : (quadS F p q r k)[k]? = some (.int .i64 (partP p k)) := by
  have h : k = 0 ∨ k = 1 ∨ k = 2 ∨ k = 3 := by omega
  rcases h with rfl | rfl | rfl | rfl <;> rfl
theorem quadS_set (F : Int → Int → Int → Int) (p q r : Int) {k : Nat} (hk : k < 4) : (quadS F p q r k).setIfInBounds k (.int .i64 (eachP F p q r k)) = quadS F p q r (k + 1) := by
  have h : k = 0 ∨ k = 1 ∨ k = 2 ∨ k = 3 := by omega
  rcases h with rfl | rfl | rfl | rfl <;> rfl
def quadB (p : Int) : Array Value := #[.int .i64 (partP p 0), .int .i64 (partP p 1), .int .i64 (partP p 2), .int .i64 (partP p 3)]
theorem quadB_at (p : Int) {k : Nat} (hk : k < 4) : (quadB p)[k]? = some (.int .i64 (partP p k)) := by
  have h : k = 0 ∨ k = 1 ∨ k = 2 ∨ k = 3 := by omega
  rcases h with rfl | rfl | rfl | rfl <;> rfl

set_option maxHeartbeats 2000000 in
theorem each_any (f : Nat) (F : Int → Int → Int → Int) (hF : Counts f F) (hff : f = 58) (p q r : Int) (w : World) (hp : 0 ≤ p ∧ p < 4294967296) (hq : 0 ≤ q ∧ q < 4294967296) (hr : 0 ≤ r ∧ r < 4294967296) :
    Calls Try.prog 57 #[.int .u32 p, .int .u32 q, .int .u32 r, .func (.func f) #[] #[]] w fun e w' => e = .returned (.int .u32 (mk4 (eachP F p q r 0) (eachP F p q r 1) (eachP F p q r 2) (eachP F p q r 3))) ∧ Below w.heap.size w w' := by
  have HF := Lib.hid hF; have HFF := Lib.hid hff
  have HP := Lib.hid hp; have HQ := Lib.hid hq; have HR := Lib.hid hr
  clear hF hff hp hq hr
  go_enter Try.func57, Try.ntmps57
  go_wp2_with fail
  refine (split_any p _ HP.out.1 HP.out.2).mono ?_
  rintro e w1 ⟨rfl, hB1⟩
  have HB1 := Lib.hid hB1
  clear hB1
  go_wp2_with fail
  refine (split_any q _ HQ.out.1 HQ.out.2).mono ?_
  rintro e w2 ⟨rfl, hB2⟩
  have HB2 := Lib.hid (below_then HB1.out HB1.out.size hB2)
  clear hB2
  go_wp2_with fail
  refine (split_any r _ HR.out.1 HR.out.2).mono ?_
  rintro e w3 ⟨rfl, hB3⟩
  have HB3 := Lib.hid (below_then HB2.out HB2.out.size hB3)
  clear hB3
  go_wp2_with fail
  have hn1 := alloc_new w3 (quadB p) 109
  have hn2 := alloc_new (w3.alloc (.cells (quadB p) 109)) (quadB q) 109
  have hn3 := alloc_new ((w3.alloc (.cells (quadB p) 109)).alloc (.cells (quadB q) 109)) (quadB r) 109
  have hb1 := (Below.refl _ (w3.alloc (.cells (quadB p) 109))).alloc (Nat.le_refl _) (.cells (quadB q) 109)
  have hb2 := (Below.refl _ ((w3.alloc (.cells (quadB p) 109)).alloc (.cells (quadB q) 109))).alloc (Nat.le_refl _) (.cells (quadB r) 109)
  have HN1 := Lib.hid ((Mods.of_below hb2 []).blk ((Mods.of_below hb1 []).blk hn1 (by simp)) (by simp))
  have HN2 := Lib.hid ((Mods.of_below hb2 []).blk hn2 (by simp))
  have HN3 := Lib.hid hn3
  have HB4 := Lib.hid (((HB3.out.alloc HB3.out.size (.cells (quadB p) 109)).alloc (by have := HB3.out.size; simp; omega) (.cells (quadB q) 109)).alloc (by have := HB3.out.size; simp; omega) (.cells (quadB r) 109))
  clear hn1 hn2 hn3 hb1 hb2
  simp only [World.size_alloc] at HN2 HN3
  unfold quadB at HN1 HN2 HN3 HB4
  have hX3 : w.heap.size ≤ w3.heap.size := HB3.out.size
  generalize ((w3.alloc (.cells #[.int .i64 (partP p 0), .int .i64 (partP p 1), .int .i64 (partP p 2), .int .i64 (partP p 3)] 109)).alloc (.cells #[.int .i64 (partP q 0), .int .i64 (partP q 1), .int .i64 (partP q 2), .int .i64 (partP q 3)] 109)).alloc (.cells #[.int .i64 (partP r 0), .int .i64 (partP r 1), .int .i64 (partP r 2), .int .i64 (partP r 3)] 109) = w4 at *
  generalize w3.heap.size = X at *
  have HN2 : Hid (w4.heap[X + 1]? = some (.cells (quadB q) 109 (0, 0))) := HN2
  have HN3 : Hid (w4.heap[X + 1 + 1]? = some (.cells (quadB r) 109 (0, 0))) := HN3
  have HN1 : Hid (w4.heap[X]? = some (.cells (quadS F p q r 0) 109 (0, 0))) := HN1
  go_loopw [12, 19] (fun _ i wr => ∃ k : Nat, k ≤ 4 ∧ i = .int .i64 k ∧ Hid (wr.heap[X]? = some (.cells (quadS F p q r k) 109 (0, 0))) ∧ Hid (wr.heap[X + 1]? = some (.cells (quadB q) 109 (0, 0))) ∧ Hid (wr.heap[X + 1 + 1]? = some (.cells (quadB r) 109 (0, 0))) ∧ Hid (Below w.heap.size w wr)) (fun _ i _ => 4 - (intOf i).toNat)
  case atStart => exact ⟨0, Nat.zero_le _, rfl, HN1, HN2, HN3, HB4⟩
  case round =>
    obtain ⟨k, hk, rfl, H1, H2, H3, HBr⟩ := hrel
    clear HN1 HN2 HN3 HB4
    by_cases hlt : k < 4
    · have c1 : wr.cell? ⟨X, k, none⟩ = some (.int .i64 (partP p k)) := by rw [cell_blk H1.out]; exact quadS_at F p q r hlt
      have c2 : wr.cell? ⟨X + 1, k, none⟩ = some (.int .i64 (partP q k)) := by rw [cell_blk H2.out]; exact quadB_at q hlt
      have c3 : wr.cell? ⟨X + 1 + 1, k, none⟩ = some (.int .i64 (partP r k)) := by rw [cell_blk H3.out]; exact quadB_at r hlt
      have f1 := free_blk H1.out k
      have hd : decide ((k : Int) < 4) = true := by simp; omega
      have hd2 : (k : Int) < 4 := by omega
      have hd3 : (0 : Int) ≤ (k : Int) := by omega
      go_upto_region 5 with fail
      obtain rfl := HFF.out
      all_goals
        go_region_with ((first | (go_at_call 58; refine (HF.out _ _ _ _ (partP_lt p k) (partP_lt q k) (partP_lt r k)).mono ?_; rintro e w' ⟨rfl, rfl⟩) | fail))
        all_goals
          go_wp2_with fail
          go_roundw
          case rel =>
            have hm : Mods [X] wr ((wr.setCell ⟨X, k, none⟩ (.int .i64 (F (partP p k) (partP q k) (partP r k)))).drew) := ((Mods.refl [X] wr).setCell (p := ⟨X, k, none⟩) (.inl (by simp)) _).drew
            have hs := blk_set H1.out k (.int .i64 (F (partP p k) (partP q k) (partP r k)))
            rw [show F (partP p k) (partP q k) (partP r k) = eachP F p q r k from rfl, quadS_set F p q r hlt] at hs
            refine ⟨k + 1, ?_, ?_, ?_, ?_, ?_, ?_⟩
            · omega
            · go_num
            · exact hs
            · exact hm.blk H2.out (by simp)
            · exact hm.blk H3.out (by simp; omega)
            · exact (HBr.out.setCell (p := ⟨X, k, none⟩) hX3 _).drew
          case measure => simp [intOf]; omega
    · have : k = 4 := by omega
      subst this
      have d0 : wr.cell? ⟨X, 0, none⟩ = some (.int .i64 (eachP F p q r 0)) := by rw [cell_blk H1.out]; rfl
      have d1 : wr.cell? ⟨X, 1, none⟩ = some (.int .i64 (eachP F p q r 1)) := by rw [cell_blk H1.out]; rfl
      have d2 : wr.cell? ⟨X, 2, none⟩ = some (.int .i64 (eachP F p q r 2)) := by rw [cell_blk H1.out]; rfl
      have d3 : wr.cell? ⟨X, 3, none⟩ = some (.int .i64 (eachP F p q r 3)) := by rw [cell_blk H1.out]; rfl
      go_wp2_with fail
      refine (join_any _ _ _ _ _).mono ?_
      rintro e w5 ⟨rfl, hB5⟩
      have HB5 := Lib.hid (below_then HBr.out HBr.out.size hB5)
      clear hB5
      go_wp2_with fail
      go_ret
      exact ⟨rfl, HB5.out⟩

def addP (p q : Int) : Int := mk4 (partP p 0 + partP q 0) (partP p 1 + partP q 1) (partP p 2 + partP q 2) (partP p 3 + partP q 3)
def subP (p q : Int) : Int := mk4 (partP p 0 - partP q 0) (partP p 1 - partP q 1) (partP p 2 - partP q 2) (partP p 3 - partP q 3)
theorem sub_counts : Counts 58 (fun a b _ => a - b) := by
  intro a b c w ha hb hc
  have e : wrap64 (a - b) = a - b := w64 _ (by omega) (by omega)
  go_enter Try.func58, Try.ntmps58
  go_wp2_with fail
  go_ret
  exact ⟨by first | rfl | rw [e], rfl⟩
theorem sub_any (p q : Int) (w : World) (hp : 0 ≤ p ∧ p < 4294967296) (hq : 0 ≤ q ∧ q < 4294967296) : Calls Try.prog 43 #[.int .u32 p, .int .u32 q] w fun e w' => e = .returned (.int .u32 (subP p q)) ∧ Below w.heap.size w w' := by
  have HP := Lib.hid hp; have HQ := Lib.hid hq
  clear hp hq
  go_enter Try.func43, Try.ntmps43
  go_wp2_with fail
  refine (each_any 58 _ sub_counts rfl p q 0 _ HP.out HQ.out (by omega)).mono ?_
  rintro e w1 ⟨rfl, hB1⟩
  have HB1 := Lib.hid hB1
  clear hB1
  go_wp2_with fail
  go_ret
  exact ⟨rfl, HB1.out⟩
end Go.Proofs.Ytbnelomknjnplaa
