/- Plain theory of trees: which symbol bits are. No program in sight. -/
import Derived.Test.YtbljoihnjhllhaaLensFlat17
import Derived.Test.YtbljoihnjhllhaaLensFlat1
import Derived.Test.YtbljoihnjhllhaaLensFlat9
import Derived.Test.YtbljoihnjhllhaaLensFlat5
namespace Go.Proofs.Ytbljoihnjhllhaa
open Go.RowKit
open Go.Proofs.YtbljoihnjhllhaaW.PrintWords
open Srt

/-- How many symbols below i have n bits. -/
def eqUp (ls : List Int) (n : Int) (i : Nat) : Nat := cnt (fun t => decide (ln ls t = n)) i
theorem eqUp_hit (ls : List Int) (n : Int) (i : Nat) (h : ln ls i = n) : eqUp ls n (i + 1) = eqUp ls n i + 1 := cnt_hit _ _ (by simp [h])
theorem eqUp_miss (ls : List Int) (n : Int) (i : Nat) (h : ln ls i ≠ n) : eqUp ls n (i + 1) = eqUp ls n i := cnt_miss _ _ (by simp [h])
theorem eqUp_le (ls : List Int) (n : Int) (i : Nat) : eqUp ls n i ≤ i := cnt_le _ _
theorem eqUp_mono (ls : List Int) (n : Int) {i j : Nat} (h : i ≤ j) : eqUp ls n i ≤ eqUp ls n j := by
  induction j with
  | zero => rw [show i = 0 by omega]; exact Nat.le_refl _
  | succ j ih =>
    by_cases e : i = j + 1
    · rw [e]; exact Nat.le_refl _
    · have := ih (by omega)
      by_cases h : ln ls j = n
      · rw [eqUp_hit ls n j h]; omega
      · rw [eqUp_miss ls n j h]; omega
theorem upTo_eq (ls : List Int) (n : Int) (hn : 0 < n) : ∀ i, i ≤ ls.length → upTo ls n i = upTo ls n 0 + eqUp ls n i := by
  intro i
  induction i with
  | zero => intro _; simp [eqUp, cnt]
  | succ i ih =>
    intro hi
    have := ih (by omega)
    by_cases h : ln ls i = n
    · rw [upTo_hit ls n i (by omega) hn h, eqUp_hit ls n i h, this]; omega
    · rw [upTo_miss ls n i h, eqUp_miss ls n i h, this]
theorem eqUp_find (ls : List Int) (n : Int) (c : Nat) : ∀ i, c < eqUp ls n i → ∃ s, s < i ∧ ln ls s = n ∧ eqUp ls n s = c := by
  intro i
  induction i with
  | zero => intro h; simp [eqUp, cnt] at h
  | succ i ih =>
    intro h
    by_cases e : ln ls i = n
    · rw [eqUp_hit ls n i e] at h
      by_cases h2 : c < eqUp ls n i
      · obtain ⟨s, h3, h4⟩ := ih h2
        exact ⟨s, by omega, h4⟩
      · exact ⟨i, by omega, e, by omega⟩
    · rw [eqUp_miss ls n i e] at h
      obtain ⟨s, h3, h4⟩ := ih h
      exact ⟨s, by omega, h4⟩
theorem eqUp_inj {ls : List Int} {n : Int} {s t : Nat} (hs : ln ls s = n) (ht : ln ls t = n) (h : eqUp ls n s = eqUp ls n t) : s = t := by
  rcases Nat.lt_trichotomy s t with e | e | e
  · have h1 := eqUp_mono ls n (show s + 1 ≤ t from e)
    rw [eqUp_hit ls n s hs] at h1; omega
  · exact e
  · have h1 := eqUp_mono ls n (show t + 1 ≤ s from e)
    rw [eqUp_hit ls n t ht] at h1; omega

/-- How many symbols have fewer than n bits, and some. -/
def fewer (ls : List Int) (n : Int) : Nat := cnt (fun t => decide (0 < ln ls t) && decide (ln ls t < n)) ls.length
theorem cnt_add (p q r : Nat → Bool) (k : Nat) (h : ∀ t, t < k → (r t).toNat = (p t).toNat + (q t).toNat) : cnt r k = cnt p k + cnt q k := by
  induction k with
  | zero => simp [cnt]
  | succ k ih =>
    have h1 := ih (fun t ht => h t (by omega))
    have h2 := h k (by omega)
    have e : ∀ p : Nat → Bool, cnt p (k + 1) = cnt p k + (p k).toNat := fun p => by
      cases hp : p k with
      | true => rw [cnt_hit p k hp]; rfl
      | false => rw [cnt_miss p k hp]; rfl
    rw [e, e, e]; omega
theorem fewer_one (ls : List Int) : fewer ls 1 = 0 := cnt_none _ _ (fun t _ => by simp; omega)
theorem fewer_next (ls : List Int) (n : Int) (hn : 0 < n) : fewer ls (n + 1) = fewer ls n + eqUp ls n ls.length := by
  unfold fewer eqUp
  refine cnt_add _ _ _ _ (fun t _ => ?_)
  by_cases h1 : 0 < ln ls t
  · by_cases h2 : ln ls t < n
    · simp [h1, h2, show ln ls t < n + 1 by omega, show ¬ ln ls t = n by omega]
    · by_cases h3 : ln ls t = n
      · simp [h3, hn]
        omega
      · simp [h1, h2, h3, show ¬ ln ls t < n + 1 by omega]
  · simp [h1, show ¬ ln ls t = n by omega]
theorem fewer_le (ls : List Int) (n : Int) : fewer ls n ≤ ls.length := cnt_le _ _

/-- Where a symbol stands in order. -/
theorem order_at {ls os : List Int} (h : InOrder ls os) {s : Nat} (hs : s < ls.length) (hp : 0 < ln ls s) : fewer ls (ln ls s) + eqUp ls (ln ls s) s < os.length ∧ rd os ((fewer ls (ln ls s) + eqUp ls (ln ls s) s : Nat) : Int) = s := by
  have hm : (s : Int) ∈ os := (h.2.mem _).1 (posUp_of hs hp)
  obtain ⟨pre, post, rfl⟩ := List.append_of_mem hm
  have hl := h.lex
  rw [List.pairwise_append, List.pairwise_cons] at hl
  obtain ⟨_, ⟨h2, _⟩, h3⟩ := hl
  have a1 : pre.filter (fun x => ahead ls x.toNat s) = pre := by
    rw [List.filter_eq_self]
    intro x hx
    have hm := h.mem (x := x) (by simp [hx])
    have := h3 x hx s (by simp)
    unfold keyL at this
    simp only [ahead, Bool.and_eq_true, Bool.or_eq_true, decide_eq_true_eq]
    simp only [Int.toNat_natCast] at this
    omega
  have a2 : ((s : Int) :: post).filter (fun x => ahead ls x.toNat s) = [] := by
    rw [List.filter_eq_nil_iff]
    intro x hx hc
    simp only [ahead, Bool.and_eq_true, Bool.or_eq_true, decide_eq_true_eq] at hc
    rcases List.mem_cons.1 hx with e | e
    · subst e; simp at hc
    · have := h2 x e
      have hm := h.mem (x := x) (by simp [e])
      unfold keyL at this
      simp only [Int.toNat_natCast] at this
      omega
  have e1 : (pre ++ (s : Int) :: post).filter (fun x => ahead ls x.toNat s) = pre := by rw [List.filter_append, a1, a2, List.append_nil]
  have e2 : ((posList ls).filter (fun x => ahead ls x.toNat s)).length = fewer ls (ln ls s) + eqUp ls (ln ls s) s := by
    unfold posList posUp
    rw [List.filter_map, List.length_map, List.filter_filter, ← List.countP_eq_length_filter]
    have e3 : eqUp ls (ln ls s) s = cnt (fun t => decide (ln ls t = ln ls s) && decide (t < s)) ls.length := by
      unfold eqUp
      have : ∀ k, k ≤ ls.length → cnt (fun t => decide (ln ls t = ln ls s) && decide (t < s)) k = cnt (fun t => decide (ln ls t = ln ls s)) (min k s) := by
        intro k
        induction k with
        | zero => intro _; simp [cnt]
        | succ k ih =>
          intro hk
          have := ih (by omega)
          by_cases e : k < s
          · rw [show min (k + 1) s = min k s + 1 from by omega]
            have e4 : min k s = k := by omega
            by_cases e5 : ln ls k = ln ls s
            · rw [cnt_hit _ _ (by simp [e, e5]), this, e4, cnt_hit _ _ (by simp [e5])]
            · rw [cnt_miss _ _ (by simp [e5]), this, e4, cnt_miss _ _ (by simp [e5])]
          · rw [show min (k + 1) s = min k s from by omega, cnt_miss _ _ (by simp [e]), this]
      rw [this _ (Nat.le_refl _), show min ls.length s = s from by omega]
    rw [e3]
    refine cnt_add _ _ _ _ (fun t _ => ?_)
    simp only [Function.comp, Int.ofNat_eq_natCast, Int.toNat_natCast]
    unfold ahead
    by_cases b1 : 0 < ln ls t
    · by_cases b2 : ln ls t < ln ls s
      · simp [b1, b2, show ¬ ln ls t = ln ls s by omega]
      · by_cases b3 : ln ls t = ln ls s
        · by_cases b4 : t < s
          · simp [b3, b4, hp]
          · simp [b3, b4]
        · simp [b2, b3]
    · simp [b1, show ¬ ln ls t = ln ls s by omega]
  have hperm := (FEq.perm h.2).filter (fun x => ahead ls x.toNat s)
  rw [e1] at hperm
  have hlen := hperm.length_eq
  rw [e2] at hlen
  rw [hlen]
  refine ⟨by simp, ?_⟩
  unfold rd
  rw [Int.toNat_natCast, List.getD_eq_getElem?_getD, List.getElem?_append_right (Nat.le_refl _)]
  simp

/-- n bits from p on as a number, the first one highest. -/
def vAt (bs : List Int) (p : Nat) : Nat → Int
  | 0 => 0
  | n + 1 => vAt bs p n * 2 + bitAt bs (p + n)
theorem vAt_bounds (bs : List Int) (p n : Nat) : 0 ≤ vAt bs p n ∧ vAt bs p n < 2 ^ n := by
  induction n with
  | zero => simp [vAt]
  | succ n ih =>
    have := bitAt_bounds bs (p + n)
    simp only [vAt, Int.pow_succ]; omega
theorem bitsVal_one (bs : List Int) (p : Nat) : bitsVal bs p 1 = bitAt bs p := by simp [bitsVal]
/-- The first n bits from p on are the code of symbol s, and fewer are none. -/
def Found (ls bs : List Int) (p n s : Nat) : Prop :=
  1 ≤ n ∧ n ≤ 15 ∧ s < ls.length ∧ ln ls s = n ∧ codeS ls s = vAt bs p n ∧ ∀ m : Nat, 1 ≤ m → m < n → upTo ls m ls.length ≤ vAt bs p m
/-- At step m, when fewer bits were no code. -/
theorem low_step (ls bs : List Int) (p : Nat) : ∀ m : Nat, (∀ j : Nat, 1 ≤ j → j < m → upTo ls j ls.length ≤ vAt bs p j) → 1 ≤ m → upTo ls m 0 ≤ vAt bs p m := by
  intro m h hm
  obtain ⟨k, rfl⟩ : ∃ k, m = k + 1 := ⟨m - 1, by omega⟩
  have hb := bitAt_bounds bs (p + k)
  rw [show ((k + 1 : Nat) : Int) = (k : Int) + 1 from rfl, upTo_next]
  show _ ≤ vAt bs p k * 2 + bitAt bs (p + k)
  by_cases hk : k = 0
  · subst hk
    have h1 := upTo_zero ls
    have h2 := bitAt_bounds bs (p + 0)
    rw [show (((0 : Nat) : Int)) = 0 from rfl, h1]
    unfold vAt; omega
  · have := h k (by omega) (by omega)
    omega
theorem found_ex {ls : List Int} (hc : checkS ls = 0) (hk : kraft ls = 32768) (bs : List Int) (p : Nat) : ∃ n s, Found ls bs p n s := by
  have h15 : vAt bs p 15 < upTo ls (15 : Nat) ls.length := by
    have h1 : upTo ls (15 : Nat) ls.length = kraft ls := by
      unfold upTo kraft
      refine sumTo_congr fun t ht => ?_
      unfold wgt
      by_cases hp : 0 < ln ls t
      · have h2 := ((complete hc).1 t).2
        rw [if_pos (by omega), if_pos hp]
        congr 1; omega
      · rw [if_neg (by omega), if_neg hp]
    have := (vAt_bounds bs p 15).2
    rw [h1, hk]; omega
  have hleast : ∀ N : Nat, (∃ n, 1 ≤ n ∧ n ≤ N ∧ vAt bs p n < upTo ls n ls.length) → ∃ n, 1 ≤ n ∧ n ≤ N ∧ vAt bs p n < upTo ls n ls.length ∧ ∀ m : Nat, 1 ≤ m → m < n → upTo ls m ls.length ≤ vAt bs p m := by
    intro N
    induction N with
    | zero => rintro ⟨n, h1, h2, _⟩; omega
    | succ N ih =>
      intro h
      by_cases hN : ∃ n, 1 ≤ n ∧ n ≤ N ∧ vAt bs p n < upTo ls n ls.length
      · obtain ⟨n, h1, h2, h3⟩ := ih hN
        exact ⟨n, h1, by omega, h3⟩
      · obtain ⟨n, h1, h2, h3⟩ := h
        have e : n = N + 1 := by
          by_cases e : n = N + 1
          · exact e
          · exact absurd ⟨n, h1, by omega, h3⟩ hN
        subst e
        refine ⟨N + 1, h1, h2, h3, fun m hm1 hm2 => ?_⟩
        by_cases hc : vAt bs p m < upTo ls m ls.length
        · exact absurd ⟨m, hm1, by omega, hc⟩ hN
        · omega
  obtain ⟨n, h1, h2, h3, h4⟩ := hleast 15 ⟨15, by omega, by omega, h15⟩
  have h5 := low_step ls bs p n h4 h1
  have h6 := upTo_eq ls n (by omega) ls.length (Nat.le_refl _)
  obtain ⟨s, h7, h8, h9⟩ := eqUp_find ls n (vAt bs p n - upTo ls n 0).toNat ls.length (by omega)
  refine ⟨n, s, h1, h2, h7, h8, ?_, h4⟩
  rw [← upTo_code, h8, upTo_eq ls n (by omega) s (by omega), h9]
  omega
end Go.Proofs.Ytbljoihnjhllhaa

/- What code.Codes does. -/
namespace Go.Proofs.Ytbljoihnjhllhaa
open Go.RowKit
open Go.Proofs.YtbljoihnjhllhaaW.PrintWords
open Srt

/-- What code.Codes answers. -/
def CodesPost (ls : List Int) (w : World) (e : Ending) (w' : World) : Prop :=
  Below w.heap.size w w' ∧ ∃ v, e = .returned v ∧ (checkS ls ≠ 0 → v = .slice none 0 0) ∧ (checkS ls = 0 → w'.ownsRow w.heap.size 31 1 v ls.length (nums .u32 (codesS ls)))

set_option maxHeartbeats 2000000 in
theorem codes_any (A : Option Addr) (n c : Nat) (ls : List Int) (w : World) (HR : ReadsInt w .i64 A n ls) (hn : n ≤ 17592186044416) :
    Calls Try.prog 52 #[.slice A n c] w (CodesPost ls w) := by
  have HRR := Lib.hid HR; have HL := Lib.hid HR.1
  clear HR
  have hmk := print_make (P := Try.prog) 56 31 .u32 4 Try.underlying56 info_u32 (by decide) n (by omega)
  by_cases hc : checkS ls = 0
  · have HC := Lib.hid hc
    have hcb : (checkS ls != 0) = false := by simp [hc]
    clear hc
    go_enter Try.func52, Try.ntmps52
    go_wp2_with (go_at_call 18; refine (check_any A n c ls w HRR.out hn).mono ?_; rintro e w' ⟨rfl, rfl⟩)
    have hO0 : ((w.alloc (.cells (madeCells #[.int .u32 0] n) 31)).ownsRow w.heap.size 31 1 (.slice (some ⟨w.heap.size, 0, none⟩) n n) n (nums .u32 (outAt ls []))) := by
      rw [outAt_nil, HL.out]; exact own_made w w.heap.size 31 .u32 n (Nat.le_refl _) (by omega)
    have HO0 := Lib.hid hO0
    have HB0 := Lib.hid ((Below.refl w.heap.size w).alloc (Nat.le_refl _) (.cells (madeCells #[.int .u32 0] n) 31))
    have HSZ := Lib.hid (show (w.alloc (.cells (madeCells #[.int .u32 0] n) 31)).heap.size = w.heap.size + 1 from by simp)
    clear hO0 hmk
    generalize hw1 : w.alloc (.cells (madeCells #[.int .u32 0] n) 31) = w1 at *
    generalize hg : w.heap.size = g at *
    have HW1 := Lib.hid hw1; have HG := Lib.hid hg
    clear hw1 hg
    have hR1 : ReadsInt w1 .i64 A n ls := HRR.out.below (by rw [HG.out]; exact HB0.out)
    have hv : ∀ x ∈ ls, x ≤ 9223372036854775807 := fun x hx => by
      obtain ⟨i, hi, rfl⟩ := List.getElem_of_mem hx
      have := (complete HC.out).1 i
      rw [ln_get hi] at this; omega
    refine (order_any A n c ls w1 hR1 hn hv).mono ?_
    clear hR1 hv
    rintro e w2 ⟨hB2, v, os, rfl, hin, hown⟩
    have hlen : os.length ≤ n := by
      have h1 := (FEq.perm hin.2).length_eq
      have h2 := posUp_le ls ls.length
      have h3 := HL.out
      unfold posList at h1; omega
    obtain ⟨A2, c2, rfl, hR2⟩ := own_reads hown
    have HA2 := Lib.hid (show ∀ ad, A2 = some ad → ad.block ∉ [g] from fun ad e => by
      have := own_base hown ad.block (by rw [e]; rfl)
      have := HSZ.out
      simp; omega)
    have HB2 := Lib.hid (HB0.out.trans (hB2.mono (by rw [HSZ.out]; omega)))
    have HIN := Lib.hid hin; have HR2 := Lib.hid hR2
    have HO2 := Lib.hid (pw_own_below HO0.out hB2)
    have hs2 : g + 1 ≤ w2.heap.size := by have := hB2.size; rw [HSZ.out] at this; exact this
    clear hin hR2 hown hB2 hs2
    go_wp2_with fail
    go_loopw [4, 5, 6, 7, 17] (fun nt lt' s' i' i wr => ∃ k : Nat, k ≤ os.length ∧ i = .int .i64 k ∧ nt = .int .u32 (nx ls os k) ∧ lt' = .int .i64 (la ls os k) ∧ Hid (wr.ownsRow g 31 1 (.slice (some ⟨g, 0, none⟩) n n) n (nums .u32 (outAt ls (os.take k)))) ∧ Hid (Mods [g] w2 wr)) (fun _ _ _ _ i _ => os.length - (intOf i).toNat)
    case atStart => exact ⟨0, by omega, rfl, rfl, rfl, HO2.out, Mods.refl _ _⟩
    case round =>
      obtain ⟨k, hk, rfl, rfl, rfl, HO, HM⟩ := hrel
      by_cases hlt : k < os.length
      · obtain ⟨e1, hs, hp⟩ := sy_cast HIN.out hlt
        obtain ⟨ad, hA, hcell0⟩ := ReadsInt.at_ (ReadsInt.mods HR2.out HM.out HA2.out) (k : Int) (by omega) (by omega)
        rw [Int.toNat_natCast, e1] at hcell0
        have hL0 := HL.out
        obtain ⟨bd, hB, hcellb⟩ := ReadsInt.at_ HRR.out (sy os k : Int) (by omega) (by omega)
        have hbw : Below g w wr := Below.then_mods HB2.out (by have := HB2.out.size; rw [HG.out] at this; exact this) HM.out (by simp)
        have hcell1 := pw_cell_below (w1 := wr) (by rw [HG.out]; exact hbw) hcellb
        rw [Int.toNat_natCast, rd_ln] at hcell1
        clear hcellb hbw
        obtain ⟨hc1, hf1⟩ := own_at HO.out (sy os k : Int) (by omega) (by omega)
        rw [Int.toNat_natCast] at hc1 hf1
        have hrow : (wr.setCell ⟨g, sy os k, none⟩ (.int .u32 (nx ls os (k + 1)))).ownsRow g 31 1 (.slice (some ⟨g, 0, none⟩) n n) n (nums .u32 (outAt ls (os.take (k + 1)))) := by
          have h := (own_store HO.out (sy os k : Int) (nx ls os (k + 1))).1
          rw [Int.toNat_natCast] at h
          have e3 : (outAt ls (os.take k)).set (sy os k) (nx ls os (k + 1)) = outAt ls (os.take (k + 1)) := by
            show (outAt ls (os.take k)).set (sy os k) (codeS ls (sy os k)) = _
            rw [outAt_set _ _ _ hs, ← e1, rd_get hlt, List.take_add_one, List.getElem?_eq_getElem hlt]; rfl
          rw [e3] at h; exact h
        have HROW := Lib.hid hrow
        have HMB := Lib.hid (HM.out.setCell (p := ⟨g, sy os k, none⟩) (.inl (by simp)) (.int .u32 (nx ls os (k + 1))))
        have hx1 := nx_le HC.out os k
        have hx2 := nx_le HC.out os (k + 1)
        have hl1 := la_le HC.out os k
        have hl2 := la_le HC.out os (k + 1)
        have hstep := nx_next HIN.out hlt
        have hnil : k = 0 → nx ls os (k + 1) = 0 := fun e => by subst e; exact nx_first HIN.out (by omega)
        have HL1 := Lib.hid (show la ls os (k + 1) = ln ls (sy os k) from rfl)
        rw [show ln ls (sy os k) = la ls os (k + 1) from rfl] at hcell1 hp
        generalize hX : nx ls os k = X at *
        generalize hX' : nx ls os (k + 1) = X' at *
        generalize hY : la ls os k = Y at *
        generalize hY' : la ls os (k + 1) = Y' at *
        generalize hS : sy os k = S at *
        have H1 := Lib.hid hX; have H2 := Lib.hid hX'; have H3 := Lib.hid hY; have H4 := Lib.hid hY'
        clear hX hX' hY hY' hrow e1 hS
        subst hA
        subst hB
        by_cases hk0 : k = 0
        · have hX0 : X' = 0 := hnil hk0
          have hX1 : X = 0 := by rw [← H1.out, hk0]; rfl
          subst hX0
          subst hX1
          have hk1 : decide (0 < k) = false := by simp [hk0]
          clear hstep hnil hk0
          go_wp2_with fail
          go_roundw
          case rel => exact ⟨k + 1, by omega, by go_num, by rw [H2.out], by rw [H4.out], HROW.out, HMB.out⟩
          case measure => simp [intOf]; omega
        · obtain ⟨hle, hxe⟩ := hstep (by omega)
          clear hstep hnil
          have HXE := Lib.hid hxe
          clear hxe
          have hmod : (X + 1) * 2 ^ (Y' - Y).toNat % 4294967296 = X' := by rw [← HXE.out]; omega
          have HMOD := Lib.hid hmod
          clear hmod
          go_wp2_with fail
          rw [HMOD.out]
          go_roundw
          case rel => exact ⟨k + 1, by omega, by go_num, by rw [H2.out], by rw [H4.out], HROW.out, HMB.out⟩
          case measure => simp [intOf]; omega
      · obtain rfl : k = os.length := by omega
        have hb : Below g w wr := Below.then_mods HB2.out (by have := HB2.out.size; rw [HG.out] at this; exact this) HM.out (by simp)
        have HBB := Lib.hid hb
        have HOO := Lib.hid (show wr.ownsRow g 31 1 (.slice (some ⟨g, 0, none⟩) n n) n (nums .u32 (codesS ls)) from by
          have h := HO.out
          rw [List.take_length, outAt_done HIN.out] at h; exact h)
        clear hb
        go_wp2_with fail
        go_ret
        refine ⟨by rw [HG.out]; exact HBB.out, _, rfl, fun h => absurd HC.out h, fun _ => ?_⟩
        rw [HG.out, HL.out]; exact HOO.out
  · have HC := Lib.hid hc
    have hcb : (checkS ls != 0) = true := by simp [hc]
    clear hc
    go_enter Try.func52, Try.ntmps52
    go_wp2_with (go_at_call 18; refine (check_any A n c ls w HRR.out hn).mono ?_; rintro e w' ⟨rfl, rfl⟩)
    go_ret
    exact ⟨Below.refl _ _, _, rfl, fun _ => rfl, fun h => absurd h HC.out⟩
end Go.Proofs.Ytbljoihnjhllhaa

/- What package tree does: a new one. -/
namespace Go.Proofs.Ytbljoihnjhllhaa
open Go.RowKit
open Go.Proofs.YtbljoihnjhllhaaW.PrintWords
open Srt

def treeCells (lv cv : Value) (cs : List Int) (sv : Value) (one : Bool) : Array Value := (lv :: cv :: (cs.map (fun x => Value.int .i64 x) ++ [sv, .bool one])).toArray
def cntK (ls : List Int) (k : Nat) : List Int := (List.range 16).map (fun (m : Nat) => ((eqUp ls (m : Int) k : Nat) : Int))
theorem cntK_length (ls : List Int) (k : Nat) : (cntK ls k).length = 16 := by simp [cntK]
theorem cntK_get (ls : List Int) (k m : Nat) (h : m < 16) : (cntK ls k)[m]? = some ((eqUp ls m k : Nat) : Int) := by
  simp [cntK, List.getElem?_map, List.getElem?_range h]
theorem cntK_next (ls : List Int) (k m : Nat) (h : ln ls k = m) (hm : m < 16) : (cntK ls k).set m ((eqUp ls m k : Nat) + 1 : Int) = cntK ls (k + 1) := by
  apply List.ext_getElem?
  intro t
  by_cases ht : t < 16
  · rw [cntK_get _ _ _ ht, List.getElem?_set, cntK_get _ _ _ ht, cntK_length]
    by_cases e : m = t
    · subst e
      rw [if_pos rfl, if_pos hm, eqUp_hit ls m k h]; simp
    · rw [if_neg e, eqUp_miss ls t k (by rw [h]; omega)]
  · rw [List.getElem?_eq_none (by simp [cntK]; omega), List.getElem?_eq_none (by simp [cntK]; omega)]
theorem cntK_zero (ls : List Int) : cntK ls 0 = List.replicate 16 0 := by
  apply List.ext_getElem
  · simp [cntK]
  · intro i h1 h2; rw [List.getElem_replicate]; simp [cntK, eqUp, cnt]
theorem treeCells_get (lv cv : Value) (cs : List Int) (sv : Value) (one : Bool) (m : Nat) (x : Int) (h : cs[m]? = some x) : (treeCells lv cv cs sv one)[2 + m]? = some (.int .i64 x) := by
  have hm : m < cs.length := (List.getElem?_eq_some_iff.1 h).1
  unfold treeCells
  rw [List.getElem?_toArray, Nat.add_comm, List.getElem?_cons_succ, List.getElem?_cons_succ, List.getElem?_append_left (by simpa using hm), List.getElem?_map, h]; rfl
theorem treeCells_set (lv cv : Value) (cs : List Int) (sv : Value) (one : Bool) (m : Nat) (x : Int) (h : m < cs.length) : (treeCells lv cv cs sv one).setIfInBounds (2 + m) (.int .i64 x) = treeCells lv cv (cs.set m x) sv one := by
  unfold treeCells
  apply Array.ext'
  rw [Array.toList_setIfInBounds, Nat.add_comm]
  simp only [List.set_cons_succ]
  rw [List.set_append_left _ _ (by simpa using h), List.map_set]

theorem treeCells_one (lv cv : Value) (cs : List Int) (sv : Value) (one : Bool) (h : cs.length = 16) : (treeCells lv cv cs sv one)[19]? = some (.bool one) := by
  unfold treeCells
  rw [List.getElem?_toArray, List.getElem?_cons_succ, List.getElem?_cons_succ, List.getElem?_append_right (by simp [h]), List.length_map, h]; rfl
theorem treeCells_sorted (lv cv : Value) (cs : List Int) (sv : Value) (one : Bool) (h : cs.length = 16) : (treeCells lv cv cs sv one)[18]? = some sv := by
  unfold treeCells
  rw [List.getElem?_toArray, List.getElem?_cons_succ, List.getElem?_cons_succ, List.getElem?_append_right (by simp [h]), List.length_map, h]; rfl
theorem treeCells_setOne (lv cv : Value) (cs : List Int) (sv : Value) (one y : Bool) (h : cs.length = 16) : (treeCells lv cv cs sv one).setIfInBounds 19 (.bool y) = treeCells lv cv cs sv y := by
  unfold treeCells
  apply Array.ext'
  rw [Array.toList_setIfInBounds]
  simp only [List.set_cons_succ]
  rw [List.set_append_right _ _ (by simp [h]), List.length_map, h]; rfl
theorem own_some' {w : World} {base n size : Nat} {e : TypeId} {v : Value} {xs : List Value} (h : w.ownsRow base e size v n xs) (hn : 0 < n) : ∃ g c, v = .slice (some ⟨g, 0, none⟩) n c ∧ base ≤ g := by
  rcases h.2 with ⟨_, h0⟩ | ⟨g, cap, cur, rfl, hb, _⟩
  · omega
  · exact ⟨g, cap, rfl, hb⟩

def IsTree (w : World) (B hi : Nat) (ls os : List Int) : Prop :=
  B < hi ∧ hi ≤ w.heap.size ∧ ls.length ≤ 17592186044416 ∧ checkS ls = 0 ∧ InOrder ls os ∧ ∃ Al cl Ac cc Ao co,
    w.heap[B]? = some (.cells (treeCells (.slice Al ls.length cl) (.slice Ac ls.length cc) ((cntK ls ls.length).set 0 0) (.slice Ao os.length co) (oneS ls).2) 99 (0, 0)) ∧
    ReadsInt w .u8 Al ls.length ls ∧ ReadsInt w .u32 Ac ls.length (codesS ls) ∧ ReadsInt w .i64 Ao os.length os ∧
    (∀ ad, Al = some ad → ad.block < hi) ∧ (∀ ad, Ac = some ad → ad.block < hi) ∧ (∀ ad, Ao = some ad → ad.block < hi)

/-- A tree's own block, and the blocks of its rows, are none below lo. -/
def Above (w : World) (B lo : Nat) : Prop := lo ≤ B ∧ ∀ i ad n c, w.cell? ⟨B, i, none⟩ = some (.slice (some ad) n c) → lo ≤ ad.block
theorem above_cells {w : World} {B lo n m : Nat} {Al Ac Ao : Option Addr} {cl cc co : Nat} {cs : List Int} {one : Bool} (hk : w.heap[B]? = some (.cells (treeCells (.slice Al n cl) (.slice Ac n cc) cs (.slice Ao m co) one) 99 (0, 0))) (hB : lo ≤ B) (h1 : ∀ ad, Al = some ad → lo ≤ ad.block) (h2 : ∀ ad, Ac = some ad → lo ≤ ad.block) (h3 : ∀ ad, Ao = some ad → lo ≤ ad.block) : Above w B lo := by
  refine ⟨hB, fun i ad n' c hc => ?_⟩
  rw [cell_blk hk] at hc
  have hm : Value.slice (some ad) n' c ∈ (treeCells (.slice Al n cl) (.slice Ac n cc) cs (.slice Ao m co) one).toList := by simpa using Array.mem_of_getElem? hc
  simp [treeCells] at hm
  rcases hm with ⟨e, _, _⟩ | ⟨e, _, _⟩ | ⟨e, _, _⟩
  · exact h1 ad e.symm
  · exact h2 ad e.symm
  · exact h3 ad e.symm
/-- What tree.New answers. -/
def NewPost (ls : List Int) (w : World) (e : Ending) (w' : World) : Prop :=
  Below w.heap.size w w' ∧ ∃ B os, e = .returned (.tuple #[.pointer (some ⟨B, 0, none⟩), .int .i64 0]) ∧ w.heap.size ≤ B ∧ IsTree w' B w'.heap.size ls os

set_option maxRecDepth 8000 in
set_option maxHeartbeats 2000000 in
theorem tree_new2 (A : Option Addr) (n c : Nat) (ls : List Int) (w : World) (HR : ReadsInt w .i64 A n ls) (hn : n ≤ 17592186044416) (hc : n ≤ c) (hz : checkS ls = 0) :
    Calls Try.prog 36 #[.slice A n c] w fun e w' => Below w.heap.size w w' ∧ ∃ B os, e = .returned (.tuple #[.pointer (some ⟨B, 0, none⟩), .int .i64 0]) ∧ w.heap.size ≤ B ∧ IsTree w' B w'.heap.size ls os ∧ Above w' B w.heap.size := by
  have HRR := Lib.hid HR; have HL := Lib.hid HR.1; have HZ := Lib.hid hz
  have hzb : (checkS ls != 0) = false := by simp [hz]
  clear HR hz
  go_enter Try.func36, Try.ntmps36
  go_wp2_with (go_at_call 18; refine (check_any A n c ls w HRR.out hn).mono ?_; rintro e w' ⟨rfl, rfl⟩)
  refine (codes_any A n c ls w HRR.out hn).mono ?_
  rintro e w1 ⟨hB1, v1, rfl, _, h1⟩
  have hO1 := h1 HZ.out
  rw [HL.out] at hO1
  obtain ⟨A1, c1, rfl, hR1⟩ := own_reads hO1
  have HLO1 := Lib.hid (show ∀ ad, A1 = some ad → w.heap.size ≤ ad.block from fun ad e => own_base hO1 ad.block (by rw [e]; rfl))
  have HO1 := Lib.hid hO1; have HB1 := Lib.hid hB1; have HR1 := Lib.hid hR1
  clear h1 hB1 hO1 hR1
  go_wp2_with fail
  refine (order_any A n c ls w1 (HRR.out.below HB1.out) hn (fun x hx => by
    obtain ⟨i, hi, rfl⟩ := List.getElem_of_mem hx
    have := (complete HZ.out).1 i
    rw [ln_get hi] at this; omega)).mono ?_
  rintro e w2 ⟨hB2, v2, os, rfl, hin, hO2⟩
  obtain ⟨A2, c2, rfl, hR2⟩ := own_reads hO2
  have HIN := Lib.hid hin; have HR2 := Lib.hid hR2; have HB2 := Lib.hid (below_then HB1.out HB1.out.size hB2); have HRc := Lib.hid (HR1.out.below hB2)
  have HA1 := Lib.hid (show ∀ ad, A1 = some ad → ad.block < w2.heap.size from fun ad e => by
    have := own_lt HO1.out ad.block (by rw [e]; rfl)
    have := hB2.size; omega)
  have HA2 := Lib.hid (show ∀ ad, A2 = some ad → ad.block < w2.heap.size from fun ad e => own_lt hO2 ad.block (by rw [e]; rfl))
  have HLO2 := Lib.hid (show ∀ ad, A2 = some ad → w.heap.size ≤ ad.block from fun ad e => by
    have := own_base hO2 ad.block (by rw [e]; rfl)
    have := HB1.out.size; omega)
  clear hin hR2 hB2 hO2
  go_wp2_with fail
  have hblk : (w2.alloc (.cells (treeCells (.slice none 0 0) (.slice A1 n c1) (cntK ls 0) (.slice A2 os.length c2) false) 99)).heap[w2.heap.size]? = some (.cells (treeCells (.slice none 0 0) (.slice A1 n c1) (cntK ls 0) (.slice A2 os.length c2) false) 99 (0, 0)) := blk_alloc _
  have hb0 : Below w2.heap.size w2 (w2.alloc (.cells (treeCells (.slice none 0 0) (.slice A1 n c1) (cntK ls 0) (.slice A2 os.length c2) false) 99)) := (Below.refl _ _).alloc (Nat.le_refl _) _
  rw [show #[Value.slice none 0 0, Value.slice A1 n c1, .int .i64 0, .int .i64 0, .int .i64 0, .int .i64 0, .int .i64 0, .int .i64 0, .int .i64 0, .int .i64 0, .int .i64 0, .int .i64 0, .int .i64 0, .int .i64 0, .int .i64 0, .int .i64 0, .int .i64 0, .int .i64 0, Value.slice A2 os.length c2, .bool false] = treeCells (.slice none 0 0) (.slice A1 n c1) (cntK ls 0) (.slice A2 os.length c2) false from by rw [cntK_zero]; rfl]
  have hsz : (w2.alloc (.cells (treeCells (.slice none 0 0) (.slice A1 n c1) (cntK ls 0) (.slice A2 os.length c2) false) 99)).heap.size = w2.heap.size + 1 := by simp
  generalize hw3 : w2.alloc (.cells (treeCells (.slice none 0 0) (.slice A1 n c1) (cntK ls 0) (.slice A2 os.length c2) false) 99) = w3 at *
  clear hw3
  generalize hb : w2.heap.size = b at *
  have HBK := Lib.hid hblk; have HB0 := Lib.hid hb0; have HSZ := Lib.hid hsz; have HBE := Lib.hid hb
  clear hblk hb0 hsz hb
  generalize treeCells (.slice none 0 0) (.slice A1 n c1) (cntK ls 0) (.slice A2 os.length c2) false = agg0
  go_loopw [7, 21] (fun x i wr => ∃ k : Nat, k ≤ n ∧ i = .int .i64 k ∧ Hid (∃ lv, wr.heap[b]? = some (.cells (treeCells lv (.slice A1 n c1) (cntK ls k) (.slice A2 os.length c2) false) 99 (0, 0)) ∧ wr.ownsRow (b + 1) 5 1 lv k (nums .u8 (ls.take k)) ∧ Below b w2 wr)) (fun _ i _ => n - (intOf i).toNat)
  case atStart => exact ⟨0, by omega, rfl, _, HBK.out, own_nil _ _ _ _, HB0.out⟩
  case round =>
    obtain ⟨k, hk, rfl, HX⟩ := hrel
    obtain ⟨lv, hbk, hO, hB⟩ := HX.out
    clear HX
    by_cases hlt : k < n
    · have hBw : Below w.heap.size w wr := below_then HB2.out HB2.out.size (by rw [HBE.out]; exact hB)
      obtain ⟨ad, hA, hcell0⟩ := ReadsInt.at_ (HRR.out.below hBw) (k : Int) (by omega) (by omega)
      rw [Int.toNat_natCast, rd_ln] at hcell0
      subst hA
      obtain ⟨hl0, hl1⟩ := (complete HZ.out).1 k
      have hlv : wr.cell? ⟨b, 0, none⟩ = some lv := cell_blk hbk 0
      have hfv := free_blk hbk 0
      have hwlt := blk_lt hbk
      have HBKr := Lib.hid hbk; have HO := Lib.hid hO; have HB := Lib.hid hB
      clear hbk hO hB hBw
      have hlk : (ls.take k).length = k := by have := HL.out; rw [List.length_take]; omega
      have HOB : Hid (wr.ownsRow (b + 1) 5 1 lv (ls.take k).length (nums .u8 (ls.take k))) := by rw [hlk]; exact HO
      go_wp2_with (at_builtin; refine print_append_num (b + 1) rfl _ _ 34 5 .u8 1 rfl Try.underlying34 info_u8 (by decide) _ (ls.take k) (ln ls k) rfl rfl (by exact HOB.out) (Below.refl (b + 1) wr) (by omega) (by rw [hlk]; omega) ?_)
      intro v1 w4 hown hB4 _ _
      obtain ⟨g1, c4, hv1, hg1⟩ := own_some' hown (by omega)
      have hbk4 := (hB4.block b (by omega)).trans HBKr.out
      have hfv4 := free_blk hbk4 0
      have hlv4 : w4.cell? ⟨b, 0, none⟩ = some lv := cell_blk hbk4 0
      have hb5 := blk_set hbk4 0 v1
      rw [show (treeCells lv (.slice A1 n c1) (cntK ls k) (.slice A2 os.length c2) false).setIfInBounds 0 v1 = treeCells v1 (.slice A1 n c1) (cntK ls k) (.slice A2 os.length c2) false from rfl] at hb5
      have ho5 : (w4.setCell ⟨b, 0, none⟩ v1).ownsRow (b + 1) 5 1 v1 (k + 1) (nums .u8 (ls.take (k + 1))) := by
        have e : ls.take (k + 1) = ls.take k ++ [ln ls k] := by rw [List.take_add_one, List.getElem?_eq_getElem (by have := HL.out; omega), ln_get (by have := HL.out; omega)]; rfl
        rw [e]
        refine own_setCell hown (fun h => ?_) v1
        have := own_base hown b h.symm
        omega
      have hB5 : Below b w2 (w4.setCell ⟨b, 0, none⟩ v1) := (HB.out.trans (hB4.mono (by omega))).setCell (p := ⟨b, 0, none⟩) (Nat.le_refl b) v1
      have HB5 := Lib.hid hB5; have HO5 := Lib.hid ho5; have HBK5 := Lib.hid hb5
      clear hown hB4 hbk4 hB5 ho5 hb5 hcell0 hg1
      subst hv1
      go_wp2_with fail
      generalize w4.setCell ⟨b, 0, none⟩ (.slice (some ⟨g1, 0, none⟩) (k + 1) c4) = w5 at *
      obtain ⟨m, hm⟩ := Int.eq_ofNat_of_zero_le hl0
      have HMK := Lib.hid hm
      rw [hm]
      have hm15 : m < 16 := by omega
      have hcm : w5.cell? ⟨b, 2 + m, none⟩ = some (.int .i64 (eqUp ls m k : Nat)) := by rw [cell_blk HBK5.out]; exact treeCells_get _ _ _ _ _ m _ (cntK_get ls k m hm15)
      have hfm : w5.frozen? ⟨b, 2 + m, none⟩ = false := free_blk HBK5.out _
      have hle := eqUp_le ls m k
      generalize hq : eqUp ls m k = q at *
      have HQ := Lib.hid hq
      clear hm hl0 hl1 hq
      have hsum : IntKind.i64.wrap ((q : Int) + 1) = ((q + 1 : Nat) : Int) := by rw [IntWalk.i64_in _ (by omega)]; omega
      have hmi : (m : Int) < 16 := by omega
      have hmt : ((m : Int)).toNat = m := by omega
      go_wp2_with fail
      go_region
      have hbk6 := blk_set HBK5.out (2 + m) (.int .i64 ((q : Int) + 1))
      rw [treeCells_set _ _ _ _ _ m _ (by rw [cntK_length]; exact hm15)] at hbk6
      have e6 : (cntK ls k).set m ((q : Int) + 1) = cntK ls (k + 1) := by rw [← HQ.out]; exact cntK_next ls k m HMK.out hm15
      rw [e6] at hbk6
      have ho6 : (w5.setCell ⟨b, 2 + m, none⟩ (.int .i64 ((q : Int) + 1))).ownsRow (b + 1) 5 1 (.slice (some ⟨g1, 0, none⟩) (k + 1) c4) (k + 1) (nums .u8 (ls.take (k + 1))) := by
        refine own_setCell HO5.out (fun h => ?_) _
        have := own_base HO5.out b h.symm
        omega
      have hB6 := HB5.out.setCell (p := ⟨b, 2 + m, none⟩) (Nat.le_refl b) (.int .i64 ((q : Int) + 1))
      have HBK6 := Lib.hid hbk6; have HO6 := Lib.hid ho6; have HB6 := Lib.hid hB6
      clear hbk6 ho6 hB6 e6
      generalize w5.setCell ⟨b, 2 + m, none⟩ (.int .i64 ((q : Int) + 1)) = w6 at *
      go_wp2_with fail
      go_roundw
      case rel => exact ⟨k + 1, by omega, by go_num, _, HBK6.out, HO6.out.drew, below_drew HB6.out⟩
      case measure => simp [intOf]; omega
    · obtain rfl : k = n := by omega
      have hwlt := blk_lt hbk
      obtain ⟨Al, cl, rfl, hRl⟩ := own_reads hO
      have hfv := free_blk hbk 2
      have hcv : wr.cell? ⟨b, 2, none⟩ = some (.int .i64 (eqUp ls 0 k : Nat)) := by rw [cell_blk hbk]; exact treeCells_get _ _ _ _ _ 0 _ (cntK_get ls k 0 (by omega))
      have hb1 := blk_set hbk 2 (.int .i64 0)
      rw [treeCells_set _ _ _ _ _ 0 _ (by rw [cntK_length]; omega)] at hb1
      have ho1 : (wr.setCell ⟨b, 2, none⟩ (.int .i64 0)).ownsRow (b + 1) 5 1 (.slice Al k cl) k (nums .u8 (ls.take k)) := by
        refine own_setCell hO (fun h => ?_) _
        have := own_base hO b h.symm
        omega
      have hB1 := hB.setCell (p := ⟨b, 2, none⟩) (Nat.le_refl b) (.int .i64 0)
      have HBK1 := Lib.hid hb1; have HO1' := Lib.hid ho1; have HB1' := Lib.hid hB1
      clear hb1 ho1 hB1 hbk hO hB hRl
      obtain ⟨x, HX⟩ : ∃ v, Hid ((oneS ls).1 = v) := ⟨_, rfl⟩
      obtain ⟨y, HY⟩ : ∃ v, Hid ((oneS ls).2 = v) := ⟨_, rfl⟩
      go_wp2_with fail
      have hBw : Below w.heap.size w (wr.setCell ⟨b, 2, none⟩ (.int .i64 0)) := below_then HB2.out HB2.out.size (by rw [HBE.out]; exact HB1'.out)
      refine (one_any A k c ls _ (HRR.out.below hBw) hn hc).mono ?_
      rintro e w' ⟨rfl, rfl⟩
      rw [HX.out, HY.out]
      have hlen16 : ((cntK ls k).set 0 0).length = 16 := by rw [List.length_set, cntK_length]
      have hsz0 : wr.heap.size = (wr.setCell ⟨b, 2, none⟩ (.int .i64 0)).heap.size := by simp
      rw [hsz0] at hwlt
      clear hcv hfv hsz0
      generalize wr.setCell ⟨b, 2, none⟩ (.int .i64 0) = w4 at *
      have hfv := free_blk HBK1.out 19
      have hcv : w4.cell? ⟨b, 19, none⟩ = some (.bool false) := by rw [cell_blk HBK1.out]; exact treeCells_one _ _ _ _ _ hlen16
      have hb7 := blk_set HBK1.out 19 (.bool y)
      rw [treeCells_setOne _ _ _ _ _ _ hlen16] at hb7
      have ho7 : (w4.setCell ⟨b, 19, none⟩ (.bool y)).ownsRow (b + 1) 5 1 (.slice Al k cl) k (nums .u8 (ls.take k)) := by
        refine own_setCell HO1'.out (fun h => ?_) _
        have := own_base HO1'.out b h.symm
        omega
      have hB7 := HB1'.out.setCell (p := ⟨b, 19, none⟩) (Nat.le_refl b) (.bool y)
      have hBw7 : Below w.heap.size w (w4.setCell ⟨b, 19, none⟩ (.bool y)) := below_then HB2.out HB2.out.size (by rw [HBE.out]; exact hB7)
      have hfin : IsTree (w4.setCell ⟨b, 19, none⟩ (.bool y)) b (w4.setCell ⟨b, 19, none⟩ (.bool y)).heap.size ls os := by
        have hs7 : (w4.setCell ⟨b, 19, none⟩ (.bool y)).heap.size = w4.heap.size := by simp
        have hL := HL.out
        refine ⟨by omega, Nat.le_refl _, by omega, HZ.out, HIN.out, Al, cl, A1, c1, A2, c2, ?_, ?_, ?_, ?_, ?_, ?_, ?_⟩
        · rw [hL, HY.out]; exact hb7
        · have := own_reads' ho7
          rw [List.take_of_length_le (by omega)] at this
          rw [hL]; exact this
        · rw [hL]; exact HRc.out.below (by rw [HBE.out]; exact hB7)
        · exact HR2.out.below (by rw [HBE.out]; exact hB7)
        · exact fun ad e => own_lt ho7 ad.block (by rw [e]; rfl)
        · intro ad e; have := HA1.out ad e; omega
        · intro ad e; have := HA2.out ad e; omega
      have hab : Above (w4.setCell ⟨b, 19, none⟩ (.bool y)) b w.heap.size := by
        have hb2 : w.heap.size ≤ b := by have := HB2.out.size; rw [HBE.out] at this; exact this
        refine above_cells hb7 hb2 (fun ad e => ?_) HLO1.out HLO2.out
        have := own_base ho7 ad.block (by rw [e]; rfl)
        omega
      have HAB := Lib.hid hab
      have HFIN := Lib.hid hfin; have HBW := Lib.hid hBw7
      clear hab
      have hbw := HB2.out.size
      have HSB := Lib.hid (show w.heap.size ≤ b from by rw [← HBE.out]; exact hbw)
      clear hfin hBw hBw7 hB7 ho7 hb7
      go_wp2_with fail
      go_ret2
      exact ⟨HBW.out, b, os, rfl, HSB.out, HFIN.out, HAB.out⟩
theorem tree_new (A : Option Addr) (n c : Nat) (ls : List Int) (w : World) (HR : ReadsInt w .i64 A n ls) (hn : n ≤ 17592186044416) (hc : n ≤ c) (hz : checkS ls = 0) :
    Calls Try.prog 36 #[.slice A n c] w (NewPost ls w) :=
  (tree_new2 A n c ls w HR hn hc hz).mono fun _ _ ⟨h1, B, os, h2, h3, h4, _⟩ => ⟨h1, B, os, h2, h3, h4⟩

set_option maxHeartbeats 1000000 in
theorem tree_bad (A : Option Addr) (n c : Nat) (ls : List Int) (w : World) (HR : ReadsInt w .i64 A n ls) (hn : n ≤ 17592186044416) (hz : checkS ls ≠ 0) :
    Calls Try.prog 36 #[.slice A n c] w fun e w' => e = .returned (.tuple #[.pointer none, .int .i64 (checkS ls)]) ∧ w = w' := by
  have HRR := Lib.hid HR
  have hzb : (checkS ls != 0) = true := by simp [hz]
  clear HR hz
  go_enter Try.func36, Try.ntmps36
  go_wp2_with (go_at_call 18; refine (check_any A n c ls w HRR.out hn).mono ?_; rintro e w' ⟨rfl, rfl⟩)
  go_ret2
  exact ⟨rfl, rfl⟩
end Go.Proofs.Ytbljoihnjhllhaa
