/- lens.Read, of any bits. -/
import Derived.Test.YtbljoihnjhllhaaLensFlat21
import Derived.Test.YtbljoihnjhllhaaLensFlat23
import Derived.Test.YtbljoihnjhllhaaLensFlat6
import Derived.Test.YtbljoihnjhllhaaLensFlat20
import Derived.Test.YtbljoihnjhllhaaLensFlat9
import Derived.Test.YtbljoihnjhllhaaLensFlat3
import Derived.Test.YtbljoihnjhllhaaLensFlat17
import Derived.Test.YtbljoihnjhllhaaLensFlat4
namespace Go.Proofs.Ytbljoihnjhllhaa
open Go.RowKit
open Go.Proofs.YtbljoihnjhllhaaW.PrintWords
open Srt

noncomputable def lensF (bs : List Int) (p k : Nat) : Res :=
  if 8 * bs.length < p + 1 then .err 2 else
  match (if bitAt bs p = 1 then simpleF bs (p + 1) k else rawF bs (p + 1) k) with
  | .err e => .err e
  | .ok l q => if checkS l = 0 then .ok l q else .err 3
theorem lensF_one {bs : List Int} {p k : Nat} {e : Int} {out : List Int} {q : Nat} (h : p + 1 ≤ 8 * bs.length) (h1 : bitAt bs p = 1) (hr : simpleF bs (p + 1) k = resE e out q) : lensF bs p k = if e = 0 then (if checkS out = 0 then .ok out q else .err 3) else .err e := by
  unfold lensF
  rw [if_neg (by omega), if_pos h1, hr]
  unfold resE
  by_cases he : e = 0
  · rw [if_pos he, if_pos he]
  · rw [if_neg he, if_neg he]
theorem lensF_nought {bs : List Int} {p k : Nat} {e : Int} {out : List Int} {q : Nat} (h : p + 1 ≤ 8 * bs.length) (h1 : bitAt bs p ≠ 1) (hr : rawF bs (p + 1) k = resE e out q) : lensF bs p k = if e = 0 then (if checkS out = 0 then .ok out q else .err 3) else .err e := by
  unfold lensF
  rw [if_neg (by omega), if_neg h1, hr]
  unfold resE
  by_cases he : e = 0
  · rw [if_pos he, if_pos he]
  · rw [if_neg he, if_neg he]
theorem srx_rdr {w : World} {S g : Nat} {A : Option Addr} {bs : List Int} {p : Nat} {e : Int} (h : Srx w S g A bs p e) : ∃ q o, Rdr w g A bs q o ∧ (e = 0 → q = p ∧ o = false) := h.rdr
/-- What lens.Read answers. -/
def LensPost (g : Nat) (A : Option Addr) (bs : List Int) (p k : Nat) (w : World) (en : Ending) (w' : World) : Prop :=
  Mods [g] w w' ∧ ((∃ G out p', en = .returned (.tuple #[.slice (some ⟨G, 0, none⟩) k k, .int .i64 0]) ∧ w.heap.size ≤ G ∧ w'.ownsRow w.heap.size 3 1 (.slice (some ⟨G, 0, none⟩) k k) k (nums .i64 out) ∧ out.length = k ∧ checkS out = 0 ∧ Rdr w' g A bs p' false ∧ lensF bs p k = .ok out p') ∨
    (∃ e q o, en = .returned (.tuple #[.slice none 0 0, .int .i64 e]) ∧ e ≠ 0 ∧ Rdr w' g A bs q o ∧ lensF bs p k = .err e))

set_option maxHeartbeats 4000000 in
theorem lens_read_any (g : Nat) (A : Option Addr) (bs : List Int) (p k : Nat) (w : World) (h : Rdr w g A bs p false) (hA : ∀ ad, A = some ad → ad.block < w.heap.size) (hk1 : 1 ≤ k) (hk : k ≤ 4096) :
    Calls Try.prog 15 #[.pointer (some ⟨g, 0, none⟩), .int .i64 k] w (LensPost g A bs p k w) := by
  have hgl := h.lt
  have hAg : ∀ ad, A = some ad → ad.block < w.heap.size ∧ ad.block ≠ g := fun ad e => ⟨hA ad e, h.2.2.2.2.2 ad e⟩
  have HR := Lib.hid h; have HA := Lib.hid hAg
  have hmk := print_make (P := Try.prog) 22 3 .i64 8 Try.underlying22 info_int (by decide) k (by omega)
  clear h hA hAg
  go_enter Try.func15, Try.ntmps15
  go_wp2_with fail
  have hW1 : ((w.alloc (.cells #[.pointer (some ⟨g, 0, none⟩), .int .i64 0] 61)).alloc (.cells (madeCells #[.int .i64 0] k) 3)).heap[w.heap.size]? = some (.cells #[.pointer (some ⟨g, 0, none⟩), .int .i64 0] 61 (0, 0)) := by
    rw [Below.heap_alloc _ _ _ (by simp)]; exact blk_alloc _
  have hO1 := own_made (w.alloc (.cells #[.pointer (some ⟨g, 0, none⟩), .int .i64 0] 61)) w.heap.size 3 .i64 k (by simp) (by omega)
  have hM1 : Mods [] w ((w.alloc (.cells #[.pointer (some ⟨g, 0, none⟩), .int .i64 0] 61)).alloc (.cells (madeCells #[.int .i64 0] k) 3)) := ((Mods.refl _ _).alloc _).alloc _
  have hz1 : ((w.alloc (.cells #[.pointer (some ⟨g, 0, none⟩), .int .i64 0] 61)).alloc (.cells (madeCells #[.int .i64 0] k) 3)).heap.size = w.heap.size + 1 + 1 := by simp
  rw [World.size_alloc] at hO1
  generalize hw1 : (w.alloc (.cells #[.pointer (some ⟨g, 0, none⟩), .int .i64 0] 61)).alloc (.cells (madeCells #[.int .i64 0] k) 3) = w1 at *
  have HW1 := Lib.hid hw1; have HO1 := Lib.hid hO1; have HM1 := Lib.hid hM1; have HZ1 := Lib.hid hz1
  have HS1 := Lib.hid (show Srx w1 w.heap.size g A bs p 0 from ⟨hW1, by omega, fun ad h => ⟨by have := (HA.out ad h).1; omega, (HA.out ad h).2⟩, _, _, HR.out.mods hM1 (by simp) (by simp), fun _ => ⟨rfl, rfl⟩⟩)
  clear hw1 hO1 hM1 hz1 hW1 hmk
  refine (num_any w.heap.size g A bs p 0 1 w1 HS1.out (by omega) (by omega)).mono ?_
  rintro e w2 ⟨v, p1, e1, rfl, hS2, hM2, hN2, hv0, hv1⟩
  have HO2 := Lib.hid (own_mods HO1.out hM2 (by simp; omega))
  have HS2 := Lib.hid hS2; have HM2 := Lib.hid hM2; have HN2 := Lib.hid hN2
  have hz2 := hM2.size
  rw [HZ1.out] at hz2
  clear hS2 hM2 hN2
  by_cases hv : v = 1
  · subst hv
    have hb : e1 = 0 ∧ p + 1 ≤ 8 * bs.length ∧ bitAt bs p = 1 ∧ p1 = p + 1 := by
      rcases HN2.out.fine with ⟨_, a, _⟩ | ⟨a, b, c, d⟩
      · exact absurd a (by decide)
      · exact ⟨d, a, by rw [← bitsVal_one, ← b], c⟩
    obtain ⟨rfl, hb1, hb2, rfl⟩ := hb
    clear HN2 hv0 hv1
    go_wp2_with fail
    refine (simple_g w.heap.size g (w.heap.size + 1) w.heap.size A bs (p + 1) k w2 HS2.out ⟨by omega, by omega, fun ad h => by have := (HA.out ad h).1; omega⟩ (by omega) (fun ad h => by have := (HA.out ad h).1; omega) HO2.out (by omega)).mono ?_
    rintro e w3 ⟨rfl, out, p3, e3, hO3, hlen, hS3, hM3, hF⟩
    have HF := Lib.hid (lensF_one hb1 hb2 hF)
    clear hF hb1 hb2
    have HMM : Hid (Mods [g] w w3) := Lib.hid (Mods.trans_new ((HM1.out.mono (by simp)).trans_new HM2.out (by simp)) hM3 (by simp))
    have HO3 := Lib.hid hO3; have HS3 := Lib.hid hS3; have HL3 := Lib.hid hlen
    clear hM3 hO3 hS3 hlen
    have hd1 : w3.cell? ⟨w.heap.size, 1, none⟩ = some (.int .i64 e3) := by rw [cell_blk HS3.out.blk]; rfl
    have hf1 := free_blk HS3.out.blk 1
    by_cases he : e3 = 0
    · rw [if_pos he] at HF
      subst he
      obtain ⟨A3, c3, he3, hr3⟩ := own_reads HO3.out
      cases he3
      have HR3 := Lib.hid hr3
      have HD3 := Lib.hid (show Rdr w3 g A bs p3 false from by
        obtain ⟨q, o, hr, h0⟩ := HS3.out.rdr
        obtain ⟨rfl, rfl⟩ := h0 rfl
        exact hr)
      clear hr3
      go_wp2_with fail
      refine (check_any _ k k out w3 HR3.out (by omega)).mono ?_
      rintro e w' ⟨rfl, rfl⟩
      by_cases hc : checkS out = 0
      · have HC := Lib.hid hc
        rw [hc]
        rw [if_pos hc] at HF
        clear hc
        go_wp2_with fail
        go_ret2
        exact ⟨HMM.out, .inl ⟨_, out, p3, rfl, by omega, HO3.out, HL3.out, HC.out, HD3.out, HF.out⟩⟩
      · have hcb : (checkS out != 0) = true := by simp [hc]
        rw [if_neg hc] at HF
        generalize checkS out = cc at *
        have hm3 : Mods [w.heap.size] w3 (w3.setCell ⟨w.heap.size, 1, none⟩ (.int .i64 3)) := (Mods.refl _ _).setCell (by simp) _
        have HD4 := Lib.hid (HD3.out.mods hm3 (by simp; omega) (fun ad h => by have := (HA.out ad h).1; simp; omega))
        have HM4 := Lib.hid (HMM.out.trans_new hm3 (by simp))
        have hd4 : (w3.setCell ⟨w.heap.size, 1, none⟩ (.int .i64 3)).cell? ⟨w.heap.size, 1, none⟩ = some (.int .i64 3) := by rw [cell_blk (blk_set HS3.out.blk 1 (.int .i64 3))]; rfl
        clear hm3
        go_wp2_with fail
        go_quiet (fail)
        go_wp2_with fail
        go_ret2
        exact ⟨HM4.out.drewN _, .inr ⟨3, p3, false, rfl, by decide, HD4.out, HF.out⟩⟩
    · have heb : (e3 == 0) = false := beq_eq_false_iff_ne.2 he
      have heb2 : (e3 != 0) = true := by simp [he]
      obtain ⟨q, o, hr, _⟩ := HS3.out.rdr
      have HD3 := Lib.hid hr
      rw [if_neg he] at HF
      clear hr
      go_wp2_with fail
      go_quiet (fail)
      go_wp2_with fail
      go_ret2
      exact ⟨HMM.out.drewN _, .inr ⟨e3, q, o, rfl, he, HD3.out, HF.out⟩⟩
  · have hvb : (v == 1) = false := beq_eq_false_iff_ne.2 hv
    go_wp2_with fail
    refine (normal_any w.heap.size g (w.heap.size + 1) w.heap.size A bs p1 e1 k w2 HS2.out ⟨by omega, by omega, fun ad h => by have := (HA.out ad h).1; omega⟩ (by omega) (fun ad h => by have := (HA.out ad h).1; omega) HO2.out ⟨hk1, hk⟩).mono ?_
    rintro e w3 ⟨rfl, out, p3, e3, hO3, hlen, hS3, hM3, hE, hF⟩
    have HF : Hid (lensF bs p k = if e3 = 0 then (if checkS out = 0 then .ok out p3 else .err 3) else .err e3) := by
      rcases HN2.out.fine with ⟨a, _, _, b⟩ | ⟨a, b, c, d⟩
      · have q : e3 = 2 := by rw [hE (by rw [b]; decide), b]
        rw [q]
        exact Lib.hid (by unfold lensF; rw [if_pos (by omega)]; rfl)
      · subst c d
        exact Lib.hid (lensF_nought a (by rw [← bitsVal_one, ← b]; exact hv) (hF rfl))
    clear hF hE HN2
    have HMM : Hid (Mods [g] w w3) := Lib.hid (Mods.trans_new ((HM1.out.mono (by simp)).trans_new HM2.out (by simp)) hM3 (by simp))
    have HO3 := Lib.hid hO3; have HS3 := Lib.hid hS3; have HL3 := Lib.hid hlen
    clear hM3 hO3 hS3 hlen
    have hd1 : w3.cell? ⟨w.heap.size, 1, none⟩ = some (.int .i64 e3) := by rw [cell_blk HS3.out.blk]; rfl
    have hf1 := free_blk HS3.out.blk 1
    by_cases he : e3 = 0
    · rw [if_pos he] at HF
      subst he
      obtain ⟨A3, c3, he3, hr3⟩ := own_reads HO3.out
      cases he3
      have HR3 := Lib.hid hr3
      have HD3 := Lib.hid (show Rdr w3 g A bs p3 false from by
        obtain ⟨q, o, hr, h0⟩ := HS3.out.rdr
        obtain ⟨rfl, rfl⟩ := h0 rfl
        exact hr)
      clear hr3
      go_wp2_with fail
      refine (check_any _ k k out w3 HR3.out (by omega)).mono ?_
      rintro e w' ⟨rfl, rfl⟩
      by_cases hc : checkS out = 0
      · have HC := Lib.hid hc
        rw [hc]
        rw [if_pos hc] at HF
        clear hc
        go_wp2_with fail
        go_ret2
        exact ⟨HMM.out, .inl ⟨_, out, p3, rfl, by omega, HO3.out, HL3.out, HC.out, HD3.out, HF.out⟩⟩
      · have hcb : (checkS out != 0) = true := by simp [hc]
        rw [if_neg hc] at HF
        generalize checkS out = cc at *
        have hm3 : Mods [w.heap.size] w3 (w3.setCell ⟨w.heap.size, 1, none⟩ (.int .i64 3)) := (Mods.refl _ _).setCell (by simp) _
        have HD4 := Lib.hid (HD3.out.mods hm3 (by simp; omega) (fun ad h => by have := (HA.out ad h).1; simp; omega))
        have HM4 := Lib.hid (HMM.out.trans_new hm3 (by simp))
        have hd4 : (w3.setCell ⟨w.heap.size, 1, none⟩ (.int .i64 3)).cell? ⟨w.heap.size, 1, none⟩ = some (.int .i64 3) := by rw [cell_blk (blk_set HS3.out.blk 1 (.int .i64 3))]; rfl
        clear hm3
        go_wp2_with fail
        go_quiet (fail)
        go_wp2_with fail
        go_ret2
        exact ⟨HM4.out.drewN _, .inr ⟨3, p3, false, rfl, by decide, HD4.out, HF.out⟩⟩
    · have heb : (e3 == 0) = false := beq_eq_false_iff_ne.2 he
      have heb2 : (e3 != 0) = true := by simp [he]
      obtain ⟨q, o, hr, _⟩ := HS3.out.rdr
      have HD3 := Lib.hid hr
      rw [if_neg he] at HF
      clear hr
      go_wp2_with fail
      go_quiet (fail)
      go_wp2_with fail
      go_ret2
      exact ⟨HMM.out.drewN _, .inr ⟨e3, q, o, rfl, he, HD3.out, HF.out⟩⟩
end Go.Proofs.Ytbljoihnjhllhaa

/- Plain: lengths that are written as bits are read again. No program in sight. -/
namespace Go.Proofs.Ytbljoihnjhllhaa
open Srt

/-- From place p on the bits are l. -/
def At (bs : List Int) (p : Nat) (l : List Int) : Prop := p + l.length ≤ 8 * bs.length ∧ ∀ i, i < l.length → bitAt bs (p + i) = bl l i
theorem At.left {bs : List Int} {p : Nat} {a b : List Int} (h : At bs p (a ++ b)) : At bs p a := by
  obtain ⟨h1, h2⟩ := h
  rw [List.length_append] at h1 h2
  refine ⟨by omega, fun i hi => ?_⟩
  rw [h2 i (by omega)]
  unfold bl
  rw [List.getElem?_append_left hi]
theorem At.right {bs : List Int} {p : Nat} {a b : List Int} (h : At bs p (a ++ b)) : At bs (p + a.length) b := by
  obtain ⟨h1, h2⟩ := h
  rw [List.length_append] at h1 h2
  refine ⟨by omega, fun i hi => ?_⟩
  rw [show p + a.length + i = p + (a.length + i) from by omega, h2 _ (by omega)]
  unfold bl
  rw [List.getElem?_append_right (by omega), Nat.add_sub_cancel_left]
theorem bitsOf_len (v : Int) (n : Nat) : (bitsOf v n).length = n := by simp [bitsOf]
theorem bitsOf_bl (v : Int) (n k : Nat) (h : k < n) : bl (bitsOf v n) k = v / 2 ^ k % 2 := by
  unfold bl bitsOf
  simp [List.getElem?_map, List.getElem?_range h]
theorem At.num {bs : List Int} {p n : Nat} {v : Int} (h : At bs p (bitsOf v n)) (h0 : 0 ≤ v) (h1 : v < 2 ^ n) : p + n ≤ 8 * bs.length ∧ bitsVal bs p n = v := by
  obtain ⟨a, b⟩ := h
  rw [bitsOf_len] at a b
  refine ⟨a, ?_⟩
  have hk : ∀ k, k ≤ n → bitsVal bs p k = v % 2 ^ k := by
    intro k
    induction k with
    | zero => intro _; show (0 : Int) = v % 1; omega
    | succ k ih =>
      intro hk
      show bitsVal bs p k + bitAt bs (p + k) * 2 ^ k = _
      rw [ih (by omega), b k (by omega), bitsOf_bl _ _ _ (by omega)]
      rw [Int.pow_succ, emod_two_mul _ _ (Int.le_of_lt (Int.pow_pos (by decide)))]
  rw [hk n (Nat.le_refl _)]
  exact Int.emod_eq_of_lt h0 h1
/-- The next symbol's own bits. -/
theorem At.sym {ls bs : List Int} {p s : Nat} (hc : checkS ls = 0) (hs : hasS ls s = true) (h : At bs p (sb ls s)) : symN ls bs p = (costS ls s).toNat ∧ symS ls bs p = s := by
  refine sym_eq hc ?_
  cases h1 : (oneS ls).2 with
  | true =>
    refine .inl ⟨h1, ?_, one_is hc h1 hs⟩
    unfold costS; rw [hs, h1]; rfl
  | false =>
    refine .inr ⟨h1, found_written hc h1 hs fun t ht => ?_⟩
    rw [h.2 t (by unfold sb; rw [codeBits_length]; exact ht)]
    unfold bl sb
    rw [codeBits_get _ _ _ ht]; rfl
theorem sb_len (ls : List Int) (s : Nat) : (sb ls s).length = (costS ls s).toNat := codeBits_length _ _

/-- The bits of one step, of steps. -/
def stB (sh : List Int) (st : Lw.St) : List Int := sb sh st.1.toNat ++ bitsOf st.2.1 st.2.2.toNat
def stsB (sh : List Int) (l : List Lw.St) : List Int := l.flatMap (stB sh)
/-- Steps that are written are read again. -/
theorem stepsF_written {sh bs : List Int} {n : Nat} (hc : checkS sh = 0) : ∀ (l : List Lw.St) (m p : Nat) (last : Int) (o : List Int), (∀ st ∈ l, Lw.Fine st ∧ hasS sh st.1 = true) → l.length ≤ m → o.length + (Lw.play last l).length = n → At bs p (stsB sh l) →
    stepsF sh bs n m p last o = .ok (o ++ Lw.play last l) (p + (stsB sh l).length) := by
  intro l
  induction l with
  | nil =>
    intro m p last o _ _ hn _
    have e : o.length = n := by simpa [Lw.play] using hn
    have hp : padS n o = o := by simp [padS, e]
    have hx : Lw.play last [] = [] := rfl
    have hy : stsB sh [] = [] := rfl
    rw [hx, hy, List.append_nil]
    cases m with
    | zero => unfold stepsF; rw [hp]; rfl
    | succ m => unfold stepsF; rw [if_pos (by omega), hp]; rfl
  | cons st t ih =>
    intro m p last o hf hm hn hat
    obtain ⟨hfi, hh⟩ := hf st (by simp)
    have hmp := Lw.many_pos hfi
    obtain ⟨f1, f2, f3, f4, f5⟩ := hfi
    obtain ⟨s, e, b⟩ := st
    simp only at f1 f2 f3 f4 f5 hh
    obtain ⟨sn, rfl⟩ := Int.eq_ofNat_of_zero_le f1
    subst f5
    have hpl : Lw.play last (((sn : Int), e, Lw.wid sn) :: t) = List.replicate (Lw.many ((sn : Int), e, Lw.wid sn)) (Lw.val last ((sn : Int), e, Lw.wid sn)) ++ Lw.play (Lw.lastOf last ((sn : Int), e, Lw.wid sn)) t := rfl
    rw [hpl] at hn ⊢
    have hsb : stsB sh (((sn : Int), e, Lw.wid sn) :: t) = (sb sh sn ++ bitsOf e (Lw.wid sn).toNat) ++ stsB sh t := rfl
    rw [hsb] at hat ⊢
    obtain ⟨s1, s2⟩ := At.sym hc hh hat.left.left
    have hnum := At.num hat.left.right f3 f4
    rw [sb_len] at hnum
    have hrest := hat.right
    rw [List.length_append, sb_len, bitsOf_len] at hrest
    rw [List.length_append, List.length_replicate] at hn
    cases m with
    | zero => simp at hm
    | succ m =>
      unfold stepsF
      rw [if_neg (by omega)]
      simp only
      rw [s1, s2, if_neg (by omega), hnum.2, if_neg (by omega)]
      rw [ih m _ _ _ (fun x hx => hf x (List.mem_cons_of_mem _ hx)) (by simp at hm; omega) (by rw [List.length_append, List.length_replicate]; omega) (by rw [← Nat.add_assoc] at hrest; exact hrest)]
      rw [List.append_assoc]
      congr 1
      simp only [List.length_append, sb_len, bitsOf_len]; omega
end Go.Proofs.Ytbljoihnjhllhaa

/- Plain: one place or two set to 1. -/
namespace Go.Proofs.Ytbljoihnjhllhaa
open Go.RowKit
open Go.Proofs.YtbljoihnjhllhaaW.PrintWords
open Srt

theorem rd_zero (k : Nat) (x : Int) : rd (zeros k) x = 0 := by
  unfold rd zeros
  rw [List.getD_eq_getElem?_getD, List.getElem?_replicate]; split <;> rfl
theorem rd_ln2 (ls : List Int) (x : Nat) : rd ls (x : Int) = ln ls x := rd_ln ls x
theorem lay1 (k a : Nat) : (layS (zeros k) (twoS false (a : Int) 0)).2 = decide (a < k) ∧ (a < k → Hot k a (layS (zeros k) (twoS false (a : Int) 0)).1) := by
  have e : twoS false (a : Int) 0 = [(a : Int)] := rfl
  rw [e]
  by_cases h : a < k
  · have : layS (zeros k) [(a : Int)] = ((zeros k).set a 1, true) := by
      unfold layS
      rw [if_pos ⟨by simp [zeros]; omega, rd_zero k _⟩]; rfl
    rw [this]
    exact ⟨by simp [h], fun _ => hot_set k a h⟩
  · have : layS (zeros k) [(a : Int)] = (zeros k, false) := by
      unfold layS
      rw [if_neg (fun hc => h (by have := hc.1; simp [zeros] at this; omega))]
    rw [this]
    exact ⟨by simp [h], fun h' => absurd h' h⟩
theorem lay2 (k a b : Nat) : (layS (zeros k) (twoS true (a : Int) (b : Int))).2 = (decide (a < k) && decide (b < k) && decide (a ≠ b)) ∧ (a < k → b < k → a ≠ b → Hot2 k a b (layS (zeros k) (twoS true (a : Int) (b : Int))).1) := by
  have e : twoS true (a : Int) (b : Int) = [(a : Int), (b : Int)] := rfl
  rw [e]
  by_cases h : a < k
  · have e1 : layS (zeros k) [(a : Int), (b : Int)] = layS ((zeros k).set a 1) [(b : Int)] := by
      rw [layS, if_pos ⟨by simp [zeros]; omega, rd_zero k _⟩]; rfl
    have hh := hot_set k a h
    by_cases h2 : b < k ∧ a ≠ b
    · have e2 : layS ((zeros k).set a 1) [(b : Int)] = (((zeros k).set a 1).set b 1, true) := by
        rw [layS, if_pos ⟨by simp [zeros]; omega, by rw [rd_ln2]; have := hh.2.2 b h2.1; unfold zeros; rw [this, if_neg (fun e => h2.2 e.symm)]⟩]; rfl
      rw [e1, e2]
      exact ⟨by simp [h, h2.1, h2.2], fun _ _ _ => hot2_set k a b h h2.1 h2.2⟩
    · have e2 : layS ((zeros k).set a 1) [(b : Int)] = ((zeros k).set a 1, false) := by
        rw [layS, if_neg (fun hc => h2 (by
          have h3 := hc.1
          simp [zeros] at h3
          have h4 : b < k := by omega
          refine ⟨h4, fun e => ?_⟩
          have h5 := hc.2
          rw [rd_ln2] at h5
          have := hh.2.2 b h4
          unfold zeros at h5
          rw [this, if_pos e.symm] at h5
          cases h5))]
      rw [e1, e2]
      refine ⟨?_, fun _ hb hn => absurd ⟨hb, hn⟩ h2⟩
      by_cases hb : b < k
      · have : a = b := by
          refine Classical.byContradiction fun hn => h2 ⟨hb, hn⟩
        simp [this]
      · simp [hb]
  · have : layS (zeros k) [(a : Int), (b : Int)] = (zeros k, false) := by
      rw [layS, if_neg (fun hc => h (by have := hc.1; simp [zeros] at this; omega))]
    rw [this]
    exact ⟨by simp [h], fun h' => absurd h' h⟩

end Go.Proofs.Ytbljoihnjhllhaa

/- Plain: lengths that lens.Write has written are read again. -/
namespace Go.Proofs.Ytbljoihnjhllhaa
open Srt

theorem At.third {bs : List Int} {f : Nat → List Int} (hf : ∀ x, (f x).length = 3) : ∀ (l : List Nat) (p : Nat), At bs p (l.flatMap f) → ∀ i, i < l.length → At bs (p + 3 * i) (f (l.getD i 0)) := by
  intro l
  induction l with
  | nil => intro p _ i hi; simp at hi
  | cons x t ih =>
    intro p h i hi
    have e : (x :: t).flatMap f = f x ++ t.flatMap f := rfl
    rw [e] at h
    cases i with
    | zero => exact h.left
    | succ i =>
      have h1 := ih (p + 3) (by have := h.right; rw [hf x] at this; exact this) i (by simpa using hi)
      rw [show p + 3 * (i + 1) = p + 3 + 3 * i from by omega]
      exact h1
/-- The bits of the code of lengths. -/
def shortB (sh : List Int) : List Int := ord19.flatMap fun x => bitsOf (sh.getD x 0) 3
theorem shortB_len (sh : List Int) : (shortB sh).length = 57 := by
  simp [shortB, ord19, bitsOf_len]
theorem shortF_get {bs sh : List Int} {p : Nat} (h : ∀ i, i < 19 → bitsVal bs (p + 3 * i) 3 = sh.getD (ord19.getD i 0) 0) : ∀ k, k ≤ 19 → ∀ j, (shortF bs p k)[j]? = if j ∈ ord19.take k then some (sh.getD j 0) else if j < 19 then some 0 else none := by
  intro k
  induction k with
  | zero =>
    intro _ j
    show (List.replicate 19 (0 : Int))[j]? = _
    rw [List.getElem?_replicate]; simp
  | succ k ih =>
    intro hk j
    show ((shortF bs p k).set (ord19.getD k 0) (bitsVal bs (p + 3 * k) 3))[j]? = _
    have hlen := shortF_length bs p k
    have e : ord19.take (k + 1) = ord19.take k ++ [ord19.getD k 0] := by
      have : ∀ k, k < 19 → ord19.take (k + 1) = ord19.take k ++ [ord19.getD k 0] := by decide
      exact this k (by omega)
    have hb : ord19.getD k 0 < 19 := by
      have : ∀ k, k < 19 → ord19.getD k 0 < 19 := by decide
      exact this k (by omega)
    rw [h k (by omega), List.getElem?_set, e]
    by_cases hj : ord19.getD k 0 = j
    · subst hj
      rw [if_pos rfl, if_pos (by omega), if_pos (by simp)]
    · rw [if_neg hj, ih (by omega) j]
      have hm : (j ∈ ord19.take k ++ [ord19.getD k 0]) ↔ j ∈ ord19.take k := by
        rw [List.mem_append, List.mem_singleton]
        exact ⟨fun q => q.resolve_right (fun q => hj q.symm), .inl⟩
      simp only [hm]
theorem shortF_written {bs sh : List Int} {p : Nat} (h19 : sh.length = 19) (hx : ∀ x ∈ sh, 0 ≤ x ∧ x ≤ 7) (h : At bs p (shortB sh)) : shortF bs p 19 = sh := by
  have hv : ∀ i, i < 19 → bitsVal bs (p + 3 * i) 3 = sh.getD (ord19.getD i 0) 0 := by
    intro i hi
    have h1 := At.third (fun x => bitsOf_len _ 3) ord19 p h i hi
    have hb : ord19.getD i 0 < 19 := by
      have : ∀ k, k < 19 → ord19.getD k 0 < 19 := by decide
      exact this i hi
    have h2 : 0 ≤ sh.getD (ord19.getD i 0) 0 ∧ sh.getD (ord19.getD i 0) 0 ≤ 7 := by
      rw [List.getD_eq_getElem?_getD, List.getElem?_eq_getElem (by omega)]
      exact hx _ (List.getElem_mem _)
    exact (At.num h1 h2.1 (by omega)).2
  apply List.ext_getElem?
  intro j
  rw [shortF_get hv 19 (Nat.le_refl _) j]
  by_cases hj : j < 19
  · have hm : j ∈ ord19.take 19 := by
      have : ∀ j, j < 19 → j ∈ ord19.take 19 := by decide
      exact this j hj
    rw [if_pos hm, List.getD_eq_getElem?_getD, List.getElem?_eq_getElem (by omega)]; rfl
  · have hm : ¬ j ∈ ord19.take 19 := by
      have : ∀ x ∈ ord19.take 19, x < 19 := by decide
      exact fun q => hj (this j q)
    rw [if_neg hm, if_neg hj, List.getElem?_eq_none (by omega)]
/-- The bits of lengths told by steps. -/
def normB (sh : List Int) (l : List Lw.St) : List Int := bitsOf 0 1 ++ (bitsOf 15 4 ++ (shortB sh ++ (bitsOf 0 1 ++ stsB sh l)))
set_option maxHeartbeats 2000000 in
theorem lensF_norm {sh bs ls : List Int} {l : List Lw.St} {p : Nat} (hc : checkS sh = 0) (h19 : sh.length = 19) (hx : ∀ x ∈ sh, 0 ≤ x ∧ x ≤ 7) (hf : ∀ st ∈ l, Lw.Fine st ∧ hasS sh st.1 = true) (hp : Lw.play 8 l = ls) (hcl : checkS ls = 0) (h : At bs p (normB sh l)) :
    lensF bs p ls.length = .ok ls (p + (normB sh l).length) := by
  rw [show normB sh l = bitsOf 0 1 ++ (bitsOf 15 4 ++ (shortB sh ++ (bitsOf 0 1 ++ stsB sh l))) from rfl] at h ⊢
  have a1 := At.num h.left (by decide) (by decide)
  have h2 := h.right
  rw [bitsOf_len] at h2
  have a2 := At.num h2.left (by decide) (by decide)
  have h3 := h2.right
  rw [bitsOf_len] at h3
  have a3 := shortF_written h19 hx h3.left
  have b3 := h3.left.1
  have h4 := h3.right
  rw [shortB_len] at h4 b3
  have a4 := At.num h4.left (by decide) (by decide)
  have h5 := h4.right
  rw [bitsOf_len] at h5
  have hK : headK bs (p + 1) = 19 := by unfold headK; rw [a2.2]; rfl
  have hP : headP bs (p + 1) = p + 1 + 4 + 57 := by unfold headP; rw [hK]
  have hS : headS bs (p + 1) = sh := by unfold headS; rw [hK, a3]
  have hE : headE bs (p + 1) = 0 := by
    unfold headE
    rw [if_neg (by omega), hP, if_neg (by omega), hS, if_neg (fun q => q hc)]
  have hM : mostF bs ls.length (p + 1 + 4 + 57) = (p + 1 + 4 + 57 + 1, ls.length, true) := by
    unfold mostF
    rw [if_neg]
    rw [← bitsVal_one, a4.2]; decide
  have hlen := Lw.play_len l (fun st q => (hf st q).1) 8
  rw [hp] at hlen
  have hst := stepsF_written (n := ls.length) hc l ls.length (p + 1 + 4 + 57 + 1) 8 [] hf hlen (by rw [hp]; exact Nat.zero_add _) h5
  have hR : rawF bs (p + 1) ls.length = resE 0 ls (p + 1 + 4 + 57 + 1 + (stsB sh l).length) := by
    unfold rawF
    rw [if_neg (fun q => q hE), hP]
    simp only
    rw [hM]
    simp only
    rw [if_neg (fun q => q.elim (fun q => by omega) (fun q => by cases q)), if_neg (by omega), hS, hst, hp]
    rfl
  rw [lensF_nought (by omega) (by rw [← bitsVal_one, a1.2]; decide) hR, if_pos rfl, if_pos hcl]
  congr 1
  simp only [List.length_append, bitsOf_len, shortB_len]
  omega
/-- One symbol, told by hand. -/
theorem lensF_sim1 {bs : List Int} {p k a : Nat} (ha : a < 256) (hk : a < k) (h : At bs p (bitsOf 1 1 ++ (bitsOf 0 1 ++ (bitsOf 1 1 ++ bitsOf (a : Int) 8)))) : ∃ out, Hot k a out ∧ lensF bs p k = .ok out (p + 11) := by
  have a1 := At.num h.left (by decide) (by decide)
  have h2 := h.right
  rw [bitsOf_len] at h2
  have a2 := At.num h2.left (by decide) (by decide)
  have h3 := h2.right
  rw [bitsOf_len] at h3
  have a3 := At.num h3.left (by decide) (by decide)
  have h4 := h3.right
  rw [bitsOf_len] at h4
  have a4 := At.num h4 (by omega) (by show (a : Int) < 256; omega)
  have hl := lay1 k a
  have b1 : bitAt bs p = 1 := by rw [← bitsVal_one, a1.2]
  have b2 : ¬ bitAt bs (p + 1) = 1 := by rw [← bitsVal_one, a2.2]; decide
  have b3 : bitAt bs (p + 1 + 1) = 1 := by rw [← bitsVal_one, a3.2]
  have hH := hl.2 hk
  have hR : simpleF bs (p + 1) k = resE 0 (layS (zeros k) (twoS false (a : Int) 0)).1 (p + 11) := by
    unfold simpleF
    simp only
    rw [if_pos b3, if_neg b2, if_neg (by omega), decide_eq_false b2]
    have e : twoS false (bitsVal bs (p + 1 + 2) 8) (bitsVal bs (p + 1 + 2 + 8) 8) = twoS false (a : Int) 0 := by
      show [bitsVal bs (p + 1 + 1 + 1) 8] = _
      rw [a4.2]; rfl
    rw [e, hl.1, if_pos (decide_eq_true hk)]
    rfl
  refine ⟨_, hH, ?_⟩
  rw [lensF_one a1.1 b1 hR, if_pos rfl, if_pos hH.check]
/-- Two symbols, told by hand. -/
theorem lensF_sim2 {bs : List Int} {p k a b : Nat} (ha : a < 256) (hk : a < k) (hb : b < 256) (hkb : b < k) (hab : a ≠ b) (h : At bs p (bitsOf 1 1 ++ (bitsOf 1 1 ++ (bitsOf 1 1 ++ (bitsOf (a : Int) 8 ++ bitsOf (b : Int) 8))))) : ∃ out, Hot2 k a b out ∧ lensF bs p k = .ok out (p + 19) := by
  have a1 := At.num h.left (by decide) (by decide)
  have h2 := h.right
  rw [bitsOf_len] at h2
  have a2 := At.num h2.left (by decide) (by decide)
  have h3 := h2.right
  rw [bitsOf_len] at h3
  have a3 := At.num h3.left (by decide) (by decide)
  have h4 := h3.right
  rw [bitsOf_len] at h4
  have a4 := At.num h4.left (by omega) (by show (a : Int) < 256; omega)
  have h5 := h4.right
  rw [bitsOf_len] at h5
  have a5 := At.num h5 (by omega) (by show (b : Int) < 256; omega)
  have hl := lay2 k a b
  have b1 : bitAt bs p = 1 := by rw [← bitsVal_one, a1.2]
  have b2 : bitAt bs (p + 1) = 1 := by rw [← bitsVal_one, a2.2]
  have b3 : bitAt bs (p + 1 + 1) = 1 := by rw [← bitsVal_one, a3.2]
  have hH := hl.2 hk hkb hab
  have hR : simpleF bs (p + 1) k = resE 0 (layS (zeros k) (twoS true (a : Int) (b : Int))).1 (p + 19) := by
    unfold simpleF
    simp only
    rw [if_pos b3, if_pos b2, if_neg (by omega), decide_eq_true b2]
    have e : twoS true (bitsVal bs (p + 1 + 2) 8) (bitsVal bs (p + 1 + 2 + 8) 8) = twoS true (a : Int) (b : Int) := by
      show [bitsVal bs (p + 1 + 1 + 1) 8, bitsVal bs (p + 1 + 1 + 1 + 8) 8] = _
      rw [a4.2, a5.2]; rfl
    rw [e, hl.1, if_pos (by simp [hk, hkb, hab])]
    rfl
  refine ⟨_, hH, ?_⟩
  rw [lensF_one a1.1 b1 hR, if_pos rfl, if_pos hH.check]
end Go.Proofs.Ytbljoihnjhllhaa

/- Plain: the code of lengths that lens.Write makes serves each of its steps; and which bits it writes. -/
namespace Go.Proofs.Ytbljoihnjhllhaa
open Srt Sz

/-- How often each symbol comes among steps. -/
def cntS (l : List Lw.St) : List Int := (List.range 19).map fun (s : Nat) => ((l.countP (fun st => st.1 == (s : Int)) : Nat) : Int)
theorem cntS_len (l : List Lw.St) : (cntS l).length = 19 := by simp [cntS]
theorem cntS_ln (l : List Lw.St) {s : Nat} (h : s < 19) : ln (cntS l) s = ((l.countP (fun st => st.1 == (s : Int)) : Nat) : Int) := by
  simp [ln, cntS, h]
theorem cntS_nil : cntS [] = List.replicate 19 0 := by rfl
theorem cntS_snoc (l : List Lw.St) (st : Lw.St) (h0 : 0 ≤ st.1) (h1 : st.1 ≤ 18) : (cntS l).set st.1.toNat (ln (cntS l) st.1.toNat + 1) = cntS (l ++ [st]) := by
  obtain ⟨s, hs⟩ := Int.eq_ofNat_of_zero_le h0
  apply List.ext_getElem?
  intro j
  rw [List.getElem?_set, hs, Int.toNat_natCast, cntS_len]
  by_cases hj : s = j
  · subst hj
    rw [if_pos rfl, if_pos (by omega), cntS_ln _ (by omega)]
    simp only [cntS, List.getElem?_map, List.getElem?_range (show s < 19 by omega), Option.map_some, List.countP_append, List.countP_cons, List.countP_nil]
    rw [show (st.1 == (s : Int)) = true from by rw [hs]; simp]
    simp
  · rw [if_neg hj]
    by_cases h19 : j < 19
    · simp only [cntS, List.getElem?_map, List.getElem?_range h19, Option.map_some, List.countP_append, List.countP_cons, List.countP_nil]
      rw [show (st.1 == (j : Int)) = false from by rw [hs]; simp; omega]
      simp
    · rw [List.getElem?_eq_none (by rw [cntS_len]; omega), List.getElem?_eq_none (by rw [cntS_len]; omega)]
theorem cntS_bound (l : List Lw.St) (s : Nat) : 0 ≤ ln (cntS l) s ∧ ln (cntS l) s ≤ l.length := by
  by_cases h : s < 19
  · rw [cntS_ln _ h]
    have := List.countP_le_length (p := fun st : Lw.St => st.1 == (s : Int)) (l := l)
    omega
  · rw [ln_beyond (by rw [cntS_len]; omega)]; omega
theorem mnUp_bound (cs : List Int) (k : Nat) : mnUp cs k ≤ k := by unfold mnUp; exact Nat.le_trans List.countP_le_length (by simp)
theorem cntS_ok {l : List Lw.St} (h : l.length ≤ 4096) : okS (cntS l) 7 = true := by
  unfold okS
  have h1 : (cntS l).any badCnt = false := by
    rw [List.any_eq_false]
    intro x hx
    obtain ⟨t, ht, rfl⟩ := List.mem_iff_getElem.1 hx
    have := cntS_bound l t
    rw [ln_get ht] at this
    unfold badCnt; simp; omega
  rw [h1]
  have h2 : many (cntS l) ≤ 19 := by
    have := mnUp_bound (cntS l) (cntS l).length
    unfold many; rw [cntS_len] at this ⊢; exact this
  simp
  refine ⟨by rw [cntS_len]; omega, ?_⟩
  have h3 : ((many (cntS l) : Nat) : Int) ≤ 19 := by omega
  omega
theorem cntS_has {l : List Lw.St} {st : Lw.St} (h : st ∈ l) (h0 : 0 ≤ st.1) (h1 : st.1 ≤ 18) : 0 < ln (cntS l) st.1.toNat := by
  obtain ⟨s, hs⟩ := Int.eq_ofNat_of_zero_le h0
  rw [hs, Int.toNat_natCast, cntS_ln _ (by omega)]
  have : 0 < l.countP (fun x => x.1 == (s : Int)) := List.countP_pos_iff.2 ⟨st, h, by rw [hs]; simp⟩
  omega
theorem many_pos_of {cs : List Int} {s : Nat} (h : 0 < ln cs s) : 1 ≤ many cs := by
  have hs : s < cs.length := by
    rcases Nat.lt_or_ge s cs.length with q | q
    · exact q
    · rw [ln_beyond q] at h; omega
  unfold many mnUp
  exact List.countP_pos_iff.2 ⟨s, List.mem_range.2 hs, by simpa using h⟩
/-- The code of lengths serves. -/
theorem short_good {ls : List Int} (hx : ∀ x ∈ ls, 0 ≤ x ∧ x ≤ 15) (h1 : 1 ≤ ls.length) (hn : ls.length ≤ 4096) {sh : List Int} (hB : BestIs (cntS (Lw.steps ls)) 7 sh) :
    sh.length = 19 ∧ (∀ x ∈ sh, 0 ≤ x ∧ x ≤ 7) ∧ checkS sh = 0 ∧ ∀ st ∈ Lw.steps ls, Lw.Fine st ∧ hasS sh st.1 = true := by
  have hf := Lw.steps_fine ls.length ls (Nat.le_refl _) hx
  have hp := Lw.play_steps ls.length ls (Nat.le_refl _) hx 8
  have hlen := Lw.play_len (Lw.steps ls) hf 8
  rw [hp] at hlen
  have hok := cntS_ok (l := Lw.steps ls) (by omega)
  have h19 : sh.length = 19 := by rw [hB.length, cntS_len]
  have hmem : ∀ st ∈ Lw.steps ls, hasS sh st.1 = true := by
    intro st hs
    obtain ⟨f0, f1, _⟩ := hf st hs
    have hc := cntS_has hs f0 f1
    have hl := ((best_lens hok hB st.1.toNat).2.2.1).2 hc
    unfold hasS
    simp [h19, hl, f0]
    omega
  refine ⟨h19, ?_, ?_, fun st hs => ⟨hf st hs, hmem st hs⟩⟩
  · intro x hx
    obtain ⟨t, ht, rfl⟩ := List.mem_iff_getElem.1 hx
    have := best_lens hok hB t
    rw [ln_get ht] at this
    omega
  · cases hl : Lw.steps ls with
    | nil =>
      rw [hl] at hp
      have : ls = [] := hp.symm
      subst this
      simp at h1
    | cons st t =>
      have hst : st ∈ Lw.steps ls := by rw [hl]; simp
      obtain ⟨f0, f1, _⟩ := hf st hst
      exact best_check hok hB (many_pos_of (cntS_has hst f0 f1))
theorem steps_few {ls : List Int} (hx : ∀ x ∈ ls, 0 ≤ x ∧ x ≤ 15) : (Lw.steps ls).length ≤ ls.length := by
  have hf := Lw.steps_fine ls.length ls (Nat.le_refl _) hx
  have hp := Lw.play_steps ls.length ls (Nat.le_refl _) hx 8
  have hlen := Lw.play_len (Lw.steps ls) hf 8
  rw [hp] at hlen; exact hlen

/-! ### Which bits lens.Write writes -/
def simB : List Int → List Int
  | [a] => bitsOf 1 1 ++ (bitsOf 0 1 ++ (bitsOf 1 1 ++ bitsOf a 8))
  | [a, b] => bitsOf 1 1 ++ (bitsOf 1 1 ++ (bitsOf 1 1 ++ (bitsOf a 8 ++ bitsOf b 8)))
  | _ => []
/-- The bits of lengths by steps. -/
noncomputable def stepB (ls : List Int) : List Int := normB (bestF (cntS (Lw.steps ls)) 7) (Lw.steps ls)
/-- One length alone is 1. -/
def fixS (ls os : List Int) : List Int := match os with
  | [a] => ls.set a.toNat 1
  | _ => ls
/-- The bits of lengths whose symbols are os, in order. -/
noncomputable def wrB (ls os : List Int) : List Int :=
  match os with
  | [] => simB [0]
  | [a] => if a < 256 then simB [a] else stepB (ls.set a.toNat 1)
  | [a, b] => if a < 256 ∧ b < 256 then simB [a, b] else stepB ls
  | _ => stepB ls
/-- What is read again of lengths that were written. -/
def wantS (ls os : List Int) : List Int := match os with
  | [] => ls.set 0 1
  | [a] => ls.set a.toNat 1
  | _ => ls
theorem InOrder.same {ls a b : List Int} (ha : InOrder ls a) (hb : InOrder ls b) : a = b := sorted_unique ha.1 hb.1 (FEq.trans (FEq.symm ha.2) hb.2)
theorem posUp_mem' {ls : List Int} {t : Nat} (ht : t < ls.length) (hp : 0 < ln ls t) : (t : Int) ∈ posList ls := by
  unfold posList posUp
  exact List.mem_map.2 ⟨t, List.mem_filter.2 ⟨List.mem_range.2 ht, by simpa using hp⟩, rfl⟩
theorem InOrder.has {ls os : List Int} (h : InOrder ls os) {t : Nat} (ht : t < ls.length) (hp : 0 < ln ls t) : (t : Int) ∈ os := (h.2.mem _).1 (posUp_mem' ht hp)
theorem hot_eq {k a : Nat} {x y : List Int} (hx : Hot k a x) (hy : Hot k a y) : x = y := by
  apply List.ext_getElem?
  intro j
  by_cases hj : j < k
  · have e1 := hx.2.2 j hj; have e2 := hy.2.2 j hj
    rw [ln_get (by rw [hx.1]; exact hj)] at e1
    rw [ln_get (by rw [hy.1]; exact hj)] at e2
    rw [List.getElem?_eq_getElem (by rw [hx.1]; exact hj), List.getElem?_eq_getElem (by rw [hy.1]; exact hj), e1, e2]
  · rw [List.getElem?_eq_none (by rw [hx.1]; omega), List.getElem?_eq_none (by rw [hy.1]; omega)]
theorem hot2_eq {k a b : Nat} {x y : List Int} (hx : Hot2 k a b x) (hy : Hot2 k a b y) : x = y := by
  apply List.ext_getElem?
  intro j
  by_cases hj : j < k
  · have e1 := hx.2.2.2.2 j hj; have e2 := hy.2.2.2.2 j hj
    rw [ln_get (by rw [hx.1]; exact hj)] at e1
    rw [ln_get (by rw [hy.1]; exact hj)] at e2
    rw [List.getElem?_eq_getElem (by rw [hx.1]; exact hj), List.getElem?_eq_getElem (by rw [hy.1]; exact hj), e1, e2]
  · rw [List.getElem?_eq_none (by rw [hx.1]; omega), List.getElem?_eq_none (by rw [hy.1]; omega)]
/-- No negative one. -/
def NoNeg (ls : List Int) : Prop := ∀ x ∈ ls, 0 ≤ x
theorem ln_out_order {ls os : List Int} (hz : NoNeg ls) (h : InOrder ls os) {t : Nat} (ht : t < ls.length) (hn : (t : Int) ∉ os) : ln ls t = 0 := by
  have h0 : 0 ≤ ln ls t := hz _ (ln_mem ht)
  rcases Int.lt_or_eq_of_le h0 with q | q
  · exact absurd (h.has ht q) hn
  · exact q.symm
theorem hot_of_set {ls : List Int} {a : Nat} (ha : a < ls.length) (h : ∀ t, t < ls.length → t ≠ a → ln ls t = 0) : Hot ls.length a (ls.set a 1) := by
  refine ⟨by simp, ha, fun t ht => ?_⟩
  unfold ln
  rw [List.getElem?_set]
  by_cases e : a = t
  · subst e; simp [ha]
  · rw [if_neg e, if_neg (fun q => e q.symm)]
    exact h t ht (fun q => e q.symm)
theorem set_bounds {ls : List Int} (hx : ∀ x ∈ ls, 0 ≤ x ∧ x ≤ 15) (a : Nat) : ∀ x ∈ ls.set a 1, 0 ≤ x ∧ x ≤ 15 := by
  intro x h
  rcases List.mem_or_eq_of_mem_set h with q | q
  · exact hx x q
  · omega
theorem lens_bounds {ls : List Int} (h : checkS ls = 0) : ∀ x ∈ ls, 0 ≤ x ∧ x ≤ 15 := by
  intro x hx
  obtain ⟨t, ht, rfl⟩ := List.mem_iff_getElem.1 hx
  have := (complete h).1 t
  rw [ln_get ht] at this; exact this
/-- By steps: what is written is read again. -/
theorem stepB_read {bs ls : List Int} {p : Nat} (h1 : 1 ≤ ls.length) (hn : ls.length ≤ 4096) (hc : checkS ls = 0) {sh : List Int} (hB : BestIs (cntS (Lw.steps ls)) 7 sh) (h : At bs p (stepB ls)) : lensF bs p ls.length = .ok ls (p + (stepB ls).length) := by
  have hx := lens_bounds hc
  obtain ⟨s1, s2, s3, s4⟩ := short_good hx h1 hn hB
  unfold stepB at h ⊢
  rw [← hB.is] at h ⊢
  exact lensF_norm s3 s1 s2 s4 (Lw.play_steps ls.length ls (Nat.le_refl _) hx 8) hc h
theorem two_hot {ls os : List Int} {a b : Int} (hos : InOrder ls os) (ho : os = [a, b]) (hc : checkS ls = 0) : 0 ≤ a ∧ 0 ≤ b ∧ Hot2 ls.length a.toNat b.toNat ls := by
  have ma := hos.mem (x := a) (by rw [ho]; simp)
  have mb := hos.mem (x := b) (by rw [ho]; simp)
  have hab : a ≠ b := by
    have := hos.lex
    rw [ho, List.pairwise_cons] at this
    rcases this.1 b (by simp) with q | q
    · intro e; subst e; omega
    · omega
  obtain ⟨x, hx⟩ := Int.eq_ofNat_of_zero_le ma.1
  obtain ⟨y, hy⟩ := Int.eq_ofNat_of_zero_le mb.1
  subst hx hy
  rw [Int.toNat_natCast] at ma mb ⊢
  rw [Int.toNat_natCast]
  have hz : NoNeg ls := fun z hz => (lens_bounds hc z hz).1
  have hout : ∀ t, t < ls.length → t ∉ [x, y] → ln ls t = 0 := fun t ht hn => ln_out_order hz hos ht (by rw [ho]; simp at hn ⊢; omega)
  have hnd : [x, y].Nodup := by simp; omega
  have hlt : ∀ t ∈ [x, y], t < ls.length := by simp; omega
  have hmm : many ls = 2 := by
    have h1 := mn_sum ls ls.length
    rw [sumTo_nodup ls.length _ [x, y] hnd hlt (fun t ht hn => by rw [hout t ht hn]; rfl)] at h1
    simp [ma.2.2, mb.2.2] at h1
    unfold many; omega
  have hk : kraft ls = 32768 := by
    rcases (complete hc).2.1 with q | q
    · omega
    · exact q
  have hk2 : wgt (ln ls x) + wgt (ln ls y) = 32768 := by
    rw [← hk]
    unfold kraft
    rw [sumTo_nodup ls.length _ [x, y] hnd hlt (fun t ht hn => by rw [hout t ht hn]; rfl)]
    simp
  have one : ∀ n : Int, 0 < n → 16384 ≤ wgt n → n = 1 := by
    intro n h0 h1
    by_cases e : n = 1
    · exact e
    · exfalso
      unfold wgt at h1
      rw [if_pos h0] at h1
      have : (2 : Int) ^ (15 - n.toNat) ≤ 2 ^ 13 := by exact_mod_cast Nat.pow_le_pow_right (by decide) (by omega)
      omega
  have wx := wgt_le (ln ls x)
  have wy := wgt_le (ln ls y)
  have ex := one _ ma.2.2 (by omega)
  have ey := one _ mb.2.2 (by omega)
  refine ⟨by omega, by omega, rfl, by omega, by omega, by omega, fun t ht => ?_⟩
  by_cases h : t = x ∨ t = y
  · rw [if_pos h]
    rcases h with rfl | rfl
    · exact ex
    · exact ey
  · rw [if_neg h]; exact hout t ht (by simpa using h)
/-- What lens.Write writes is read again. -/
theorem wrB_read {bs ls os : List Int} {p : Nat} (hos : InOrder ls os) (hz : NoNeg ls) (h1 : 1 ≤ ls.length) (hn : ls.length ≤ 4096) (hc : os = [] ∨ checkS ls = 0) (h : At bs p (wrB ls os)) :
    lensF bs p ls.length = .ok (wantS ls os) (p + (wrB ls os).length) ∧ checkS (wantS ls os) = 0 := by
  have hS : ∀ l : List Int, l.length = ls.length → checkS l = 0 → At bs p (stepB l) → lensF bs p ls.length = .ok l (p + (stepB l).length) := by
    intro l hl hcl hat
    have hx := lens_bounds hcl
    rw [← hl]
    exact stepB_read (by omega) (by omega) hcl (bestF_is (cntS_ok (by have := steps_few hx; omega))) hat
  match os, hos, hc, h with
  | [], hos, _, h =>
    have hout : ∀ t, t < ls.length → t ≠ 0 → ln ls t = 0 := fun t ht _ => ln_out_order hz hos ht (by simp)
    have hh := hot_of_set (ls := ls) (a := 0) (by omega) hout
    obtain ⟨out, ho, hf⟩ := lensF_sim1 (bs := bs) (p := p) (k := ls.length) (a := 0) (by omega) (by omega) (by simpa [wrB, simB] using h)
    show lensF bs p ls.length = .ok (ls.set 0 1) _ ∧ checkS (ls.set 0 1) = 0
    rw [hot_eq hh ho, hf]
    refine ⟨?_, ho.check⟩
    congr 1
  | [a], hos, hc, h =>
    have ma := hos.mem (x := a) (by simp)
    obtain ⟨s, hs⟩ := Int.eq_ofNat_of_zero_le ma.1
    subst hs
    have hout : ∀ t, t < ls.length → t ≠ s → ln ls t = 0 := fun t ht hne => ln_out_order hz hos ht (by simp; omega)
    have hh := hot_of_set (ls := ls) (a := s) (by omega) hout
    show lensF bs p ls.length = .ok (ls.set ((s : Int)).toNat 1) _ ∧ checkS (ls.set ((s : Int)).toNat 1) = 0
    rw [Int.toNat_natCast]
    refine ⟨?_, hh.check⟩
    unfold wrB at h ⊢
    simp only at h ⊢
    by_cases h256 : (s : Int) < 256
    · rw [if_pos h256] at h ⊢
      obtain ⟨out, ho, hf⟩ := lensF_sim1 (bs := bs) (p := p) (k := ls.length) (a := s) (by omega) (by omega) h
      rw [hot_eq hh ho, hf]
      congr 1
    · rw [if_neg h256, Int.toNat_natCast] at h
      rw [if_neg h256, Int.toNat_natCast]
      exact hS _ (by simp) hh.check h
  | [a, b], hos, hc, h =>
    have hcl : checkS ls = 0 := by
      rcases hc with q | q
      · cases q
      · exact q
    obtain ⟨a0, b0, hh⟩ := two_hot hos rfl hcl
    obtain ⟨x, hx⟩ := Int.eq_ofNat_of_zero_le a0
    obtain ⟨y, hy⟩ := Int.eq_ofNat_of_zero_le b0
    subst hx hy
    rw [Int.toNat_natCast, Int.toNat_natCast] at hh
    show lensF bs p ls.length = .ok ls _ ∧ checkS ls = 0
    refine ⟨?_, hcl⟩
    unfold wrB at h ⊢
    simp only at h ⊢
    by_cases h256 : (x : Int) < 256 ∧ (y : Int) < 256
    · rw [if_pos h256] at h ⊢
      obtain ⟨out, ho, hf⟩ := lensF_sim2 (bs := bs) (p := p) (k := ls.length) (a := x) (b := y) (by omega) hh.2.1 (by omega) hh.2.2.1 hh.2.2.2.1 h
      rw [hf, hot2_eq hh ho]
      congr 1
    · rw [if_neg h256] at h ⊢
      exact hS _ rfl hcl h
  | a :: b :: c :: t, hos, hc, h =>
    have hcl : checkS ls = 0 := by
      rcases hc with q | q
      · cases q
      · exact q
    exact ⟨hS _ rfl hcl h, hcl⟩
theorem wrB_long (ls os : List Int) : 6 ≤ (wrB ls os).length := by
  have h1 : ∀ a : Int, 6 ≤ (simB [a]).length := fun a => by simp [simB, bitsOf_len]
  have h2 : ∀ l : List Int, 6 ≤ (stepB l).length := fun l => by simp [stepB, normB, bitsOf_len, shortB_len]; omega
  match os with
  | [] => exact h1 0
  | [a] => unfold wrB; simp only; split; exact h1 a; exact h2 _
  | [a, b] => unfold wrB; simp only; split; (simp [simB, bitsOf_len]); exact h2 _
  | _ :: _ :: _ :: _ => exact h2 _
end Go.Proofs.Ytbljoihnjhllhaa

/- A block of whole numbers, known whole. -/
namespace Go.Proofs.Ytbljoihnjhllhaa
open Go.RowKit
open Go.Proofs.YtbljoihnjhllhaaW.PrintWords

/-- A block of numbers. -/
def BlkI (w : World) (b : Nat) (l : List Int) : Prop := w.heap[b]? = some (.cells (l.map (Value.int .i64)).toArray 3 (0, 0))
theorem BlkI.mods {S : List Nat} {w w' : World} {b : Nat} {l : List Int} (h : BlkI w b l) (hm : Mods S w w') (hb : b ∉ S) : BlkI w' b l := hm.blk h hb
theorem BlkI.reads {w : World} {b : Nat} {l : List Int} (h : BlkI w b l) (hl : l.length ≤ 9223372036854775807) : ReadsInt w .i64 (some ⟨b, 0, none⟩) l.length l := by
  refine ⟨rfl, hl, fun _ => ⟨_, rfl, fun j hj => ?_⟩⟩
  rw [add_plain]
  show w.cell? ⟨b, j, none⟩ = _
  rw [cell_blk h]
  simp [List.getElem?_eq_getElem hj, List.getD_eq_getElem?_getD]
theorem BlkI.at {w : World} {b : Nat} {l : List Int} (h : BlkI w b l) (j : Nat) (hj : j < l.length) : w.cell? ⟨b, j, none⟩ = some (.int .i64 (rd l (j : Int))) := by
  rw [cell_blk h]
  unfold rd
  simp [List.getElem?_eq_getElem hj, List.getD_eq_getElem?_getD]
theorem BlkI.set {w : World} {b : Nat} {l : List Int} (h : BlkI w b l) (j : Nat) (x : Int) : BlkI (w.setCell ⟨b, j, none⟩ (.int .i64 x)) b (l.set j x) := by
  unfold BlkI
  rw [blk_set h]
  simp [List.map_set]
theorem made_blk (n : Nat) : madeCells #[.int .i64 0] n = ((List.replicate n (0 : Int)).map (Value.int .i64)).toArray := by
  apply Array.ext'
  simp only [madeCells]
  rw [List.map_replicate]
  apply List.ext_getElem (by simp)
  intro i h1 h2
  simp [Nat.mod_one]
end Go.Proofs.Ytbljoihnjhllhaa
