/- Package table: Forth and Back. -/
import Derived.Test.YtmgkdlkjcncniaaPix1
import Derived.Test.YtmgkdlkjcncniaaTab3
namespace Go.Proofs.Ytmgkdlkjcncniaa
open Go.RowKit
open Go.Proofs.YtmgkdlkjcncniaaW.PrintWords

set_option maxHeartbeats 1000000 in
theorem cloneU (A : Option Addr) (n c : Nat) (xs : List Int) (w : World) (HR : ReadsInt w .u32 A n xs) (hn : n ≤ 17592186044416) :
    Calls Try.prog 33 #[.slice A n c] w fun e w' => ∃ v, e = .returned v ∧ w'.ownsRow w.heap.size 31 1 v n (nums .u32 xs) ∧ Below w.heap.size w w' := by
  have HRR := Lib.hid HR
  have hbl := HR.1
  have h0 : A = none → n = 0 := fun e => by
    rcases Nat.eq_zero_or_pos n with h | h
    · exact h
    · obtain ⟨ad, e2, _⟩ := HR.2.2 h
      rw [e] at e2; cases e2
  clear HR
  cases A with
  | none =>
    have := h0 rfl
    subst this
    obtain rfl := List.length_eq_zero_iff.1 hbl
    clear h0
    have hnil : ∀ W, (binOp .eql 22 (.slice none 0 c) (.slice none 0 0)).run Try.prog W = .ok (.bool true) W := fun W => Lib.run_eql_slice_nil W 22 31 none 0 c 0 0 Try.underlying22
    go_enter Try.func33, Try.ntmps33
    go_wp2
    go_ret
    exact ⟨_, rfl, own_nil _ _ _ _, Below.refl _ _⟩
  | some ad =>
    clear h0
    have hnil : ∀ W, (binOp .eql 22 (.slice (some ad) n c) (.slice none 0 0)).run Try.prog W = .ok (.bool false) W := fun W => Lib.run_eql_slice_nil W 22 31 (some ad) n c 0 0 Try.underlying22
    go_enter Try.func33, Try.ntmps33
    go_wp2_with (at_builtin; refine print_append_row w.heap.size rfl _ _ 22 31 .u32 4 rfl Try.underlying22 info_u32 (by decide) _ [] xs (some ad) n c rfl rfl (by exact own_lit w w.heap.size 31 .u32 [] (Nat.le_refl _) (by decide)) (by exact HRR.out.below ((Below.refl _ w).alloc (Nat.le_refl _) _)) ((Below.refl _ w).alloc (Nat.le_refl _) _) (by simp) (by simp; omega) ?_)
    intro v1 w1 hown hB1 _ _
    obtain ⟨A1, c1, rfl, hR1⟩ := own_reads hown
    have HO := Lib.hid hown; have HB := Lib.hid hB1
    clear hown hB1 hR1
    have HL := Lib.hid hbl
    clear hbl
    go_wp2_with fail
    go_ret
    exact ⟨_, rfl, HO.out, HB.out⟩

theorem own_some9 {w : World} {base n size : Nat} {e : TypeId} {v : Value} {xs : List Value} (h : w.ownsRow base e size v n xs) (hn : 0 < n) : ∃ g c, v = .slice (some ⟨g, 0, none⟩) n c ∧ base ≤ g := by
  rcases h.2 with ⟨_, h0⟩ | ⟨g, cap, cur, rfl, hb, _⟩
  · omega
  · exact ⟨g, cap, rfl, hb⟩

theorem clipNone (w : World) : Calls Try.prog 24 #[.slice none 0 0] w fun e w' => e = .returned (.slice none 0 0) ∧ w = w' := by
  go_enter Try.func24, Try.ntmps24
  go_wp2_with fail
  go_ret
  exact ⟨rfl, rfl⟩

/-- What stands when the differences are told down to a place. -/
def forS (ls : List Int) (n i : Nat) : List Int := (List.range n).map fun j => if i < j then subP (ls.getD j 0) (ls.getD (j - 1) 0) else ls.getD j 0
theorem getD_map_range (n : Nat) (f : Nat → Int) (j : Nat) (hj : j < n) : ((List.range n).map f).getD j 0 = f j := by
  rw [List.getD_eq_getElem?_getD, List.getElem?_map, List.getElem?_range hj]; rfl
theorem list_of_getD (ls : List Int) (n : Nat) (h : ls.length = n) : (List.range n).map (fun j => ls.getD j 0) = ls := by
  apply List.ext_getElem (by simp [h])
  intro i h1 h2
  simp [List.getD_eq_getElem?_getD, List.getElem?_eq_getElem h2]
theorem forS_start (ls : List Int) (n i : Nat) (h : ls.length = n) (hi : i + 1 = n) : forS ls n i = ls := by
  have : forS ls n i = (List.range n).map fun j => ls.getD j 0 := by
    unfold forS
    apply List.map_congr_left
    intro j hj
    have := List.mem_range.1 hj
    rw [if_neg (by omega)]
  rw [this, list_of_getD ls n h]
theorem forS_at (ls : List Int) (n i j : Nat) (h1 : j ≤ i) (h2 : i < n) : rd (forS ls n i) j = ls.getD j 0 := by
  unfold rd forS
  rw [Int.toNat_natCast, getD_map_range n _ j (by omega), if_neg (by omega)]
theorem forS_set (ls : List Int) (n i : Nat) (h1 : 0 < i) (_ : i < n) : (forS ls n i).set i (subP (ls.getD i 0) (ls.getD (i - 1) 0)) = forS ls n (i - 1) := by
  apply List.ext_getElem (by simp [forS])
  intro j h3 h4
  simp only [forS, List.getElem_set, List.getElem_map, List.getElem_range]
  by_cases hij : i = j
  · subst hij; rw [if_pos rfl, if_pos (by omega)]
  · rw [if_neg hij]
    by_cases hlt : i < j
    · rw [if_pos hlt, if_pos (by omega)]
    · rw [if_neg hlt, if_neg (by omega)]
def bakP (ls : List Int) : Nat → Int
  | 0 => ls.getD 0 0
  | j + 1 => addP (ls.getD (j + 1) 0) (bakP ls j)
def bakS (ls : List Int) (n i : Nat) : List Int := (List.range n).map fun j => if j < i then bakP ls j else ls.getD j 0
theorem bakS_start (ls : List Int) (n : Nat) (h : ls.length = n) : bakS ls n 1 = ls := by
  have : bakS ls n 1 = (List.range n).map fun j => ls.getD j 0 := by
    unfold bakS
    apply List.map_congr_left
    intro j hj
    by_cases hj : j < 1
    · obtain rfl : j = 0 := by omega
      rw [if_pos hj]; rfl
    · rw [if_neg hj]
  rw [this, list_of_getD ls n h]
theorem bakS_at (ls : List Int) (n i : Nat) (h2 : i < n) : rd (bakS ls n i) i = ls.getD i 0 := by
  unfold rd bakS
  rw [Int.toNat_natCast, getD_map_range n _ i (by omega), if_neg (by omega)]
theorem bakS_at' (ls : List Int) (n i : Nat) (h1 : 0 < i) (h2 : i < n) : rd (bakS ls n i) ((i - 1 : Nat) : Int) = bakP ls (i - 1) := by
  unfold rd bakS
  rw [Int.toNat_natCast, getD_map_range n _ (i - 1) (by omega), if_pos (by omega)]
theorem bakS_set (ls : List Int) (n i : Nat) (h1 : 0 < i) (h2 : i < n) : (bakS ls n i).set i (addP (ls.getD i 0) (bakP ls (i - 1))) = bakS ls n (i + 1) := by
  apply List.ext_getElem (by simp [bakS])
  intro j h3 h4
  simp only [bakS, List.getElem_set, List.getElem_map, List.getElem_range]
  by_cases hij : i = j
  · subst hij; rw [if_pos rfl, if_pos (by omega)]
    obtain ⟨k, rfl⟩ : ∃ k, i = k + 1 := ⟨i - 1, by omega⟩
    rfl
  · rw [if_neg hij]
    by_cases hlt : j < i
    · rw [if_pos hlt, if_pos (by omega)]
    · rw [if_neg hlt, if_neg (by omega)]
theorem bakP_lt (ls : List Int) (h : ∀ x ∈ ls, 0 ≤ x ∧ x < 4294967296) (j : Nat) : 0 ≤ bakP ls j ∧ bakP ls j < 4294967296 := by
  cases j with
  | zero => exact getD_room h 0
  | succ j => exact mk4_lt _ _ _ _
theorem forS_lt (ls : List Int) (h : ∀ x ∈ ls, 0 ≤ x ∧ x < 4294967296) (n i : Nat) : ∀ x ∈ forS ls n i, 0 ≤ x ∧ x < 4294967296 := by
  intro x hx
  obtain ⟨j, _, rfl⟩ := List.mem_map.1 hx
  split
  · exact mk4_lt _ _ _ _
  · exact getD_room h j
theorem bakS_lt (ls : List Int) (h : ∀ x ∈ ls, 0 ≤ x ∧ x < 4294967296) (n i : Nat) : ∀ x ∈ bakS ls n i, 0 ≤ x ∧ x < 4294967296 := by
  intro x hx
  obtain ⟨j, _, rfl⟩ := List.mem_map.1 hx
  split
  · exact bakP_lt ls h j
  · exact getD_room h j

set_option maxHeartbeats 2000000 in
theorem forth_any (A : Option Addr) (n c : Nat) (ls : List Int) (w : World) (HR : ReadsInt w .u32 A n ls) (hls : ∀ x ∈ ls, 0 ≤ x ∧ x < 4294967296) (hn : n ≤ 100000) :
    Calls Try.prog 16 #[.slice A n c] w fun e w' => ∃ A2 c2, e = .returned (.slice A2 n c2) ∧ ReadsInt w' .u32 A2 n (forS ls n 0) ∧ Below w.heap.size w w' := by
  have HRR := Lib.hid HR; have HLS := Lib.hid hls
  have HLN := Lib.hid HR.1
  clear HR hls
  rcases Nat.eq_zero_or_pos n with rfl | hpos
  · have e0 : forS ls 0 0 = [] := rfl
    rw [e0]
    clear e0
    go_enter Try.func16, Try.ntmps16
    go_wp2_with fail
    refine (cloneU A 0 c ls _ HRR.out (by omega)).mono ?_
    rintro e w1 ⟨v, rfl, hO, hB⟩
    have HB := Lib.hid hB
    clear hB
    rcases hO.2 with ⟨rfl, _⟩ | ⟨g, cap, cur', rfl, _, _, hle, _⟩
    · clear hO
      go_wp2_with fail
      go_loopw [4] (fun i wr => i = .int .i64 (-1) ∧ wr = w1) (fun _ _ => 0)
      case atStart => exact ⟨rfl, rfl⟩
      case round =>
        obtain ⟨rfl, rfl⟩ := hrel
        go_wp2_with fail
        refine (clipNone _).mono ?_
        rintro e w2 ⟨rfl, rfl⟩
        go_wp2_with fail
        go_ret
        exact ⟨none, 0, rfl, ⟨rfl, by simp, fun h => absurd h (Nat.lt_irrefl 0)⟩, HB.out⟩
    · clear hO
      go_wp2_with fail
      go_loopw [4] (fun i wr => i = .int .i64 (-1) ∧ wr = w1) (fun _ _ => 0)
      case atStart => exact ⟨rfl, rfl⟩
      case round =>
        obtain ⟨rfl, rfl⟩ := hrel
        go_wp2_with fail
        refine (clip_any g 0 cap _ (by omega)).mono ?_
        rintro e w2 ⟨rfl, rfl⟩
        go_wp2_with fail
        go_ret
        exact ⟨_, 0, rfl, ⟨rfl, by simp, fun h => absurd h (Nat.lt_irrefl 0)⟩, HB.out⟩
  go_enter Try.func16, Try.ntmps16
  go_wp2_with fail
  refine (cloneU A n c ls _ HRR.out (by omega)).mono ?_
  rintro e w1 ⟨v, rfl, hO, hB⟩
  obtain ⟨g, cp, rfl, hg⟩ := own_some9 hO hpos
  have hcap : n ≤ cp := by
    rcases hO.2 with ⟨h, _⟩ | ⟨g', cap, cur', h1, _, _, hle, _⟩
    · cases h
    · cases h1; exact hle
  have HO := Lib.hid hO; have HB := Lib.hid hB
  clear hO hB
  obtain ⟨m, rfl⟩ : ∃ m, n = m + 1 := ⟨n - 1, by omega⟩
  rw [show ls = forS ls (m + 1) m from (forS_start ls (m + 1) m HLN.out rfl).symm] at HO
  go_wp2_with fail
  go_loopw [4] (fun i wr => ∃ k : Nat, k ≤ m ∧ i = .int .i64 k ∧ Hid (wr.ownsRow w.heap.size 31 1 (.slice (some ⟨g, 0, none⟩) (m + 1) cp) (m + 1) (nums .u32 (forS ls (m + 1) k))) ∧ Hid (Below w.heap.size w wr)) (fun i _ => (intOf i).toNat)
  case atStart => exact ⟨m, Nat.le_refl _, by go_num, HO, HB⟩
  case round =>
    obtain ⟨k, hk, rfl, HOr, HBr⟩ := hrel
    clear HO HB
    by_cases hlt : 0 < k
    · have hx1 := getD_room HLS.out k
      have hx2 := getD_room HLS.out (k - 1)
      obtain ⟨c1, f1⟩ := own_at HOr.out (k : Int) (by omega) (by omega)
      rw [forS_at ls (m + 1) k k (Nat.le_refl _) (by omega), Int.toNat_natCast] at c1
      obtain ⟨c2, _⟩ := own_at HOr.out ((k - 1 : Nat) : Int) (by omega) (by omega)
      rw [forS_at ls (m + 1) k (k - 1) (by omega) (by omega), Int.toNat_natCast] at c2
      rw [Int.toNat_natCast] at f1
      have hset := forS_set ls (m + 1) k hlt (by omega)
      generalize ls.getD k 0 = x1 at *
      generalize ls.getD (k - 1) 0 = x2 at *
      have HSET := Lib.hid hset
      clear hset
      have e1 : ((k : Int) - 1).toNat = k - 1 := by omega
      have e2 : wrap64 ((k : Int) - 1) = (k : Int) - 1 := w64 _ (by omega) (by omega)
      have e3 : (0 : Int) ≤ (k : Int) - 1 := by omega
      have e4 : (k : Int) - 1 < (m : Int) + 1 := by omega
      have e5 : (k : Int) < (m : Int) + 1 := by omega
      have e6 : IntKind.i64.wrap ((k : Int) - 1) = (k : Int) - 1 := IntWalk.i64_in _ (by omega)
      go_upto_region 5 with fail
      go_region_with ((go_at_call 34; refine (sub_any x1 x2 _ hx1 hx2).mono ?_; rintro e w2 ⟨rfl, hB2⟩; have HO2 := Lib.hid (own_mods (World.ownsRow.drew HOr.out) (Mods.of_below hB2 []) (by simp)); have HB2 := Lib.hid (below_then (below_drew HBr.out) HBr.out.size hB2); obtain ⟨cc2, ff2⟩ := own_at HO2.out (k : Int) (by omega) (by omega); rw [Int.toNat_natCast] at cc2 ff2; clear hB2))
      all_goals
        go_wp2_with fail
        go_roundw
        case rel =>
          have ho := (World.ownsRow.stored HO2.out k (.int .u32 (subP x1 x2))).1
          rw [← nums_set32, HSET.out] at ho
          exact ⟨k - 1, by omega, by go_num, Lib.hid ho, Lib.hid (HB2.out.setCell (p := ⟨g, k, none⟩) hg _)⟩
        case measure => simp [intOf]; omega
    · obtain rfl : k = 0 := by omega
      go_wp2_with fail
      refine (clip_any g (m + 1) cp _ hcap).mono ?_
      rintro e w2 ⟨rfl, rfl⟩
      go_wp2_with fail
      go_ret
      exact ⟨_, _, rfl, own_reads' HOr.out, HBr.out⟩
set_option maxHeartbeats 2000000 in
theorem back_any (A : Option Addr) (n c : Nat) (ls : List Int) (w : World) (HR : ReadsInt w .u32 A n ls) (hls : ∀ x ∈ ls, 0 ≤ x ∧ x < 4294967296) (hn : n ≤ 100000) :
    Calls Try.prog 21 #[.slice A n c] w fun e w' => ∃ A2 c2, e = .returned (.slice A2 n c2) ∧ ReadsInt w' .u32 A2 n (bakS ls n n) ∧ Below w.heap.size w w' := by
  have HRR := Lib.hid HR; have HLS := Lib.hid hls
  have HLN := Lib.hid HR.1
  clear HR hls
  rcases Nat.eq_zero_or_pos n with rfl | hpos
  · have e0 : bakS ls 0 0 = [] := rfl
    rw [e0]
    clear e0
    go_enter Try.func21, Try.ntmps21
    go_wp2_with fail
    refine (cloneU A 0 c ls _ HRR.out (by omega)).mono ?_
    rintro e w1 ⟨v, rfl, hO, hB⟩
    have HB := Lib.hid hB
    clear hB
    rcases hO.2 with ⟨rfl, _⟩ | ⟨g, cap, cur', rfl, _, _, hle, _⟩
    · clear hO
      go_wp2_with fail
      go_loopw [4] (fun i wr => i = .int .i64 1 ∧ wr = w1) (fun _ _ => 0)
      case atStart => exact ⟨rfl, rfl⟩
      case round =>
        obtain ⟨rfl, rfl⟩ := hrel
        go_wp2_with fail
        refine (clipNone _).mono ?_
        rintro e w2 ⟨rfl, rfl⟩
        go_wp2_with fail
        go_ret
        exact ⟨none, 0, rfl, ⟨rfl, by simp, fun h => absurd h (Nat.lt_irrefl 0)⟩, HB.out⟩
    · clear hO
      go_wp2_with fail
      go_loopw [4] (fun i wr => i = .int .i64 1 ∧ wr = w1) (fun _ _ => 0)
      case atStart => exact ⟨rfl, rfl⟩
      case round =>
        obtain ⟨rfl, rfl⟩ := hrel
        go_wp2_with fail
        refine (clip_any g 0 cap _ (by omega)).mono ?_
        rintro e w2 ⟨rfl, rfl⟩
        go_wp2_with fail
        go_ret
        exact ⟨_, 0, rfl, ⟨rfl, by simp, fun h => absurd h (Nat.lt_irrefl 0)⟩, HB.out⟩
  go_enter Try.func21, Try.ntmps21
  go_wp2_with fail
  refine (cloneU A n c ls _ HRR.out (by omega)).mono ?_
  rintro e w1 ⟨v, rfl, hO, hB⟩
  obtain ⟨g, cp, rfl, hg⟩ := own_some9 hO hpos
  have hcap : n ≤ cp := by
    rcases hO.2 with ⟨h, _⟩ | ⟨g', cap, cur', h1, _, _, hle, _⟩
    · cases h
    · cases h1; exact hle
  have HO := Lib.hid hO; have HB := Lib.hid hB
  clear hO hB
  rw [show ls = bakS ls n 1 from (bakS_start ls n HLN.out).symm] at HO
  go_wp2_with fail
  go_loopw [4] (fun i wr => ∃ k : Nat, 1 ≤ k ∧ k ≤ n ∧ i = .int .i64 k ∧ Hid (wr.ownsRow w.heap.size 31 1 (.slice (some ⟨g, 0, none⟩) n cp) n (nums .u32 (bakS ls n k))) ∧ Hid (Below w.heap.size w wr)) (fun i _ => n - (intOf i).toNat)
  case atStart => exact ⟨1, Nat.le_refl _, hpos, rfl, HO, HB⟩
  case round =>
    obtain ⟨k, hk1, hk, rfl, HOr, HBr⟩ := hrel
    clear HO HB
    by_cases hlt : k < n
    · have hx1 := getD_room HLS.out k
      have hx2 := bakP_lt ls HLS.out (k - 1)
      obtain ⟨c1, f1⟩ := own_at HOr.out (k : Int) (by omega) (by omega)
      rw [bakS_at ls n k hlt, Int.toNat_natCast] at c1
      obtain ⟨c2, _⟩ := own_at HOr.out ((k - 1 : Nat) : Int) (by omega) (by omega)
      rw [bakS_at' ls n k (by omega) hlt, Int.toNat_natCast] at c2
      rw [Int.toNat_natCast] at f1
      have hset := bakS_set ls n k (by omega) hlt
      generalize ls.getD k 0 = x1 at *
      generalize bakP ls (k - 1) = x2 at *
      have HSET := Lib.hid hset
      clear hset
      have e1 : ((k : Int) - 1).toNat = k - 1 := by omega
      have e2 : wrap64 ((k : Int) - 1) = (k : Int) - 1 := w64 _ (by omega) (by omega)
      have e3 : (0 : Int) ≤ (k : Int) - 1 := by omega
      have e4 : (k : Int) - 1 < (n : Int) := by omega
      have e5 : (k : Int) < (n : Int) := by omega
      have e7 : decide ((k : Int) < (n : Int)) = true := by simp; omega
      have e6 : IntKind.i64.wrap ((k : Int) - 1) = (k : Int) - 1 := IntWalk.i64_in _ (by omega)
      go_upto_region 5 with fail
      go_region_with ((go_at_call 35; refine (add_any x1 x2 _ hx1 hx2).mono ?_; rintro e w2 ⟨rfl, hB2⟩; have HO2 := Lib.hid (own_mods (World.ownsRow.drew HOr.out) (Mods.of_below hB2 []) (by simp)); have HB2 := Lib.hid (below_then (below_drew HBr.out) HBr.out.size hB2); obtain ⟨cc2, ff2⟩ := own_at HO2.out (k : Int) (by omega) (by omega); rw [Int.toNat_natCast] at cc2 ff2; clear hB2))
      all_goals
        go_wp2_with fail
        go_roundw
        case rel =>
          have ho := (World.ownsRow.stored HO2.out k (.int .u32 (addP x1 x2))).1
          rw [← nums_set32, HSET.out] at ho
          exact ⟨k + 1, by omega, by omega, by go_num, Lib.hid ho, Lib.hid (HB2.out.setCell (p := ⟨g, k, none⟩) hg _)⟩
        case measure => simp [intOf]; omega
    · obtain rfl : k = n := by omega
      have e7 : decide ((k : Int) < (k : Int)) = false := by simp
      go_wp2_with fail
      refine (clip_any g k cp _ hcap).mono ?_
      rintro e w2 ⟨rfl, rfl⟩
      go_wp2_with fail
      go_ret
      exact ⟨_, _, rfl, own_reads' HOr.out, HBr.out⟩
end Go.Proofs.Ytmgkdlkjcncniaa
