/- table.Unpack where something may not be. (Printed by genguard.py.) -/
import Derived.Test.YtmgkdlkjcncniaaRefTab2
import Derived.Test.YtmgkdlkjcncniaaTab2P
import Derived.Test.YtmgkdlkjcncniaaTab6
namespace Go.Proofs.Ytmgkdlkjcncniaa
open Go.RowKit
open Go.Proofs.YtmgkdlkjcncniaaW.PrintWords

set_option maxRecDepth 100000 in
set_option maxHeartbeats 4000000 in
theorem unpack_bad1 (W H w : Int) (A B : Option Addr) (n c m d : Nat) (wd : World) (_hm0 : (m : Int) ≤ 9223372036854775807) (hg : goodI W H n = false) : Calls Try.prog 12 #[.agg #[.int .i64 W, .int .i64 H, .slice A n c], .slice B m d, .int .i64 w] wd fun e w' =>
    e = .returned (.tuple #[.agg #[.int .i64 0, .int .i64 0, .slice none 0 0], .int .i64 1]) ∧ Below wd.heap.size wd w' := by
  have hbt := bitsT_le m
  generalize hb : bitsT m = b at *
  have HB := Lib.hid hb
  clear hb
  have HG := Lib.hid hg
  clear hg
  go_enter Try.func12, Try.ntmps12
  go_wp2_with (go_at_call 18; refine (bits_any _ _).mono ?_; rw [HB.out]; rintro e w' ⟨rfl, rfl⟩)
  have hbb : Below (wd.alloc (.cells #[.int .i64 W, .int .i64 H, .slice A n c] 24)).heap.size (wd.alloc (.cells #[.int .i64 W, .int .i64 H, .slice A n c] 24)) ((wd.alloc (.cells #[.int .i64 W, .int .i64 H, .slice A n c] 24)).alloc (.cells #[.int .i64 0, .int .i64 0, .slice none 0 0] 24)).drew := below_drew ((Below.refl _ _).alloc (Nat.le_refl _) _)
  have hnew : (wd.alloc (.cells #[.int .i64 W, .int .i64 H, .slice A n c] 24)).heap[wd.heap.size]? = some (.cells #[.int .i64 W, .int .i64 H, .slice A n c] 24 (0, 0)) := alloc_new _ _ _
  have q0 := pw_cell_below hbb (show (wd.alloc (.cells #[.int .i64 W, .int .i64 H, .slice A n c] 24)).cell? ⟨wd.heap.size, 0, none⟩ = some (.int .i64 W) by rw [cell_blk hnew]; rfl)
  have q1 := pw_cell_below hbb (show (wd.alloc (.cells #[.int .i64 W, .int .i64 H, .slice A n c] 24)).cell? ⟨wd.heap.size, 1, none⟩ = some (.int .i64 H) by rw [cell_blk hnew]; rfl)
  have q2 := pw_cell_below hbb (show (wd.alloc (.cells #[.int .i64 W, .int .i64 H, .slice A n c] 24)).cell? ⟨wd.heap.size, 2, none⟩ = some (.slice A n c) by rw [cell_blk hnew]; rfl)
  clear hnew
  have hres : ((wd.alloc (.cells #[.int .i64 W, .int .i64 H, .slice A n c] 24)).alloc (.cells #[.int .i64 0, .int .i64 0, .slice none 0 0] 24)).drew.heap[wd.heap.size + 1]? = some (.cells #[.int .i64 0, .int .i64 0, .slice none 0 0] 24 (0, 0)) := by
    have h := alloc_new (wd.alloc (.cells #[.int .i64 W, .int .i64 H, .slice A n c] 24)) #[.int .i64 0, .int .i64 0, .slice none 0 0] 24
    rw [World.size_alloc] at h; exact h
  have HRES := Lib.hid hres
  clear hres
  refine wp_region_noPanic ?_
  refine wp_region_held_drew (S := fun w' => w'.cell? ⟨wd.heap.size, 0, none⟩ = some (.int .i64 W) ∧ w'.cell? ⟨wd.heap.size, 1, none⟩ = some (.int .i64 H) ∧ w'.cell? ⟨wd.heap.size, 2, none⟩ = some (.slice A n c)) (by kernel_rfl) ⟨q0, q1, q2⟩ (fun hHeld => ?_)
  refine wpAnyH_take (i := 0) (oi := _) (v := ?_) (by simp only [List.getElem?_toArray, List.getElem?_cons_zero]; rfl) (by kernel_rfl) (by kernel_rfl) (by kernel_rfl) (fun _ _ _ h => h) (Or.inl ⟨by rfl, ?_⟩) hHeld ?_
  rotate_left 1
  · intro w hSw
    try dsimp only at hSw
    first | (go_simp; done) | (go_simp; with_reducible rfl)
  try simp only [Act.put, List.setIfInBounds_toArray, List.set_cons_zero, List.set_cons_succ]
  refine wpAnyH_ready (rs := [1]) (by kernel_rfl) (by simp) ?_
  refine AllReadyH.cons (o := _) (by simp only [List.getElem?_toArray, List.getElem?_cons_succ, List.getElem?_cons_zero]; rfl) (fun K hK => ?_) AllReadyH.nil
  go_simp
  refine (good_any W H A n c _).mono ?_
  rintro e w' ⟨rfl, hB⟩
  rw [HG.out]
  have HBG := Lib.hid hB
  clear hB
  refine hK.out _ _ ?_ (fun hHeld2 => ?_)
  · (try dsimp only)
    first | exact ⟨pw_cell_below HBG.out q0, pw_cell_below HBG.out q1, pw_cell_below HBG.out q2⟩ | exact hHeld | fail
  clear hK K hHeld
  have hHeld := hHeld2
  clear hHeld2
  try simp only [Act.put, List.setIfInBounds_toArray, List.set_cons_zero, List.set_cons_succ]
  refine wpAnyH_take (i := 2) (oi := _) (v := ?_) (by simp only [List.getElem?_toArray, List.getElem?_cons_succ, List.getElem?_cons_zero]; rfl) (by kernel_rfl) (by kernel_rfl) (by kernel_rfl) (fun _ _ _ h => h) (Or.inl ⟨by rfl, ?_⟩) hHeld ?_
  rotate_left 1
  · intro w hSw
    try dsimp only at hSw
    first | (go_simp; done) | (go_simp; with_reducible rfl)
  try simp only [Act.put, List.setIfInBounds_toArray, List.set_cons_zero, List.set_cons_succ]
  refine wpAnyH_take (i := 3) (oi := _) (v := ?_) (by simp only [List.getElem?_toArray, List.getElem?_cons_succ, List.getElem?_cons_zero]; rfl) (by kernel_rfl) (by kernel_rfl) (by kernel_rfl) (fun _ _ _ h => h) (Or.inl ⟨by rfl, ?_⟩) hHeld ?_
  rotate_left 1
  · intro w hSw
    try dsimp only at hSw
    first | (go_simp; done) | (go_simp; with_reducible rfl)
  try simp only [Act.put, List.setIfInBounds_toArray, List.set_cons_zero, List.set_cons_succ]
  refine wpAnyH_take (i := 4) (oi := _) (v := undef) (by simp only [List.getElem?_toArray, List.getElem?_cons_succ, List.getElem?_cons_zero]; rfl) (by kernel_rfl) (by kernel_rfl) (by kernel_rfl) (fun _ _ _ h => h) (Or.inr ⟨by rfl, rfl⟩) hHeld ?_
  try simp only [Act.put, List.setIfInBounds_toArray, List.set_cons_zero, List.set_cons_succ]
  refine wpAnyH_take (i := 5) (oi := _) (v := undef) (by simp only [List.getElem?_toArray, List.getElem?_cons_succ, List.getElem?_cons_zero]; rfl) (by kernel_rfl) (by kernel_rfl) (by kernel_rfl) (fun _ _ _ h => h) (Or.inr ⟨by rfl, rfl⟩) hHeld ?_
  try simp only [Act.put, List.setIfInBounds_toArray, List.set_cons_zero, List.set_cons_succ]
  refine wpAnyH_take (i := 6) (oi := _) (v := undef) (by simp only [List.getElem?_toArray, List.getElem?_cons_succ, List.getElem?_cons_zero]; rfl) (by kernel_rfl) (by kernel_rfl) (by kernel_rfl) (fun _ _ _ h => h) (Or.inr ⟨by rfl, rfl⟩) hHeld ?_
  try simp only [Act.put, List.setIfInBounds_toArray, List.set_cons_zero, List.set_cons_succ]
  refine wpAnyH_take (i := 7) (oi := _) (v := ?_) (by simp only [List.getElem?_toArray, List.getElem?_cons_succ, List.getElem?_cons_zero]; rfl) (by kernel_rfl) (by kernel_rfl) (by kernel_rfl) (fun _ _ _ h => h) (Or.inl ⟨by rfl, ?_⟩) hHeld ?_
  rotate_left 1
  · intro w hSw
    try dsimp only at hSw
    first | (go_simp; done) | (go_simp; with_reducible rfl)
  try simp only [Act.put, List.setIfInBounds_toArray, List.set_cons_zero, List.set_cons_succ]
  refine wpAnyH_take (i := 8) (oi := _) (v := ?_) (by simp only [List.getElem?_toArray, List.getElem?_cons_succ, List.getElem?_cons_zero]; rfl) (by kernel_rfl) (by kernel_rfl) (by kernel_rfl) (fun _ _ _ h => h) (Or.inl ⟨by rfl, ?_⟩) hHeld ?_
  rotate_left 1
  · intro w hSw
    try dsimp only at hSw
    first | (go_simp; done) | (go_simp; with_reducible rfl)
  try simp only [Act.put, List.setIfInBounds_toArray, List.set_cons_zero, List.set_cons_succ]
  refine wpAnyH_take (i := 9) (oi := _) (v := undef) (by simp only [List.getElem?_toArray, List.getElem?_cons_succ, List.getElem?_cons_zero]; rfl) (by kernel_rfl) (by kernel_rfl) (by kernel_rfl) (fun _ _ _ h => h) (Or.inr ⟨by rfl, rfl⟩) hHeld ?_
  try simp only [Act.put, List.setIfInBounds_toArray, List.set_cons_zero, List.set_cons_succ]
  refine wpAnyH_take (i := 10) (oi := _) (v := undef) (by simp only [List.getElem?_toArray, List.getElem?_cons_succ, List.getElem?_cons_zero]; rfl) (by kernel_rfl) (by kernel_rfl) (by kernel_rfl) (fun _ _ _ h => h) (Or.inr ⟨by rfl, rfl⟩) hHeld ?_
  try simp only [Act.put, List.setIfInBounds_toArray, List.set_cons_zero, List.set_cons_succ]
  refine wpAnyH_take (i := 11) (oi := _) (v := ?_) (by simp only [List.getElem?_toArray, List.getElem?_cons_succ, List.getElem?_cons_zero]; rfl) (by kernel_rfl) (by kernel_rfl) (by kernel_rfl) (fun _ _ _ h => h) (Or.inl ⟨by rfl, ?_⟩) hHeld ?_
  rotate_left 1
  · intro w hSw
    try dsimp only at hSw
    first | (go_simp; done) | (go_simp; with_reducible rfl)
  try simp only [Act.put, List.setIfInBounds_toArray, List.set_cons_zero, List.set_cons_succ]
  refine wpAnyH_take (i := 12) (oi := _) (v := ?_) (by simp only [List.getElem?_toArray, List.getElem?_cons_succ, List.getElem?_cons_zero]; rfl) (by kernel_rfl) (by kernel_rfl) (by kernel_rfl) (fun _ _ _ h => h) (Or.inl ⟨by rfl, ?_⟩) hHeld ?_
  rotate_left 1
  · intro w hSw
    try dsimp only at hSw
    first | (go_simp; done) | (go_simp; with_reducible rfl)
  try simp only [Act.put, List.setIfInBounds_toArray, List.set_cons_zero, List.set_cons_succ]
  refine wpAnyH_take (i := 13) (oi := _) (v := undef) (by simp only [List.getElem?_toArray, List.getElem?_cons_succ, List.getElem?_cons_zero]; rfl) (by kernel_rfl) (by kernel_rfl) (by kernel_rfl) (fun _ _ _ h => h) (Or.inr ⟨by rfl, rfl⟩) hHeld ?_
  try simp only [Act.put, List.setIfInBounds_toArray, List.set_cons_zero, List.set_cons_succ]
  refine wpAnyH_take (i := 14) (oi := _) (v := undef) (by simp only [List.getElem?_toArray, List.getElem?_cons_succ, List.getElem?_cons_zero]; rfl) (by kernel_rfl) (by kernel_rfl) (by kernel_rfl) (fun _ _ _ h => h) (Or.inr ⟨by rfl, rfl⟩) hHeld ?_
  try simp only [Act.put, List.setIfInBounds_toArray, List.set_cons_zero, List.set_cons_succ]
  refine wpAnyH_take (i := 15) (oi := _) (v := ?_) (by simp only [List.getElem?_toArray, List.getElem?_cons_succ, List.getElem?_cons_zero]; rfl) (by kernel_rfl) (by kernel_rfl) (by kernel_rfl) (fun _ _ _ h => h) (Or.inl ⟨by rfl, ?_⟩) hHeld ?_
  rotate_left 1
  · intro w hSw
    try dsimp only at hSw
    first | (go_simp; done) | (go_simp; with_reducible rfl)
  try simp only [Act.put, List.setIfInBounds_toArray, List.set_cons_zero, List.set_cons_succ]
  refine wpAnyH_take (i := 16) (oi := _) (v := ?_) (by simp only [List.getElem?_toArray, List.getElem?_cons_succ, List.getElem?_cons_zero]; rfl) (by kernel_rfl) (by kernel_rfl) (by kernel_rfl) (fun _ _ _ h => h) (Or.inl ⟨by rfl, ?_⟩) hHeld ?_
  rotate_left 1
  · intro w hSw
    try dsimp only at hSw
    first | (go_simp; done) | (go_simp; with_reducible rfl)
  try simp only [Act.put, List.setIfInBounds_toArray, List.set_cons_zero, List.set_cons_succ]
  refine wpAnyH_take (i := 17) (oi := _) (v := undef) (by simp only [List.getElem?_toArray, List.getElem?_cons_succ, List.getElem?_cons_zero]; rfl) (by kernel_rfl) (by kernel_rfl) (by kernel_rfl) (fun _ _ _ h => h) (Or.inr ⟨by rfl, rfl⟩) hHeld ?_
  try simp only [Act.put, List.setIfInBounds_toArray, List.set_cons_zero, List.set_cons_succ]
  refine wpAnyH_take (i := 18) (oi := _) (v := undef) (by simp only [List.getElem?_toArray, List.getElem?_cons_succ, List.getElem?_cons_zero]; rfl) (by kernel_rfl) (by kernel_rfl) (by kernel_rfl) (fun _ _ _ h => h) (Or.inr ⟨by rfl, rfl⟩) hHeld ?_
  try simp only [Act.put, List.setIfInBounds_toArray, List.set_cons_zero, List.set_cons_succ]
  refine wpAnyH_take (i := 20) (oi := _) (v := undef) (by simp only [List.getElem?_toArray, List.getElem?_cons_succ, List.getElem?_cons_zero]; rfl) (by kernel_rfl) (by kernel_rfl) (by kernel_rfl) (fun _ _ _ h => h) (Or.inr ⟨by rfl, rfl⟩) hHeld ?_
  try simp only [Act.put, List.setIfInBounds_toArray, List.set_cons_zero, List.set_cons_succ]
  refine wpAnyH_take (i := 21) (oi := _) (v := undef) (by simp only [List.getElem?_toArray, List.getElem?_cons_succ, List.getElem?_cons_zero]; rfl) (by kernel_rfl) (by kernel_rfl) (by kernel_rfl) (fun _ _ _ h => h) (Or.inr ⟨by rfl, rfl⟩) hHeld ?_
  try simp only [Act.put, List.setIfInBounds_toArray, List.set_cons_zero, List.set_cons_succ]
  refine wpAnyH_take (i := 19) (oi := _) (v := undef) (by simp only [List.getElem?_toArray, List.getElem?_cons_succ, List.getElem?_cons_zero]; rfl) (by kernel_rfl) (by kernel_rfl) (by kernel_rfl) (fun _ _ _ h => h) (Or.inr ⟨by rfl, rfl⟩) hHeld ?_
  try simp only [Act.put, List.setIfInBounds_toArray, List.set_cons_zero, List.set_cons_succ]
  refine wpAnyH_take (i := 22) (oi := _) (v := undef) (by simp only [List.getElem?_toArray, List.getElem?_cons_succ, List.getElem?_cons_zero]; rfl) (by kernel_rfl) (by kernel_rfl) (by kernel_rfl) (fun _ _ _ h => h) (Or.inr ⟨by rfl, rfl⟩) hHeld ?_
  try simp only [Act.put, List.setIfInBounds_toArray, List.set_cons_zero, List.set_cons_succ]
  refine wpAnyH_take (i := 23) (oi := _) (v := ?_) (by simp only [List.getElem?_toArray, List.getElem?_cons_succ, List.getElem?_cons_zero]; rfl) (by kernel_rfl) (by kernel_rfl) (by kernel_rfl) (fun _ _ _ h => h) (Or.inl ⟨by rfl, ?_⟩) hHeld ?_
  rotate_left 1
  · intro w hSw
    try dsimp only at hSw
    first | (go_simp; done) | (go_simp; with_reducible rfl)
  try simp only [Act.put, List.setIfInBounds_toArray, List.set_cons_zero, List.set_cons_succ]
  refine wpAnyH_done (by kernel_rfl) ?_ _
  refine NoPanic.normal ?_
  have HPX := Lib.hid ((Mods.of_below HBG.out []).blk HRES.out (by simp))
  have HBW := Lib.hid (show Below wd.heap.size wd w' from below_then (below_drew (((Below.refl _ wd).alloc (Nat.le_refl _) _).alloc (by simp) _)) (by simp [World.drew] <;> omega) HBG.out)
  obtain ⟨u0, u1, u2, f0, f1, f2⟩ := box3 HPX.out
  go_wp2_with fail
  refine bodyPost_ret (results_box rfl _ _ _ _ _ _ _ rfl (blk_set3 HPX.out _ _ _) Try.underlying24 rfl size_image) rfl ?_
  exact ⟨rfl, below_box HBW.out (by omega) _ _ _⟩

set_option maxRecDepth 100000 in
set_option maxHeartbeats 4000000 in
theorem unpack_bad2 (W H w : Int) (A B : Option Addr) (n c m d : Nat) (wd : World) (_hm0 : (m : Int) ≤ 9223372036854775807) (hg : goodI W H n = true) (ht : goodT m = false) : Calls Try.prog 12 #[.agg #[.int .i64 W, .int .i64 H, .slice A n c], .slice B m d, .int .i64 w] wd fun e w' =>
    e = .returned (.tuple #[.agg #[.int .i64 0, .int .i64 0, .slice none 0 0], .int .i64 1]) ∧ Below wd.heap.size wd w' := by
  have hbt := bitsT_le m
  generalize hb : bitsT m = b at *
  have HB := Lib.hid hb
  clear hb
  have HG := Lib.hid hg
  clear hg
  have HT := Lib.hid ht
  clear ht
  go_enter Try.func12, Try.ntmps12
  go_wp2_with (go_at_call 18; refine (bits_any _ _).mono ?_; rw [HB.out]; rintro e w' ⟨rfl, rfl⟩)
  have hbb : Below (wd.alloc (.cells #[.int .i64 W, .int .i64 H, .slice A n c] 24)).heap.size (wd.alloc (.cells #[.int .i64 W, .int .i64 H, .slice A n c] 24)) ((wd.alloc (.cells #[.int .i64 W, .int .i64 H, .slice A n c] 24)).alloc (.cells #[.int .i64 0, .int .i64 0, .slice none 0 0] 24)).drew := below_drew ((Below.refl _ _).alloc (Nat.le_refl _) _)
  have hnew : (wd.alloc (.cells #[.int .i64 W, .int .i64 H, .slice A n c] 24)).heap[wd.heap.size]? = some (.cells #[.int .i64 W, .int .i64 H, .slice A n c] 24 (0, 0)) := alloc_new _ _ _
  have q0 := pw_cell_below hbb (show (wd.alloc (.cells #[.int .i64 W, .int .i64 H, .slice A n c] 24)).cell? ⟨wd.heap.size, 0, none⟩ = some (.int .i64 W) by rw [cell_blk hnew]; rfl)
  have q1 := pw_cell_below hbb (show (wd.alloc (.cells #[.int .i64 W, .int .i64 H, .slice A n c] 24)).cell? ⟨wd.heap.size, 1, none⟩ = some (.int .i64 H) by rw [cell_blk hnew]; rfl)
  have q2 := pw_cell_below hbb (show (wd.alloc (.cells #[.int .i64 W, .int .i64 H, .slice A n c] 24)).cell? ⟨wd.heap.size, 2, none⟩ = some (.slice A n c) by rw [cell_blk hnew]; rfl)
  clear hnew
  have hres : ((wd.alloc (.cells #[.int .i64 W, .int .i64 H, .slice A n c] 24)).alloc (.cells #[.int .i64 0, .int .i64 0, .slice none 0 0] 24)).drew.heap[wd.heap.size + 1]? = some (.cells #[.int .i64 0, .int .i64 0, .slice none 0 0] 24 (0, 0)) := by
    have h := alloc_new (wd.alloc (.cells #[.int .i64 W, .int .i64 H, .slice A n c] 24)) #[.int .i64 0, .int .i64 0, .slice none 0 0] 24
    rw [World.size_alloc] at h; exact h
  have HRES := Lib.hid hres
  clear hres
  refine wp_region_noPanic ?_
  refine wp_region_held_drew (S := fun w' => w'.cell? ⟨wd.heap.size, 0, none⟩ = some (.int .i64 W) ∧ w'.cell? ⟨wd.heap.size, 1, none⟩ = some (.int .i64 H) ∧ w'.cell? ⟨wd.heap.size, 2, none⟩ = some (.slice A n c)) (by kernel_rfl) ⟨q0, q1, q2⟩ (fun hHeld => ?_)
  refine wpAnyH_take (i := 0) (oi := _) (v := ?_) (by simp only [List.getElem?_toArray, List.getElem?_cons_zero]; rfl) (by kernel_rfl) (by kernel_rfl) (by kernel_rfl) (fun _ _ _ h => h) (Or.inl ⟨by rfl, ?_⟩) hHeld ?_
  rotate_left 1
  · intro w hSw
    try dsimp only at hSw
    first | (go_simp; done) | (go_simp; with_reducible rfl)
  try simp only [Act.put, List.setIfInBounds_toArray, List.set_cons_zero, List.set_cons_succ]
  refine wpAnyH_ready (rs := [1]) (by kernel_rfl) (by simp) ?_
  refine AllReadyH.cons (o := _) (by simp only [List.getElem?_toArray, List.getElem?_cons_succ, List.getElem?_cons_zero]; rfl) (fun K hK => ?_) AllReadyH.nil
  go_simp
  refine (good_any W H A n c _).mono ?_
  rintro e w' ⟨rfl, hB⟩
  rw [HG.out]
  have HBG := Lib.hid hB
  clear hB
  refine hK.out _ _ ?_ (fun hHeld2 => ?_)
  · (try dsimp only)
    first | exact ⟨pw_cell_below HBG.out q0, pw_cell_below HBG.out q1, pw_cell_below HBG.out q2⟩ | exact hHeld | fail
  clear hK K hHeld
  have hHeld := hHeld2
  clear hHeld2
  try simp only [Act.put, List.setIfInBounds_toArray, List.set_cons_zero, List.set_cons_succ]
  refine wpAnyH_take (i := 2) (oi := _) (v := ?_) (by simp only [List.getElem?_toArray, List.getElem?_cons_succ, List.getElem?_cons_zero]; rfl) (by kernel_rfl) (by kernel_rfl) (by kernel_rfl) (fun _ _ _ h => h) (Or.inl ⟨by rfl, ?_⟩) hHeld ?_
  rotate_left 1
  · intro w hSw
    try dsimp only at hSw
    first | (go_simp; done) | (go_simp; with_reducible rfl)
  try simp only [Act.put, List.setIfInBounds_toArray, List.set_cons_zero, List.set_cons_succ]
  refine wpAnyH_take (i := 3) (oi := _) (v := ?_) (by simp only [List.getElem?_toArray, List.getElem?_cons_succ, List.getElem?_cons_zero]; rfl) (by kernel_rfl) (by kernel_rfl) (by kernel_rfl) (fun _ _ _ h => h) (Or.inl ⟨by rfl, ?_⟩) hHeld ?_
  rotate_left 1
  · intro w hSw
    try dsimp only at hSw
    first | (go_simp; done) | (go_simp; with_reducible rfl)
  try simp only [Act.put, List.setIfInBounds_toArray, List.set_cons_zero, List.set_cons_succ]
  refine wpAnyH_take (i := 4) (oi := _) (v := ?_) (by simp only [List.getElem?_toArray, List.getElem?_cons_succ, List.getElem?_cons_zero]; rfl) (by kernel_rfl) (by kernel_rfl) (by kernel_rfl) (fun _ _ _ h => h) (Or.inl ⟨by rfl, ?_⟩) hHeld ?_
  rotate_left 1
  · intro w hSw
    try dsimp only at hSw
    first | (go_simp; done) | (go_simp; with_reducible rfl)
  try simp only [Act.put, List.setIfInBounds_toArray, List.set_cons_zero, List.set_cons_succ]
  refine wpAnyH_ready (rs := [5]) (by kernel_rfl) (by simp) ?_
  refine AllReadyH.cons (o := _) (by simp only [List.getElem?_toArray, List.getElem?_cons_succ, List.getElem?_cons_zero]; rfl) (fun K hK => ?_) AllReadyH.nil
  go_simp
  refine (goodT_any B m d _).mono ?_
  rintro e w2' ⟨rfl, rfl⟩
  rw [HT.out]
  refine hK.out _ _ ?_ (fun hHeld2 => ?_)
  · (try dsimp only)
    first | exact ⟨pw_cell_below HBG.out q0, pw_cell_below HBG.out q1, pw_cell_below HBG.out q2⟩ | exact hHeld | fail
  clear hK K hHeld
  have hHeld := hHeld2
  clear hHeld2
  try simp only [Act.put, List.setIfInBounds_toArray, List.set_cons_zero, List.set_cons_succ]
  refine wpAnyH_take (i := 6) (oi := _) (v := ?_) (by simp only [List.getElem?_toArray, List.getElem?_cons_succ, List.getElem?_cons_zero]; rfl) (by kernel_rfl) (by kernel_rfl) (by kernel_rfl) (fun _ _ _ h => h) (Or.inl ⟨by rfl, ?_⟩) hHeld ?_
  rotate_left 1
  · intro w hSw
    try dsimp only at hSw
    first | (go_simp; done) | (go_simp; with_reducible rfl)
  try simp only [Act.put, List.setIfInBounds_toArray, List.set_cons_zero, List.set_cons_succ]
  refine wpAnyH_take (i := 7) (oi := _) (v := ?_) (by simp only [List.getElem?_toArray, List.getElem?_cons_succ, List.getElem?_cons_zero]; rfl) (by kernel_rfl) (by kernel_rfl) (by kernel_rfl) (fun _ _ _ h => h) (Or.inl ⟨by rfl, ?_⟩) hHeld ?_
  rotate_left 1
  · intro w hSw
    try dsimp only at hSw
    first | (go_simp; done) | (go_simp; with_reducible rfl)
  try simp only [Act.put, List.setIfInBounds_toArray, List.set_cons_zero, List.set_cons_succ]
  refine wpAnyH_take (i := 8) (oi := _) (v := ?_) (by simp only [List.getElem?_toArray, List.getElem?_cons_succ, List.getElem?_cons_zero]; rfl) (by kernel_rfl) (by kernel_rfl) (by kernel_rfl) (fun _ _ _ h => h) (Or.inl ⟨by rfl, ?_⟩) hHeld ?_
  rotate_left 1
  · intro w hSw
    try dsimp only at hSw
    first | (go_simp; done) | (go_simp; with_reducible rfl)
  try simp only [Act.put, List.setIfInBounds_toArray, List.set_cons_zero, List.set_cons_succ]
  refine wpAnyH_take (i := 9) (oi := _) (v := undef) (by simp only [List.getElem?_toArray, List.getElem?_cons_succ, List.getElem?_cons_zero]; rfl) (by kernel_rfl) (by kernel_rfl) (by kernel_rfl) (fun _ _ _ h => h) (Or.inr ⟨by rfl, rfl⟩) hHeld ?_
  try simp only [Act.put, List.setIfInBounds_toArray, List.set_cons_zero, List.set_cons_succ]
  refine wpAnyH_take (i := 10) (oi := _) (v := undef) (by simp only [List.getElem?_toArray, List.getElem?_cons_succ, List.getElem?_cons_zero]; rfl) (by kernel_rfl) (by kernel_rfl) (by kernel_rfl) (fun _ _ _ h => h) (Or.inr ⟨by rfl, rfl⟩) hHeld ?_
  try simp only [Act.put, List.setIfInBounds_toArray, List.set_cons_zero, List.set_cons_succ]
  refine wpAnyH_take (i := 11) (oi := _) (v := ?_) (by simp only [List.getElem?_toArray, List.getElem?_cons_succ, List.getElem?_cons_zero]; rfl) (by kernel_rfl) (by kernel_rfl) (by kernel_rfl) (fun _ _ _ h => h) (Or.inl ⟨by rfl, ?_⟩) hHeld ?_
  rotate_left 1
  · intro w hSw
    try dsimp only at hSw
    first | (go_simp; done) | (go_simp; with_reducible rfl)
  try simp only [Act.put, List.setIfInBounds_toArray, List.set_cons_zero, List.set_cons_succ]
  refine wpAnyH_take (i := 12) (oi := _) (v := ?_) (by simp only [List.getElem?_toArray, List.getElem?_cons_succ, List.getElem?_cons_zero]; rfl) (by kernel_rfl) (by kernel_rfl) (by kernel_rfl) (fun _ _ _ h => h) (Or.inl ⟨by rfl, ?_⟩) hHeld ?_
  rotate_left 1
  · intro w hSw
    try dsimp only at hSw
    first | (go_simp; done) | (go_simp; with_reducible rfl)
  try simp only [Act.put, List.setIfInBounds_toArray, List.set_cons_zero, List.set_cons_succ]
  refine wpAnyH_take (i := 13) (oi := _) (v := undef) (by simp only [List.getElem?_toArray, List.getElem?_cons_succ, List.getElem?_cons_zero]; rfl) (by kernel_rfl) (by kernel_rfl) (by kernel_rfl) (fun _ _ _ h => h) (Or.inr ⟨by rfl, rfl⟩) hHeld ?_
  try simp only [Act.put, List.setIfInBounds_toArray, List.set_cons_zero, List.set_cons_succ]
  refine wpAnyH_take (i := 14) (oi := _) (v := undef) (by simp only [List.getElem?_toArray, List.getElem?_cons_succ, List.getElem?_cons_zero]; rfl) (by kernel_rfl) (by kernel_rfl) (by kernel_rfl) (fun _ _ _ h => h) (Or.inr ⟨by rfl, rfl⟩) hHeld ?_
  try simp only [Act.put, List.setIfInBounds_toArray, List.set_cons_zero, List.set_cons_succ]
  refine wpAnyH_take (i := 15) (oi := _) (v := ?_) (by simp only [List.getElem?_toArray, List.getElem?_cons_succ, List.getElem?_cons_zero]; rfl) (by kernel_rfl) (by kernel_rfl) (by kernel_rfl) (fun _ _ _ h => h) (Or.inl ⟨by rfl, ?_⟩) hHeld ?_
  rotate_left 1
  · intro w hSw
    try dsimp only at hSw
    first | (go_simp; done) | (go_simp; with_reducible rfl)
  try simp only [Act.put, List.setIfInBounds_toArray, List.set_cons_zero, List.set_cons_succ]
  refine wpAnyH_take (i := 16) (oi := _) (v := ?_) (by simp only [List.getElem?_toArray, List.getElem?_cons_succ, List.getElem?_cons_zero]; rfl) (by kernel_rfl) (by kernel_rfl) (by kernel_rfl) (fun _ _ _ h => h) (Or.inl ⟨by rfl, ?_⟩) hHeld ?_
  rotate_left 1
  · intro w hSw
    try dsimp only at hSw
    first | (go_simp; done) | (go_simp; with_reducible rfl)
  try simp only [Act.put, List.setIfInBounds_toArray, List.set_cons_zero, List.set_cons_succ]
  refine wpAnyH_take (i := 17) (oi := _) (v := undef) (by simp only [List.getElem?_toArray, List.getElem?_cons_succ, List.getElem?_cons_zero]; rfl) (by kernel_rfl) (by kernel_rfl) (by kernel_rfl) (fun _ _ _ h => h) (Or.inr ⟨by rfl, rfl⟩) hHeld ?_
  try simp only [Act.put, List.setIfInBounds_toArray, List.set_cons_zero, List.set_cons_succ]
  refine wpAnyH_take (i := 18) (oi := _) (v := undef) (by simp only [List.getElem?_toArray, List.getElem?_cons_succ, List.getElem?_cons_zero]; rfl) (by kernel_rfl) (by kernel_rfl) (by kernel_rfl) (fun _ _ _ h => h) (Or.inr ⟨by rfl, rfl⟩) hHeld ?_
  try simp only [Act.put, List.setIfInBounds_toArray, List.set_cons_zero, List.set_cons_succ]
  refine wpAnyH_take (i := 20) (oi := _) (v := undef) (by simp only [List.getElem?_toArray, List.getElem?_cons_succ, List.getElem?_cons_zero]; rfl) (by kernel_rfl) (by kernel_rfl) (by kernel_rfl) (fun _ _ _ h => h) (Or.inr ⟨by rfl, rfl⟩) hHeld ?_
  try simp only [Act.put, List.setIfInBounds_toArray, List.set_cons_zero, List.set_cons_succ]
  refine wpAnyH_take (i := 21) (oi := _) (v := undef) (by simp only [List.getElem?_toArray, List.getElem?_cons_succ, List.getElem?_cons_zero]; rfl) (by kernel_rfl) (by kernel_rfl) (by kernel_rfl) (fun _ _ _ h => h) (Or.inr ⟨by rfl, rfl⟩) hHeld ?_
  try simp only [Act.put, List.setIfInBounds_toArray, List.set_cons_zero, List.set_cons_succ]
  refine wpAnyH_take (i := 19) (oi := _) (v := undef) (by simp only [List.getElem?_toArray, List.getElem?_cons_succ, List.getElem?_cons_zero]; rfl) (by kernel_rfl) (by kernel_rfl) (by kernel_rfl) (fun _ _ _ h => h) (Or.inr ⟨by rfl, rfl⟩) hHeld ?_
  try simp only [Act.put, List.setIfInBounds_toArray, List.set_cons_zero, List.set_cons_succ]
  refine wpAnyH_take (i := 22) (oi := _) (v := undef) (by simp only [List.getElem?_toArray, List.getElem?_cons_succ, List.getElem?_cons_zero]; rfl) (by kernel_rfl) (by kernel_rfl) (by kernel_rfl) (fun _ _ _ h => h) (Or.inr ⟨by rfl, rfl⟩) hHeld ?_
  try simp only [Act.put, List.setIfInBounds_toArray, List.set_cons_zero, List.set_cons_succ]
  refine wpAnyH_take (i := 23) (oi := _) (v := ?_) (by simp only [List.getElem?_toArray, List.getElem?_cons_succ, List.getElem?_cons_zero]; rfl) (by kernel_rfl) (by kernel_rfl) (by kernel_rfl) (fun _ _ _ h => h) (Or.inl ⟨by rfl, ?_⟩) hHeld ?_
  rotate_left 1
  · intro w hSw
    try dsimp only at hSw
    first | (go_simp; done) | (go_simp; with_reducible rfl)
  try simp only [Act.put, List.setIfInBounds_toArray, List.set_cons_zero, List.set_cons_succ]
  refine wpAnyH_done (by kernel_rfl) ?_ _
  refine NoPanic.normal ?_
  have HPX := Lib.hid ((Mods.of_below HBG.out []).blk HRES.out (by simp))
  have HBW := Lib.hid (show Below wd.heap.size wd w' from below_then (below_drew (((Below.refl _ wd).alloc (Nat.le_refl _) _).alloc (by simp) _)) (by simp [World.drew] <;> omega) HBG.out)
  obtain ⟨u0, u1, u2, f0, f1, f2⟩ := box3 HPX.out
  go_wp2_with fail
  refine bodyPost_ret (results_box rfl _ _ _ _ _ _ _ rfl (blk_set3 HPX.out _ _ _) Try.underlying24 rfl size_image) rfl ?_
  exact ⟨rfl, below_box HBW.out (by omega) _ _ _⟩

set_option maxRecDepth 100000 in
set_option maxHeartbeats 4000000 in
theorem unpack_bad3 (W H w : Int) (A B : Option Addr) (n c m d : Nat) (wd : World) (_hm0 : (m : Int) ≤ 9223372036854775807) (hg : goodI W H n = true) (ht : goodT m = true) (hw : w < 1) : Calls Try.prog 12 #[.agg #[.int .i64 W, .int .i64 H, .slice A n c], .slice B m d, .int .i64 w] wd fun e w' =>
    e = .returned (.tuple #[.agg #[.int .i64 0, .int .i64 0, .slice none 0 0], .int .i64 1]) ∧ Below wd.heap.size wd w' := by
  have hbt := bitsT_le m
  generalize hb : bitsT m = b at *
  have HB := Lib.hid hb
  clear hb
  have HG := Lib.hid hg
  clear hg
  have HT := Lib.hid ht
  clear ht
  have d1 : decide (w < 1) = true := decide_eq_true (by omega)
  go_enter Try.func12, Try.ntmps12
  go_wp2_with (go_at_call 18; refine (bits_any _ _).mono ?_; rw [HB.out]; rintro e w' ⟨rfl, rfl⟩)
  have hbb : Below (wd.alloc (.cells #[.int .i64 W, .int .i64 H, .slice A n c] 24)).heap.size (wd.alloc (.cells #[.int .i64 W, .int .i64 H, .slice A n c] 24)) ((wd.alloc (.cells #[.int .i64 W, .int .i64 H, .slice A n c] 24)).alloc (.cells #[.int .i64 0, .int .i64 0, .slice none 0 0] 24)).drew := below_drew ((Below.refl _ _).alloc (Nat.le_refl _) _)
  have hnew : (wd.alloc (.cells #[.int .i64 W, .int .i64 H, .slice A n c] 24)).heap[wd.heap.size]? = some (.cells #[.int .i64 W, .int .i64 H, .slice A n c] 24 (0, 0)) := alloc_new _ _ _
  have q0 := pw_cell_below hbb (show (wd.alloc (.cells #[.int .i64 W, .int .i64 H, .slice A n c] 24)).cell? ⟨wd.heap.size, 0, none⟩ = some (.int .i64 W) by rw [cell_blk hnew]; rfl)
  have q1 := pw_cell_below hbb (show (wd.alloc (.cells #[.int .i64 W, .int .i64 H, .slice A n c] 24)).cell? ⟨wd.heap.size, 1, none⟩ = some (.int .i64 H) by rw [cell_blk hnew]; rfl)
  have q2 := pw_cell_below hbb (show (wd.alloc (.cells #[.int .i64 W, .int .i64 H, .slice A n c] 24)).cell? ⟨wd.heap.size, 2, none⟩ = some (.slice A n c) by rw [cell_blk hnew]; rfl)
  clear hnew
  have hres : ((wd.alloc (.cells #[.int .i64 W, .int .i64 H, .slice A n c] 24)).alloc (.cells #[.int .i64 0, .int .i64 0, .slice none 0 0] 24)).drew.heap[wd.heap.size + 1]? = some (.cells #[.int .i64 0, .int .i64 0, .slice none 0 0] 24 (0, 0)) := by
    have h := alloc_new (wd.alloc (.cells #[.int .i64 W, .int .i64 H, .slice A n c] 24)) #[.int .i64 0, .int .i64 0, .slice none 0 0] 24
    rw [World.size_alloc] at h; exact h
  have HRES := Lib.hid hres
  clear hres
  refine wp_region_noPanic ?_
  refine wp_region_held_drew (S := fun w' => w'.cell? ⟨wd.heap.size, 0, none⟩ = some (.int .i64 W) ∧ w'.cell? ⟨wd.heap.size, 1, none⟩ = some (.int .i64 H) ∧ w'.cell? ⟨wd.heap.size, 2, none⟩ = some (.slice A n c)) (by kernel_rfl) ⟨q0, q1, q2⟩ (fun hHeld => ?_)
  refine wpAnyH_take (i := 0) (oi := _) (v := ?_) (by simp only [List.getElem?_toArray, List.getElem?_cons_zero]; rfl) (by kernel_rfl) (by kernel_rfl) (by kernel_rfl) (fun _ _ _ h => h) (Or.inl ⟨by rfl, ?_⟩) hHeld ?_
  rotate_left 1
  · intro w hSw
    try dsimp only at hSw
    first | (go_simp; done) | (go_simp; with_reducible rfl)
  try simp only [Act.put, List.setIfInBounds_toArray, List.set_cons_zero, List.set_cons_succ]
  refine wpAnyH_ready (rs := [1]) (by kernel_rfl) (by simp) ?_
  refine AllReadyH.cons (o := _) (by simp only [List.getElem?_toArray, List.getElem?_cons_succ, List.getElem?_cons_zero]; rfl) (fun K hK => ?_) AllReadyH.nil
  go_simp
  refine (good_any W H A n c _).mono ?_
  rintro e w' ⟨rfl, hB⟩
  rw [HG.out]
  have HBG := Lib.hid hB
  clear hB
  refine hK.out _ _ ?_ (fun hHeld2 => ?_)
  · (try dsimp only)
    first | exact ⟨pw_cell_below HBG.out q0, pw_cell_below HBG.out q1, pw_cell_below HBG.out q2⟩ | exact hHeld | fail
  clear hK K hHeld
  have hHeld := hHeld2
  clear hHeld2
  try simp only [Act.put, List.setIfInBounds_toArray, List.set_cons_zero, List.set_cons_succ]
  refine wpAnyH_take (i := 2) (oi := _) (v := ?_) (by simp only [List.getElem?_toArray, List.getElem?_cons_succ, List.getElem?_cons_zero]; rfl) (by kernel_rfl) (by kernel_rfl) (by kernel_rfl) (fun _ _ _ h => h) (Or.inl ⟨by rfl, ?_⟩) hHeld ?_
  rotate_left 1
  · intro w hSw
    try dsimp only at hSw
    first | (go_simp; done) | (go_simp; with_reducible rfl)
  try simp only [Act.put, List.setIfInBounds_toArray, List.set_cons_zero, List.set_cons_succ]
  refine wpAnyH_take (i := 3) (oi := _) (v := ?_) (by simp only [List.getElem?_toArray, List.getElem?_cons_succ, List.getElem?_cons_zero]; rfl) (by kernel_rfl) (by kernel_rfl) (by kernel_rfl) (fun _ _ _ h => h) (Or.inl ⟨by rfl, ?_⟩) hHeld ?_
  rotate_left 1
  · intro w hSw
    try dsimp only at hSw
    first | (go_simp; done) | (go_simp; with_reducible rfl)
  try simp only [Act.put, List.setIfInBounds_toArray, List.set_cons_zero, List.set_cons_succ]
  refine wpAnyH_take (i := 4) (oi := _) (v := ?_) (by simp only [List.getElem?_toArray, List.getElem?_cons_succ, List.getElem?_cons_zero]; rfl) (by kernel_rfl) (by kernel_rfl) (by kernel_rfl) (fun _ _ _ h => h) (Or.inl ⟨by rfl, ?_⟩) hHeld ?_
  rotate_left 1
  · intro w hSw
    try dsimp only at hSw
    first | (go_simp; done) | (go_simp; with_reducible rfl)
  try simp only [Act.put, List.setIfInBounds_toArray, List.set_cons_zero, List.set_cons_succ]
  refine wpAnyH_ready (rs := [5]) (by kernel_rfl) (by simp) ?_
  refine AllReadyH.cons (o := _) (by simp only [List.getElem?_toArray, List.getElem?_cons_succ, List.getElem?_cons_zero]; rfl) (fun K hK => ?_) AllReadyH.nil
  go_simp
  refine (goodT_any B m d _).mono ?_
  rintro e w2' ⟨rfl, rfl⟩
  rw [HT.out]
  refine hK.out _ _ ?_ (fun hHeld2 => ?_)
  · (try dsimp only)
    first | exact ⟨pw_cell_below HBG.out q0, pw_cell_below HBG.out q1, pw_cell_below HBG.out q2⟩ | exact hHeld | fail
  clear hK K hHeld
  have hHeld := hHeld2
  clear hHeld2
  try simp only [Act.put, List.setIfInBounds_toArray, List.set_cons_zero, List.set_cons_succ]
  refine wpAnyH_take (i := 6) (oi := _) (v := ?_) (by simp only [List.getElem?_toArray, List.getElem?_cons_succ, List.getElem?_cons_zero]; rfl) (by kernel_rfl) (by kernel_rfl) (by kernel_rfl) (fun _ _ _ h => h) (Or.inl ⟨by rfl, ?_⟩) hHeld ?_
  rotate_left 1
  · intro w hSw
    try dsimp only at hSw
    first | (go_simp; done) | (go_simp; with_reducible rfl)
  try simp only [Act.put, List.setIfInBounds_toArray, List.set_cons_zero, List.set_cons_succ]
  refine wpAnyH_take (i := 7) (oi := _) (v := ?_) (by simp only [List.getElem?_toArray, List.getElem?_cons_succ, List.getElem?_cons_zero]; rfl) (by kernel_rfl) (by kernel_rfl) (by kernel_rfl) (fun _ _ _ h => h) (Or.inl ⟨by rfl, ?_⟩) hHeld ?_
  rotate_left 1
  · intro w hSw
    try dsimp only at hSw
    first | (go_simp; done) | (go_simp; with_reducible rfl)
  try simp only [Act.put, List.setIfInBounds_toArray, List.set_cons_zero, List.set_cons_succ]
  refine wpAnyH_take (i := 8) (oi := _) (v := ?_) (by simp only [List.getElem?_toArray, List.getElem?_cons_succ, List.getElem?_cons_zero]; rfl) (by kernel_rfl) (by kernel_rfl) (by kernel_rfl) (fun _ _ _ h => h) (Or.inl ⟨by rfl, ?_⟩) hHeld ?_
  rotate_left 1
  · intro w hSw
    try dsimp only at hSw
    first | (go_simp; done) | (go_simp; with_reducible rfl)
  try simp only [Act.put, List.setIfInBounds_toArray, List.set_cons_zero, List.set_cons_succ]
  refine wpAnyH_take (i := 9) (oi := _) (v := ?_) (by simp only [List.getElem?_toArray, List.getElem?_cons_succ, List.getElem?_cons_zero]; rfl) (by kernel_rfl) (by kernel_rfl) (by kernel_rfl) (fun _ _ _ h => h) (Or.inl ⟨by rfl, ?_⟩) hHeld ?_
  rotate_left 1
  · intro w hSw
    try dsimp only at hSw
    first | (go_simp; done) | (go_simp; with_reducible rfl)
  try simp only [Act.put, List.setIfInBounds_toArray, List.set_cons_zero, List.set_cons_succ]
  refine wpAnyH_take (i := 10) (oi := _) (v := ?_) (by simp only [List.getElem?_toArray, List.getElem?_cons_succ, List.getElem?_cons_zero]; rfl) (by kernel_rfl) (by kernel_rfl) (by kernel_rfl) (fun _ _ _ h => h) (Or.inl ⟨by rfl, ?_⟩) hHeld ?_
  rotate_left 1
  · intro w hSw
    try dsimp only at hSw
    first | (go_simp; done) | (go_simp; with_reducible rfl)
  try simp only [Act.put, List.setIfInBounds_toArray, List.set_cons_zero, List.set_cons_succ]
  refine wpAnyH_take (i := 11) (oi := _) (v := ?_) (by simp only [List.getElem?_toArray, List.getElem?_cons_succ, List.getElem?_cons_zero]; rfl) (by kernel_rfl) (by kernel_rfl) (by kernel_rfl) (fun _ _ _ h => h) (Or.inl ⟨by rfl, ?_⟩) hHeld ?_
  rotate_left 1
  · intro w hSw
    try dsimp only at hSw
    first | (go_simp; done) | (go_simp; with_reducible rfl)
  try simp only [Act.put, List.setIfInBounds_toArray, List.set_cons_zero, List.set_cons_succ]
  refine wpAnyH_take (i := 12) (oi := _) (v := ?_) (by simp only [List.getElem?_toArray, List.getElem?_cons_succ, List.getElem?_cons_zero]; rfl) (by kernel_rfl) (by kernel_rfl) (by kernel_rfl) (fun _ _ _ h => h) (Or.inl ⟨by rfl, ?_⟩) hHeld ?_
  rotate_left 1
  · intro w hSw
    try dsimp only at hSw
    first | (go_simp; done) | (go_simp; with_reducible rfl)
  try simp only [Act.put, List.setIfInBounds_toArray, List.set_cons_zero, List.set_cons_succ]
  refine wpAnyH_take (i := 13) (oi := _) (v := undef) (by simp only [List.getElem?_toArray, List.getElem?_cons_succ, List.getElem?_cons_zero]; rfl) (by kernel_rfl) (by kernel_rfl) (by kernel_rfl) (fun _ _ _ h => h) (Or.inr ⟨by rfl, rfl⟩) hHeld ?_
  try simp only [Act.put, List.setIfInBounds_toArray, List.set_cons_zero, List.set_cons_succ]
  refine wpAnyH_take (i := 14) (oi := _) (v := undef) (by simp only [List.getElem?_toArray, List.getElem?_cons_succ, List.getElem?_cons_zero]; rfl) (by kernel_rfl) (by kernel_rfl) (by kernel_rfl) (fun _ _ _ h => h) (Or.inr ⟨by rfl, rfl⟩) hHeld ?_
  try simp only [Act.put, List.setIfInBounds_toArray, List.set_cons_zero, List.set_cons_succ]
  refine wpAnyH_take (i := 15) (oi := _) (v := ?_) (by simp only [List.getElem?_toArray, List.getElem?_cons_succ, List.getElem?_cons_zero]; rfl) (by kernel_rfl) (by kernel_rfl) (by kernel_rfl) (fun _ _ _ h => h) (Or.inl ⟨by rfl, ?_⟩) hHeld ?_
  rotate_left 1
  · intro w hSw
    try dsimp only at hSw
    first | (go_simp; done) | (go_simp; with_reducible rfl)
  try simp only [Act.put, List.setIfInBounds_toArray, List.set_cons_zero, List.set_cons_succ]
  refine wpAnyH_take (i := 16) (oi := _) (v := ?_) (by simp only [List.getElem?_toArray, List.getElem?_cons_succ, List.getElem?_cons_zero]; rfl) (by kernel_rfl) (by kernel_rfl) (by kernel_rfl) (fun _ _ _ h => h) (Or.inl ⟨by rfl, ?_⟩) hHeld ?_
  rotate_left 1
  · intro w hSw
    try dsimp only at hSw
    first | (go_simp; done) | (go_simp; with_reducible rfl)
  try simp only [Act.put, List.setIfInBounds_toArray, List.set_cons_zero, List.set_cons_succ]
  refine wpAnyH_take (i := 17) (oi := _) (v := undef) (by simp only [List.getElem?_toArray, List.getElem?_cons_succ, List.getElem?_cons_zero]; rfl) (by kernel_rfl) (by kernel_rfl) (by kernel_rfl) (fun _ _ _ h => h) (Or.inr ⟨by rfl, rfl⟩) hHeld ?_
  try simp only [Act.put, List.setIfInBounds_toArray, List.set_cons_zero, List.set_cons_succ]
  refine wpAnyH_take (i := 18) (oi := _) (v := undef) (by simp only [List.getElem?_toArray, List.getElem?_cons_succ, List.getElem?_cons_zero]; rfl) (by kernel_rfl) (by kernel_rfl) (by kernel_rfl) (fun _ _ _ h => h) (Or.inr ⟨by rfl, rfl⟩) hHeld ?_
  try simp only [Act.put, List.setIfInBounds_toArray, List.set_cons_zero, List.set_cons_succ]
  refine wpAnyH_take (i := 20) (oi := _) (v := undef) (by simp only [List.getElem?_toArray, List.getElem?_cons_succ, List.getElem?_cons_zero]; rfl) (by kernel_rfl) (by kernel_rfl) (by kernel_rfl) (fun _ _ _ h => h) (Or.inr ⟨by rfl, rfl⟩) hHeld ?_
  try simp only [Act.put, List.setIfInBounds_toArray, List.set_cons_zero, List.set_cons_succ]
  refine wpAnyH_take (i := 21) (oi := _) (v := undef) (by simp only [List.getElem?_toArray, List.getElem?_cons_succ, List.getElem?_cons_zero]; rfl) (by kernel_rfl) (by kernel_rfl) (by kernel_rfl) (fun _ _ _ h => h) (Or.inr ⟨by rfl, rfl⟩) hHeld ?_
  try simp only [Act.put, List.setIfInBounds_toArray, List.set_cons_zero, List.set_cons_succ]
  refine wpAnyH_take (i := 19) (oi := _) (v := undef) (by simp only [List.getElem?_toArray, List.getElem?_cons_succ, List.getElem?_cons_zero]; rfl) (by kernel_rfl) (by kernel_rfl) (by kernel_rfl) (fun _ _ _ h => h) (Or.inr ⟨by rfl, rfl⟩) hHeld ?_
  try simp only [Act.put, List.setIfInBounds_toArray, List.set_cons_zero, List.set_cons_succ]
  refine wpAnyH_take (i := 22) (oi := _) (v := undef) (by simp only [List.getElem?_toArray, List.getElem?_cons_succ, List.getElem?_cons_zero]; rfl) (by kernel_rfl) (by kernel_rfl) (by kernel_rfl) (fun _ _ _ h => h) (Or.inr ⟨by rfl, rfl⟩) hHeld ?_
  try simp only [Act.put, List.setIfInBounds_toArray, List.set_cons_zero, List.set_cons_succ]
  refine wpAnyH_take (i := 23) (oi := _) (v := ?_) (by simp only [List.getElem?_toArray, List.getElem?_cons_succ, List.getElem?_cons_zero]; rfl) (by kernel_rfl) (by kernel_rfl) (by kernel_rfl) (fun _ _ _ h => h) (Or.inl ⟨by rfl, ?_⟩) hHeld ?_
  rotate_left 1
  · intro w hSw
    try dsimp only at hSw
    first | (go_simp; done) | (go_simp; with_reducible rfl)
  try simp only [Act.put, List.setIfInBounds_toArray, List.set_cons_zero, List.set_cons_succ]
  refine wpAnyH_done (by kernel_rfl) ?_ _
  refine NoPanic.normal ?_
  have HPX := Lib.hid ((Mods.of_below HBG.out []).blk HRES.out (by simp))
  have HBW := Lib.hid (show Below wd.heap.size wd w' from below_then (below_drew (((Below.refl _ wd).alloc (Nat.le_refl _) _).alloc (by simp) _)) (by simp [World.drew] <;> omega) HBG.out)
  obtain ⟨u0, u1, u2, f0, f1, f2⟩ := box3 HPX.out
  go_wp2_with fail
  refine bodyPost_ret (results_box rfl _ _ _ _ _ _ _ rfl (blk_set3 HPX.out _ _ _) Try.underlying24 rfl size_image) rfl ?_
  exact ⟨rfl, below_box HBW.out (by omega) _ _ _⟩

set_option maxRecDepth 100000 in
set_option maxHeartbeats 4000000 in
theorem unpack_bad4 (W H w : Int) (A B : Option Addr) (n c m d : Nat) (wd : World) (_hm0 : (m : Int) ≤ 9223372036854775807) (hg : goodI W H n = true) (ht : goodT m = true) (hw : 16384 < w) : Calls Try.prog 12 #[.agg #[.int .i64 W, .int .i64 H, .slice A n c], .slice B m d, .int .i64 w] wd fun e w' =>
    e = .returned (.tuple #[.agg #[.int .i64 0, .int .i64 0, .slice none 0 0], .int .i64 1]) ∧ Below wd.heap.size wd w' := by
  have hbt := bitsT_le m
  generalize hb : bitsT m = b at *
  have HB := Lib.hid hb
  clear hb
  have HG := Lib.hid hg
  clear hg
  have HT := Lib.hid ht
  clear ht
  have d1 : decide (w < 1) = false := decide_eq_false (by omega)
  have d2 : decide (16384 < w) = true := decide_eq_true (by omega)
  go_enter Try.func12, Try.ntmps12
  go_wp2_with (go_at_call 18; refine (bits_any _ _).mono ?_; rw [HB.out]; rintro e w' ⟨rfl, rfl⟩)
  have hbb : Below (wd.alloc (.cells #[.int .i64 W, .int .i64 H, .slice A n c] 24)).heap.size (wd.alloc (.cells #[.int .i64 W, .int .i64 H, .slice A n c] 24)) ((wd.alloc (.cells #[.int .i64 W, .int .i64 H, .slice A n c] 24)).alloc (.cells #[.int .i64 0, .int .i64 0, .slice none 0 0] 24)).drew := below_drew ((Below.refl _ _).alloc (Nat.le_refl _) _)
  have hnew : (wd.alloc (.cells #[.int .i64 W, .int .i64 H, .slice A n c] 24)).heap[wd.heap.size]? = some (.cells #[.int .i64 W, .int .i64 H, .slice A n c] 24 (0, 0)) := alloc_new _ _ _
  have q0 := pw_cell_below hbb (show (wd.alloc (.cells #[.int .i64 W, .int .i64 H, .slice A n c] 24)).cell? ⟨wd.heap.size, 0, none⟩ = some (.int .i64 W) by rw [cell_blk hnew]; rfl)
  have q1 := pw_cell_below hbb (show (wd.alloc (.cells #[.int .i64 W, .int .i64 H, .slice A n c] 24)).cell? ⟨wd.heap.size, 1, none⟩ = some (.int .i64 H) by rw [cell_blk hnew]; rfl)
  have q2 := pw_cell_below hbb (show (wd.alloc (.cells #[.int .i64 W, .int .i64 H, .slice A n c] 24)).cell? ⟨wd.heap.size, 2, none⟩ = some (.slice A n c) by rw [cell_blk hnew]; rfl)
  clear hnew
  have hres : ((wd.alloc (.cells #[.int .i64 W, .int .i64 H, .slice A n c] 24)).alloc (.cells #[.int .i64 0, .int .i64 0, .slice none 0 0] 24)).drew.heap[wd.heap.size + 1]? = some (.cells #[.int .i64 0, .int .i64 0, .slice none 0 0] 24 (0, 0)) := by
    have h := alloc_new (wd.alloc (.cells #[.int .i64 W, .int .i64 H, .slice A n c] 24)) #[.int .i64 0, .int .i64 0, .slice none 0 0] 24
    rw [World.size_alloc] at h; exact h
  have HRES := Lib.hid hres
  clear hres
  refine wp_region_noPanic ?_
  refine wp_region_held_drew (S := fun w' => w'.cell? ⟨wd.heap.size, 0, none⟩ = some (.int .i64 W) ∧ w'.cell? ⟨wd.heap.size, 1, none⟩ = some (.int .i64 H) ∧ w'.cell? ⟨wd.heap.size, 2, none⟩ = some (.slice A n c)) (by kernel_rfl) ⟨q0, q1, q2⟩ (fun hHeld => ?_)
  refine wpAnyH_take (i := 0) (oi := _) (v := ?_) (by simp only [List.getElem?_toArray, List.getElem?_cons_zero]; rfl) (by kernel_rfl) (by kernel_rfl) (by kernel_rfl) (fun _ _ _ h => h) (Or.inl ⟨by rfl, ?_⟩) hHeld ?_
  rotate_left 1
  · intro w hSw
    try dsimp only at hSw
    first | (go_simp; done) | (go_simp; with_reducible rfl)
  try simp only [Act.put, List.setIfInBounds_toArray, List.set_cons_zero, List.set_cons_succ]
  refine wpAnyH_ready (rs := [1]) (by kernel_rfl) (by simp) ?_
  refine AllReadyH.cons (o := _) (by simp only [List.getElem?_toArray, List.getElem?_cons_succ, List.getElem?_cons_zero]; rfl) (fun K hK => ?_) AllReadyH.nil
  go_simp
  refine (good_any W H A n c _).mono ?_
  rintro e w' ⟨rfl, hB⟩
  rw [HG.out]
  have HBG := Lib.hid hB
  clear hB
  refine hK.out _ _ ?_ (fun hHeld2 => ?_)
  · (try dsimp only)
    first | exact ⟨pw_cell_below HBG.out q0, pw_cell_below HBG.out q1, pw_cell_below HBG.out q2⟩ | exact hHeld | fail
  clear hK K hHeld
  have hHeld := hHeld2
  clear hHeld2
  try simp only [Act.put, List.setIfInBounds_toArray, List.set_cons_zero, List.set_cons_succ]
  refine wpAnyH_take (i := 2) (oi := _) (v := ?_) (by simp only [List.getElem?_toArray, List.getElem?_cons_succ, List.getElem?_cons_zero]; rfl) (by kernel_rfl) (by kernel_rfl) (by kernel_rfl) (fun _ _ _ h => h) (Or.inl ⟨by rfl, ?_⟩) hHeld ?_
  rotate_left 1
  · intro w hSw
    try dsimp only at hSw
    first | (go_simp; done) | (go_simp; with_reducible rfl)
  try simp only [Act.put, List.setIfInBounds_toArray, List.set_cons_zero, List.set_cons_succ]
  refine wpAnyH_take (i := 3) (oi := _) (v := ?_) (by simp only [List.getElem?_toArray, List.getElem?_cons_succ, List.getElem?_cons_zero]; rfl) (by kernel_rfl) (by kernel_rfl) (by kernel_rfl) (fun _ _ _ h => h) (Or.inl ⟨by rfl, ?_⟩) hHeld ?_
  rotate_left 1
  · intro w hSw
    try dsimp only at hSw
    first | (go_simp; done) | (go_simp; with_reducible rfl)
  try simp only [Act.put, List.setIfInBounds_toArray, List.set_cons_zero, List.set_cons_succ]
  refine wpAnyH_take (i := 4) (oi := _) (v := ?_) (by simp only [List.getElem?_toArray, List.getElem?_cons_succ, List.getElem?_cons_zero]; rfl) (by kernel_rfl) (by kernel_rfl) (by kernel_rfl) (fun _ _ _ h => h) (Or.inl ⟨by rfl, ?_⟩) hHeld ?_
  rotate_left 1
  · intro w hSw
    try dsimp only at hSw
    first | (go_simp; done) | (go_simp; with_reducible rfl)
  try simp only [Act.put, List.setIfInBounds_toArray, List.set_cons_zero, List.set_cons_succ]
  refine wpAnyH_ready (rs := [5]) (by kernel_rfl) (by simp) ?_
  refine AllReadyH.cons (o := _) (by simp only [List.getElem?_toArray, List.getElem?_cons_succ, List.getElem?_cons_zero]; rfl) (fun K hK => ?_) AllReadyH.nil
  go_simp
  refine (goodT_any B m d _).mono ?_
  rintro e w2' ⟨rfl, rfl⟩
  rw [HT.out]
  refine hK.out _ _ ?_ (fun hHeld2 => ?_)
  · (try dsimp only)
    first | exact ⟨pw_cell_below HBG.out q0, pw_cell_below HBG.out q1, pw_cell_below HBG.out q2⟩ | exact hHeld | fail
  clear hK K hHeld
  have hHeld := hHeld2
  clear hHeld2
  try simp only [Act.put, List.setIfInBounds_toArray, List.set_cons_zero, List.set_cons_succ]
  refine wpAnyH_take (i := 6) (oi := _) (v := ?_) (by simp only [List.getElem?_toArray, List.getElem?_cons_succ, List.getElem?_cons_zero]; rfl) (by kernel_rfl) (by kernel_rfl) (by kernel_rfl) (fun _ _ _ h => h) (Or.inl ⟨by rfl, ?_⟩) hHeld ?_
  rotate_left 1
  · intro w hSw
    try dsimp only at hSw
    first | (go_simp; done) | (go_simp; with_reducible rfl)
  try simp only [Act.put, List.setIfInBounds_toArray, List.set_cons_zero, List.set_cons_succ]
  refine wpAnyH_take (i := 7) (oi := _) (v := ?_) (by simp only [List.getElem?_toArray, List.getElem?_cons_succ, List.getElem?_cons_zero]; rfl) (by kernel_rfl) (by kernel_rfl) (by kernel_rfl) (fun _ _ _ h => h) (Or.inl ⟨by rfl, ?_⟩) hHeld ?_
  rotate_left 1
  · intro w hSw
    try dsimp only at hSw
    first | (go_simp; done) | (go_simp; with_reducible rfl)
  try simp only [Act.put, List.setIfInBounds_toArray, List.set_cons_zero, List.set_cons_succ]
  refine wpAnyH_take (i := 8) (oi := _) (v := ?_) (by simp only [List.getElem?_toArray, List.getElem?_cons_succ, List.getElem?_cons_zero]; rfl) (by kernel_rfl) (by kernel_rfl) (by kernel_rfl) (fun _ _ _ h => h) (Or.inl ⟨by rfl, ?_⟩) hHeld ?_
  rotate_left 1
  · intro w hSw
    try dsimp only at hSw
    first | (go_simp; done) | (go_simp; with_reducible rfl)
  try simp only [Act.put, List.setIfInBounds_toArray, List.set_cons_zero, List.set_cons_succ]
  refine wpAnyH_take (i := 9) (oi := _) (v := ?_) (by simp only [List.getElem?_toArray, List.getElem?_cons_succ, List.getElem?_cons_zero]; rfl) (by kernel_rfl) (by kernel_rfl) (by kernel_rfl) (fun _ _ _ h => h) (Or.inl ⟨by rfl, ?_⟩) hHeld ?_
  rotate_left 1
  · intro w hSw
    try dsimp only at hSw
    first | (go_simp; done) | (go_simp; with_reducible rfl)
  try simp only [Act.put, List.setIfInBounds_toArray, List.set_cons_zero, List.set_cons_succ]
  refine wpAnyH_take (i := 10) (oi := _) (v := ?_) (by simp only [List.getElem?_toArray, List.getElem?_cons_succ, List.getElem?_cons_zero]; rfl) (by kernel_rfl) (by kernel_rfl) (by kernel_rfl) (fun _ _ _ h => h) (Or.inl ⟨by rfl, ?_⟩) hHeld ?_
  rotate_left 1
  · intro w hSw
    try dsimp only at hSw
    first | (go_simp; done) | (go_simp; with_reducible rfl)
  try simp only [Act.put, List.setIfInBounds_toArray, List.set_cons_zero, List.set_cons_succ]
  refine wpAnyH_take (i := 11) (oi := _) (v := ?_) (by simp only [List.getElem?_toArray, List.getElem?_cons_succ, List.getElem?_cons_zero]; rfl) (by kernel_rfl) (by kernel_rfl) (by kernel_rfl) (fun _ _ _ h => h) (Or.inl ⟨by rfl, ?_⟩) hHeld ?_
  rotate_left 1
  · intro w hSw
    try dsimp only at hSw
    first | (go_simp; done) | (go_simp; with_reducible rfl)
  try simp only [Act.put, List.setIfInBounds_toArray, List.set_cons_zero, List.set_cons_succ]
  refine wpAnyH_take (i := 12) (oi := _) (v := ?_) (by simp only [List.getElem?_toArray, List.getElem?_cons_succ, List.getElem?_cons_zero]; rfl) (by kernel_rfl) (by kernel_rfl) (by kernel_rfl) (fun _ _ _ h => h) (Or.inl ⟨by rfl, ?_⟩) hHeld ?_
  rotate_left 1
  · intro w hSw
    try dsimp only at hSw
    first | (go_simp; done) | (go_simp; with_reducible rfl)
  try simp only [Act.put, List.setIfInBounds_toArray, List.set_cons_zero, List.set_cons_succ]
  refine wpAnyH_take (i := 13) (oi := _) (v := ?_) (by simp only [List.getElem?_toArray, List.getElem?_cons_succ, List.getElem?_cons_zero]; rfl) (by kernel_rfl) (by kernel_rfl) (by kernel_rfl) (fun _ _ _ h => h) (Or.inl ⟨by rfl, ?_⟩) hHeld ?_
  rotate_left 1
  · intro w hSw
    try dsimp only at hSw
    first | (go_simp; done) | (go_simp; with_reducible rfl)
  try simp only [Act.put, List.setIfInBounds_toArray, List.set_cons_zero, List.set_cons_succ]
  refine wpAnyH_take (i := 14) (oi := _) (v := ?_) (by simp only [List.getElem?_toArray, List.getElem?_cons_succ, List.getElem?_cons_zero]; rfl) (by kernel_rfl) (by kernel_rfl) (by kernel_rfl) (fun _ _ _ h => h) (Or.inl ⟨by rfl, ?_⟩) hHeld ?_
  rotate_left 1
  · intro w hSw
    try dsimp only at hSw
    first | (go_simp; done) | (go_simp; with_reducible rfl)
  try simp only [Act.put, List.setIfInBounds_toArray, List.set_cons_zero, List.set_cons_succ]
  refine wpAnyH_take (i := 15) (oi := _) (v := ?_) (by simp only [List.getElem?_toArray, List.getElem?_cons_succ, List.getElem?_cons_zero]; rfl) (by kernel_rfl) (by kernel_rfl) (by kernel_rfl) (fun _ _ _ h => h) (Or.inl ⟨by rfl, ?_⟩) hHeld ?_
  rotate_left 1
  · intro w hSw
    try dsimp only at hSw
    first | (go_simp; done) | (go_simp; with_reducible rfl)
  try simp only [Act.put, List.setIfInBounds_toArray, List.set_cons_zero, List.set_cons_succ]
  refine wpAnyH_take (i := 16) (oi := _) (v := ?_) (by simp only [List.getElem?_toArray, List.getElem?_cons_succ, List.getElem?_cons_zero]; rfl) (by kernel_rfl) (by kernel_rfl) (by kernel_rfl) (fun _ _ _ h => h) (Or.inl ⟨by rfl, ?_⟩) hHeld ?_
  rotate_left 1
  · intro w hSw
    try dsimp only at hSw
    first | (go_simp; done) | (go_simp; with_reducible rfl)
  try simp only [Act.put, List.setIfInBounds_toArray, List.set_cons_zero, List.set_cons_succ]
  refine wpAnyH_take (i := 17) (oi := _) (v := undef) (by simp only [List.getElem?_toArray, List.getElem?_cons_succ, List.getElem?_cons_zero]; rfl) (by kernel_rfl) (by kernel_rfl) (by kernel_rfl) (fun _ _ _ h => h) (Or.inr ⟨by rfl, rfl⟩) hHeld ?_
  try simp only [Act.put, List.setIfInBounds_toArray, List.set_cons_zero, List.set_cons_succ]
  refine wpAnyH_take (i := 18) (oi := _) (v := undef) (by simp only [List.getElem?_toArray, List.getElem?_cons_succ, List.getElem?_cons_zero]; rfl) (by kernel_rfl) (by kernel_rfl) (by kernel_rfl) (fun _ _ _ h => h) (Or.inr ⟨by rfl, rfl⟩) hHeld ?_
  try simp only [Act.put, List.setIfInBounds_toArray, List.set_cons_zero, List.set_cons_succ]
  refine wpAnyH_take (i := 20) (oi := _) (v := undef) (by simp only [List.getElem?_toArray, List.getElem?_cons_succ, List.getElem?_cons_zero]; rfl) (by kernel_rfl) (by kernel_rfl) (by kernel_rfl) (fun _ _ _ h => h) (Or.inr ⟨by rfl, rfl⟩) hHeld ?_
  try simp only [Act.put, List.setIfInBounds_toArray, List.set_cons_zero, List.set_cons_succ]
  refine wpAnyH_take (i := 21) (oi := _) (v := undef) (by simp only [List.getElem?_toArray, List.getElem?_cons_succ, List.getElem?_cons_zero]; rfl) (by kernel_rfl) (by kernel_rfl) (by kernel_rfl) (fun _ _ _ h => h) (Or.inr ⟨by rfl, rfl⟩) hHeld ?_
  try simp only [Act.put, List.setIfInBounds_toArray, List.set_cons_zero, List.set_cons_succ]
  refine wpAnyH_take (i := 19) (oi := _) (v := undef) (by simp only [List.getElem?_toArray, List.getElem?_cons_succ, List.getElem?_cons_zero]; rfl) (by kernel_rfl) (by kernel_rfl) (by kernel_rfl) (fun _ _ _ h => h) (Or.inr ⟨by rfl, rfl⟩) hHeld ?_
  try simp only [Act.put, List.setIfInBounds_toArray, List.set_cons_zero, List.set_cons_succ]
  refine wpAnyH_take (i := 22) (oi := _) (v := undef) (by simp only [List.getElem?_toArray, List.getElem?_cons_succ, List.getElem?_cons_zero]; rfl) (by kernel_rfl) (by kernel_rfl) (by kernel_rfl) (fun _ _ _ h => h) (Or.inr ⟨by rfl, rfl⟩) hHeld ?_
  try simp only [Act.put, List.setIfInBounds_toArray, List.set_cons_zero, List.set_cons_succ]
  refine wpAnyH_take (i := 23) (oi := _) (v := ?_) (by simp only [List.getElem?_toArray, List.getElem?_cons_succ, List.getElem?_cons_zero]; rfl) (by kernel_rfl) (by kernel_rfl) (by kernel_rfl) (fun _ _ _ h => h) (Or.inl ⟨by rfl, ?_⟩) hHeld ?_
  rotate_left 1
  · intro w hSw
    try dsimp only at hSw
    first | (go_simp; done) | (go_simp; with_reducible rfl)
  try simp only [Act.put, List.setIfInBounds_toArray, List.set_cons_zero, List.set_cons_succ]
  refine wpAnyH_done (by kernel_rfl) ?_ _
  refine NoPanic.normal ?_
  have HPX := Lib.hid ((Mods.of_below HBG.out []).blk HRES.out (by simp))
  have HBW := Lib.hid (show Below wd.heap.size wd w' from below_then (below_drew (((Below.refl _ wd).alloc (Nat.le_refl _) _).alloc (by simp) _)) (by simp [World.drew] <;> omega) HBG.out)
  obtain ⟨u0, u1, u2, f0, f1, f2⟩ := box3 HPX.out
  go_wp2_with fail
  refine bodyPost_ret (results_box rfl _ _ _ _ _ _ _ rfl (blk_set3 HPX.out _ _ _) Try.underlying24 rfl size_image) rfl ?_
  exact ⟨rfl, below_box HBW.out (by omega) _ _ _⟩

set_option maxRecDepth 100000 in
set_option maxHeartbeats 4000000 in
theorem unpack_bad5 (W H w : Int) (A B : Option Addr) (n c m d : Nat) (wd : World) (_hm0 : (m : Int) ≤ 9223372036854775807) (hg : goodI W H n = true) (ht : goodT m = true) (hw : 1 ≤ w) (hw2 : w ≤ 16384) (hne : blocksI w (bitsT m) ≠ W) : Calls Try.prog 12 #[.agg #[.int .i64 W, .int .i64 H, .slice A n c], .slice B m d, .int .i64 w] wd fun e w' =>
    e = .returned (.tuple #[.agg #[.int .i64 0, .int .i64 0, .slice none 0 0], .int .i64 1]) ∧ Below wd.heap.size wd w' := by
  have hbt := bitsT_le m
  generalize hb : bitsT m = b at *
  have HB := Lib.hid hb
  clear hb
  have HG := Lib.hid hg
  clear hg
  have HT := Lib.hid ht
  clear ht
  have d1 : decide (w < 1) = false := decide_eq_false (by omega)
  have d2 : decide (16384 < w) = false := decide_eq_false (by omega)
  have hbn : (blocksI w b == W) = false := by simpa using hne
  clear hne
  go_enter Try.func12, Try.ntmps12
  go_wp2_with (go_at_call 18; refine (bits_any _ _).mono ?_; rw [HB.out]; rintro e w' ⟨rfl, rfl⟩)
  have hbb : Below (wd.alloc (.cells #[.int .i64 W, .int .i64 H, .slice A n c] 24)).heap.size (wd.alloc (.cells #[.int .i64 W, .int .i64 H, .slice A n c] 24)) ((wd.alloc (.cells #[.int .i64 W, .int .i64 H, .slice A n c] 24)).alloc (.cells #[.int .i64 0, .int .i64 0, .slice none 0 0] 24)).drew := below_drew ((Below.refl _ _).alloc (Nat.le_refl _) _)
  have hnew : (wd.alloc (.cells #[.int .i64 W, .int .i64 H, .slice A n c] 24)).heap[wd.heap.size]? = some (.cells #[.int .i64 W, .int .i64 H, .slice A n c] 24 (0, 0)) := alloc_new _ _ _
  have q0 := pw_cell_below hbb (show (wd.alloc (.cells #[.int .i64 W, .int .i64 H, .slice A n c] 24)).cell? ⟨wd.heap.size, 0, none⟩ = some (.int .i64 W) by rw [cell_blk hnew]; rfl)
  have q1 := pw_cell_below hbb (show (wd.alloc (.cells #[.int .i64 W, .int .i64 H, .slice A n c] 24)).cell? ⟨wd.heap.size, 1, none⟩ = some (.int .i64 H) by rw [cell_blk hnew]; rfl)
  have q2 := pw_cell_below hbb (show (wd.alloc (.cells #[.int .i64 W, .int .i64 H, .slice A n c] 24)).cell? ⟨wd.heap.size, 2, none⟩ = some (.slice A n c) by rw [cell_blk hnew]; rfl)
  clear hnew
  have hres : ((wd.alloc (.cells #[.int .i64 W, .int .i64 H, .slice A n c] 24)).alloc (.cells #[.int .i64 0, .int .i64 0, .slice none 0 0] 24)).drew.heap[wd.heap.size + 1]? = some (.cells #[.int .i64 0, .int .i64 0, .slice none 0 0] 24 (0, 0)) := by
    have h := alloc_new (wd.alloc (.cells #[.int .i64 W, .int .i64 H, .slice A n c] 24)) #[.int .i64 0, .int .i64 0, .slice none 0 0] 24
    rw [World.size_alloc] at h; exact h
  have HRES := Lib.hid hres
  clear hres
  refine wp_region_noPanic ?_
  refine wp_region_held_drew (S := fun w' => w'.cell? ⟨wd.heap.size, 0, none⟩ = some (.int .i64 W) ∧ w'.cell? ⟨wd.heap.size, 1, none⟩ = some (.int .i64 H) ∧ w'.cell? ⟨wd.heap.size, 2, none⟩ = some (.slice A n c)) (by kernel_rfl) ⟨q0, q1, q2⟩ (fun hHeld => ?_)
  refine wpAnyH_take (i := 0) (oi := _) (v := ?_) (by simp only [List.getElem?_toArray, List.getElem?_cons_zero]; rfl) (by kernel_rfl) (by kernel_rfl) (by kernel_rfl) (fun _ _ _ h => h) (Or.inl ⟨by rfl, ?_⟩) hHeld ?_
  rotate_left 1
  · intro w hSw
    try dsimp only at hSw
    first | (go_simp; done) | (go_simp; with_reducible rfl)
  try simp only [Act.put, List.setIfInBounds_toArray, List.set_cons_zero, List.set_cons_succ]
  refine wpAnyH_ready (rs := [1]) (by kernel_rfl) (by simp) ?_
  refine AllReadyH.cons (o := _) (by simp only [List.getElem?_toArray, List.getElem?_cons_succ, List.getElem?_cons_zero]; rfl) (fun K hK => ?_) AllReadyH.nil
  go_simp
  refine (good_any W H A n c _).mono ?_
  rintro e w' ⟨rfl, hB⟩
  rw [HG.out]
  have HBG := Lib.hid hB
  clear hB
  refine hK.out _ _ ?_ (fun hHeld2 => ?_)
  · (try dsimp only)
    first | exact ⟨pw_cell_below HBG.out q0, pw_cell_below HBG.out q1, pw_cell_below HBG.out q2⟩ | exact hHeld | fail
  clear hK K hHeld
  have hHeld := hHeld2
  clear hHeld2
  try simp only [Act.put, List.setIfInBounds_toArray, List.set_cons_zero, List.set_cons_succ]
  refine wpAnyH_take (i := 2) (oi := _) (v := ?_) (by simp only [List.getElem?_toArray, List.getElem?_cons_succ, List.getElem?_cons_zero]; rfl) (by kernel_rfl) (by kernel_rfl) (by kernel_rfl) (fun _ _ _ h => h) (Or.inl ⟨by rfl, ?_⟩) hHeld ?_
  rotate_left 1
  · intro w hSw
    try dsimp only at hSw
    first | (go_simp; done) | (go_simp; with_reducible rfl)
  try simp only [Act.put, List.setIfInBounds_toArray, List.set_cons_zero, List.set_cons_succ]
  refine wpAnyH_take (i := 3) (oi := _) (v := ?_) (by simp only [List.getElem?_toArray, List.getElem?_cons_succ, List.getElem?_cons_zero]; rfl) (by kernel_rfl) (by kernel_rfl) (by kernel_rfl) (fun _ _ _ h => h) (Or.inl ⟨by rfl, ?_⟩) hHeld ?_
  rotate_left 1
  · intro w hSw
    try dsimp only at hSw
    first | (go_simp; done) | (go_simp; with_reducible rfl)
  try simp only [Act.put, List.setIfInBounds_toArray, List.set_cons_zero, List.set_cons_succ]
  refine wpAnyH_take (i := 4) (oi := _) (v := ?_) (by simp only [List.getElem?_toArray, List.getElem?_cons_succ, List.getElem?_cons_zero]; rfl) (by kernel_rfl) (by kernel_rfl) (by kernel_rfl) (fun _ _ _ h => h) (Or.inl ⟨by rfl, ?_⟩) hHeld ?_
  rotate_left 1
  · intro w hSw
    try dsimp only at hSw
    first | (go_simp; done) | (go_simp; with_reducible rfl)
  try simp only [Act.put, List.setIfInBounds_toArray, List.set_cons_zero, List.set_cons_succ]
  refine wpAnyH_ready (rs := [5]) (by kernel_rfl) (by simp) ?_
  refine AllReadyH.cons (o := _) (by simp only [List.getElem?_toArray, List.getElem?_cons_succ, List.getElem?_cons_zero]; rfl) (fun K hK => ?_) AllReadyH.nil
  go_simp
  refine (goodT_any B m d _).mono ?_
  rintro e w2' ⟨rfl, rfl⟩
  rw [HT.out]
  refine hK.out _ _ ?_ (fun hHeld2 => ?_)
  · (try dsimp only)
    first | exact ⟨pw_cell_below HBG.out q0, pw_cell_below HBG.out q1, pw_cell_below HBG.out q2⟩ | exact hHeld | fail
  clear hK K hHeld
  have hHeld := hHeld2
  clear hHeld2
  try simp only [Act.put, List.setIfInBounds_toArray, List.set_cons_zero, List.set_cons_succ]
  refine wpAnyH_take (i := 6) (oi := _) (v := ?_) (by simp only [List.getElem?_toArray, List.getElem?_cons_succ, List.getElem?_cons_zero]; rfl) (by kernel_rfl) (by kernel_rfl) (by kernel_rfl) (fun _ _ _ h => h) (Or.inl ⟨by rfl, ?_⟩) hHeld ?_
  rotate_left 1
  · intro w hSw
    try dsimp only at hSw
    first | (go_simp; done) | (go_simp; with_reducible rfl)
  try simp only [Act.put, List.setIfInBounds_toArray, List.set_cons_zero, List.set_cons_succ]
  refine wpAnyH_take (i := 7) (oi := _) (v := ?_) (by simp only [List.getElem?_toArray, List.getElem?_cons_succ, List.getElem?_cons_zero]; rfl) (by kernel_rfl) (by kernel_rfl) (by kernel_rfl) (fun _ _ _ h => h) (Or.inl ⟨by rfl, ?_⟩) hHeld ?_
  rotate_left 1
  · intro w hSw
    try dsimp only at hSw
    first | (go_simp; done) | (go_simp; with_reducible rfl)
  try simp only [Act.put, List.setIfInBounds_toArray, List.set_cons_zero, List.set_cons_succ]
  refine wpAnyH_take (i := 8) (oi := _) (v := ?_) (by simp only [List.getElem?_toArray, List.getElem?_cons_succ, List.getElem?_cons_zero]; rfl) (by kernel_rfl) (by kernel_rfl) (by kernel_rfl) (fun _ _ _ h => h) (Or.inl ⟨by rfl, ?_⟩) hHeld ?_
  rotate_left 1
  · intro w hSw
    try dsimp only at hSw
    first | (go_simp; done) | (go_simp; with_reducible rfl)
  try simp only [Act.put, List.setIfInBounds_toArray, List.set_cons_zero, List.set_cons_succ]
  refine wpAnyH_take (i := 9) (oi := _) (v := ?_) (by simp only [List.getElem?_toArray, List.getElem?_cons_succ, List.getElem?_cons_zero]; rfl) (by kernel_rfl) (by kernel_rfl) (by kernel_rfl) (fun _ _ _ h => h) (Or.inl ⟨by rfl, ?_⟩) hHeld ?_
  rotate_left 1
  · intro w hSw
    try dsimp only at hSw
    first | (go_simp; done) | (go_simp; with_reducible rfl)
  try simp only [Act.put, List.setIfInBounds_toArray, List.set_cons_zero, List.set_cons_succ]
  refine wpAnyH_take (i := 10) (oi := _) (v := ?_) (by simp only [List.getElem?_toArray, List.getElem?_cons_succ, List.getElem?_cons_zero]; rfl) (by kernel_rfl) (by kernel_rfl) (by kernel_rfl) (fun _ _ _ h => h) (Or.inl ⟨by rfl, ?_⟩) hHeld ?_
  rotate_left 1
  · intro w hSw
    try dsimp only at hSw
    first | (go_simp; done) | (go_simp; with_reducible rfl)
  try simp only [Act.put, List.setIfInBounds_toArray, List.set_cons_zero, List.set_cons_succ]
  refine wpAnyH_take (i := 11) (oi := _) (v := ?_) (by simp only [List.getElem?_toArray, List.getElem?_cons_succ, List.getElem?_cons_zero]; rfl) (by kernel_rfl) (by kernel_rfl) (by kernel_rfl) (fun _ _ _ h => h) (Or.inl ⟨by rfl, ?_⟩) hHeld ?_
  rotate_left 1
  · intro w hSw
    try dsimp only at hSw
    first | (go_simp; done) | (go_simp; with_reducible rfl)
  try simp only [Act.put, List.setIfInBounds_toArray, List.set_cons_zero, List.set_cons_succ]
  refine wpAnyH_take (i := 12) (oi := _) (v := ?_) (by simp only [List.getElem?_toArray, List.getElem?_cons_succ, List.getElem?_cons_zero]; rfl) (by kernel_rfl) (by kernel_rfl) (by kernel_rfl) (fun _ _ _ h => h) (Or.inl ⟨by rfl, ?_⟩) hHeld ?_
  rotate_left 1
  · intro w hSw
    try dsimp only at hSw
    first | (go_simp; done) | (go_simp; with_reducible rfl)
  try simp only [Act.put, List.setIfInBounds_toArray, List.set_cons_zero, List.set_cons_succ]
  refine wpAnyH_take (i := 13) (oi := _) (v := ?_) (by simp only [List.getElem?_toArray, List.getElem?_cons_succ, List.getElem?_cons_zero]; rfl) (by kernel_rfl) (by kernel_rfl) (by kernel_rfl) (fun _ _ _ h => h) (Or.inl ⟨by rfl, ?_⟩) hHeld ?_
  rotate_left 1
  · intro w hSw
    try dsimp only at hSw
    first | (go_simp; done) | (go_simp; with_reducible rfl)
  try simp only [Act.put, List.setIfInBounds_toArray, List.set_cons_zero, List.set_cons_succ]
  refine wpAnyH_take (i := 14) (oi := _) (v := ?_) (by simp only [List.getElem?_toArray, List.getElem?_cons_succ, List.getElem?_cons_zero]; rfl) (by kernel_rfl) (by kernel_rfl) (by kernel_rfl) (fun _ _ _ h => h) (Or.inl ⟨by rfl, ?_⟩) hHeld ?_
  rotate_left 1
  · intro w hSw
    try dsimp only at hSw
    first | (go_simp; done) | (go_simp; with_reducible rfl)
  try simp only [Act.put, List.setIfInBounds_toArray, List.set_cons_zero, List.set_cons_succ]
  refine wpAnyH_take (i := 15) (oi := _) (v := ?_) (by simp only [List.getElem?_toArray, List.getElem?_cons_succ, List.getElem?_cons_zero]; rfl) (by kernel_rfl) (by kernel_rfl) (by kernel_rfl) (fun _ _ _ h => h) (Or.inl ⟨by rfl, ?_⟩) hHeld ?_
  rotate_left 1
  · intro w hSw
    try dsimp only at hSw
    first | (go_simp; done) | (go_simp; with_reducible rfl)
  try simp only [Act.put, List.setIfInBounds_toArray, List.set_cons_zero, List.set_cons_succ]
  refine wpAnyH_take (i := 16) (oi := _) (v := ?_) (by simp only [List.getElem?_toArray, List.getElem?_cons_succ, List.getElem?_cons_zero]; rfl) (by kernel_rfl) (by kernel_rfl) (by kernel_rfl) (fun _ _ _ h => h) (Or.inl ⟨by rfl, ?_⟩) hHeld ?_
  rotate_left 1
  · intro w hSw
    try dsimp only at hSw
    first | (go_simp; done) | (go_simp; with_reducible rfl)
  try simp only [Act.put, List.setIfInBounds_toArray, List.set_cons_zero, List.set_cons_succ]
  refine wpAnyH_take (i := 17) (oi := _) (v := ?_) (by simp only [List.getElem?_toArray, List.getElem?_cons_succ, List.getElem?_cons_zero]; rfl) (by kernel_rfl) (by kernel_rfl) (by kernel_rfl) (fun _ _ _ h => h) (Or.inl ⟨by rfl, ?_⟩) hHeld ?_
  rotate_left 1
  · intro w hSw
    try dsimp only at hSw
    first | (go_simp; done) | (go_simp; with_reducible rfl)
  try simp only [Act.put, List.setIfInBounds_toArray, List.set_cons_zero, List.set_cons_succ]
  refine wpAnyH_take (i := 18) (oi := _) (v := ?_) (by simp only [List.getElem?_toArray, List.getElem?_cons_succ, List.getElem?_cons_zero]; rfl) (by kernel_rfl) (by kernel_rfl) (by kernel_rfl) (fun _ _ _ h => h) (Or.inl ⟨by rfl, ?_⟩) hHeld ?_
  rotate_left 1
  · intro w hSw
    try dsimp only at hSw
    first | (go_simp; done) | (go_simp; with_reducible rfl)
  try simp only [Act.put, List.setIfInBounds_toArray, List.set_cons_zero, List.set_cons_succ]
  refine wpAnyH_take (i := 20) (oi := _) (v := ?_) (by simp only [List.getElem?_toArray, List.getElem?_cons_succ, List.getElem?_cons_zero]; rfl) (by kernel_rfl) (by kernel_rfl) (by kernel_rfl) (fun _ _ _ h => h) (Or.inl ⟨by rfl, ?_⟩) hHeld ?_
  rotate_left 1
  · intro w hSw
    try dsimp only at hSw
    first | (go_simp; done) | (go_simp; with_reducible rfl)
  try simp only [Act.put, List.setIfInBounds_toArray, List.set_cons_zero, List.set_cons_succ]
  refine wpAnyH_take (i := 21) (oi := _) (v := ?_) (by simp only [List.getElem?_toArray, List.getElem?_cons_succ, List.getElem?_cons_zero]; rfl) (by kernel_rfl) (by kernel_rfl) (by kernel_rfl) (fun _ _ _ h => h) (Or.inl ⟨by rfl, ?_⟩) hHeld ?_
  rotate_left 1
  · intro w hSw
    try dsimp only at hSw
    first | (go_simp; done) | (go_simp; with_reducible rfl)
  try simp only [Act.put, List.setIfInBounds_toArray, List.set_cons_zero, List.set_cons_succ]
  refine wpAnyH_ready (rs := [19]) (by kernel_rfl) (by simp) ?_
  refine AllReadyH.cons (o := _) (by simp only [List.getElem?_toArray, List.getElem?_cons_succ, List.getElem?_cons_zero]; rfl) (fun K hK => ?_) AllReadyH.nil
  go_simp
  refine (blocks_any w b _ (by omega) (by omega) hbt).mono ?_
  rintro e w2' ⟨rfl, rfl⟩
  refine hK.out _ _ ?_ (fun hHeld2 => ?_)
  · (try dsimp only)
    first | exact ⟨pw_cell_below HBG.out q0, pw_cell_below HBG.out q1, pw_cell_below HBG.out q2⟩ | exact hHeld | fail
  clear hK K hHeld
  have hHeld := hHeld2
  clear hHeld2
  try simp only [Act.put, List.setIfInBounds_toArray, List.set_cons_zero, List.set_cons_succ]
  refine wpAnyH_take (i := 22) (oi := _) (v := ?_) (by simp only [List.getElem?_toArray, List.getElem?_cons_succ, List.getElem?_cons_zero]; rfl) (by kernel_rfl) (by kernel_rfl) (by kernel_rfl) (fun _ _ _ h => h) (Or.inl ⟨by rfl, ?_⟩) hHeld ?_
  rotate_left 1
  · intro w hSw
    try dsimp only at hSw
    first | (go_simp; done) | (go_simp; with_reducible rfl)
  try simp only [Act.put, List.setIfInBounds_toArray, List.set_cons_zero, List.set_cons_succ]
  refine wpAnyH_take (i := 23) (oi := _) (v := ?_) (by simp only [List.getElem?_toArray, List.getElem?_cons_succ, List.getElem?_cons_zero]; rfl) (by kernel_rfl) (by kernel_rfl) (by kernel_rfl) (fun _ _ _ h => h) (Or.inl ⟨by rfl, ?_⟩) hHeld ?_
  rotate_left 1
  · intro w hSw
    try dsimp only at hSw
    first | (go_simp; done) | (go_simp; with_reducible rfl)
  try simp only [Act.put, List.setIfInBounds_toArray, List.set_cons_zero, List.set_cons_succ]
  refine wpAnyH_done (by kernel_rfl) ?_ _
  refine NoPanic.normal ?_
  have HPX := Lib.hid ((Mods.of_below HBG.out []).blk HRES.out (by simp))
  have HBW := Lib.hid (show Below wd.heap.size wd w' from below_then (below_drew (((Below.refl _ wd).alloc (Nat.le_refl _) _).alloc (by simp) _)) (by simp [World.drew] <;> omega) HBG.out)
  obtain ⟨u0, u1, u2, f0, f1, f2⟩ := box3 HPX.out
  go_wp2_with fail
  refine bodyPost_ret (results_box rfl _ _ _ _ _ _ _ rfl (blk_set3 HPX.out _ _ _) Try.underlying24 rfl size_image) rfl ?_
  exact ⟨rfl, below_box HBW.out (by omega) _ _ _⟩

end Go.Proofs.Ytmgkdlkjcncniaa

/- the reference's Unpacked where something may not be. (Printed by genguard.py.) -/
namespace Go.Proofs.Ytmgkdlkjcncniaa
open Go.RowKit
open Go.Proofs.YtmgkdlkjcncniaaW.PrintWords

set_option maxRecDepth 100000 in
set_option maxHeartbeats 4000000 in
theorem refUnpacked_bad1 (W H w : Int) (A B : Option Addr) (n c m d : Nat) (wd : World) (_hm0 : (m : Int) ≤ 9223372036854775807) (hg : goodI W H n = false) : Calls Try.prog 13 #[.agg #[.int .i64 W, .int .i64 H, .slice A n c], .slice B m d, .int .i64 w] wd fun e w' =>
    e = .returned (.tuple #[.agg #[.int .i64 0, .int .i64 0, .slice none 0 0], .bool false]) ∧ Below wd.heap.size wd w' := by
  have hbt := bitsT_le m
  generalize hb : bitsT m = b at *
  have HB := Lib.hid hb
  clear hb
  have HG := Lib.hid hg
  clear hg
  go_enter Try.func13, Try.ntmps13
  go_wp2_with (go_at_call 19; refine (refPack_any _ _).mono ?_; rw [bitsZ_nat, HB.out]; rintro e w' ⟨rfl, rfl⟩)
  have hbb : Below (wd.alloc (.cells #[.int .i64 W, .int .i64 H, .slice A n c] 24)).heap.size (wd.alloc (.cells #[.int .i64 W, .int .i64 H, .slice A n c] 24)) ((wd.alloc (.cells #[.int .i64 W, .int .i64 H, .slice A n c] 24)).alloc (.cells #[.int .i64 0, .int .i64 0, .slice none 0 0] 24)).drew := below_drew ((Below.refl _ _).alloc (Nat.le_refl _) _)
  have hnew : (wd.alloc (.cells #[.int .i64 W, .int .i64 H, .slice A n c] 24)).heap[wd.heap.size]? = some (.cells #[.int .i64 W, .int .i64 H, .slice A n c] 24 (0, 0)) := alloc_new _ _ _
  have q0 := pw_cell_below hbb (show (wd.alloc (.cells #[.int .i64 W, .int .i64 H, .slice A n c] 24)).cell? ⟨wd.heap.size, 0, none⟩ = some (.int .i64 W) by rw [cell_blk hnew]; rfl)
  have q1 := pw_cell_below hbb (show (wd.alloc (.cells #[.int .i64 W, .int .i64 H, .slice A n c] 24)).cell? ⟨wd.heap.size, 1, none⟩ = some (.int .i64 H) by rw [cell_blk hnew]; rfl)
  have q2 := pw_cell_below hbb (show (wd.alloc (.cells #[.int .i64 W, .int .i64 H, .slice A n c] 24)).cell? ⟨wd.heap.size, 2, none⟩ = some (.slice A n c) by rw [cell_blk hnew]; rfl)
  clear hnew
  have hres : ((wd.alloc (.cells #[.int .i64 W, .int .i64 H, .slice A n c] 24)).alloc (.cells #[.int .i64 0, .int .i64 0, .slice none 0 0] 24)).drew.heap[wd.heap.size + 1]? = some (.cells #[.int .i64 0, .int .i64 0, .slice none 0 0] 24 (0, 0)) := by
    have h := alloc_new (wd.alloc (.cells #[.int .i64 W, .int .i64 H, .slice A n c] 24)) #[.int .i64 0, .int .i64 0, .slice none 0 0] 24
    rw [World.size_alloc] at h; exact h
  have HRES := Lib.hid hres
  clear hres
  refine wp_region_noPanic ?_
  refine wp_region_held_drew (S := fun w' => w'.cell? ⟨wd.heap.size, 0, none⟩ = some (.int .i64 W) ∧ w'.cell? ⟨wd.heap.size, 1, none⟩ = some (.int .i64 H) ∧ w'.cell? ⟨wd.heap.size, 2, none⟩ = some (.slice A n c)) (by kernel_rfl) ⟨q0, q1, q2⟩ (fun hHeld => ?_)
  refine wpAnyH_take (i := 0) (oi := _) (v := ?_) (by simp only [List.getElem?_toArray, List.getElem?_cons_zero]; rfl) (by kernel_rfl) (by kernel_rfl) (by kernel_rfl) (fun _ _ _ h => h) (Or.inl ⟨by rfl, ?_⟩) hHeld ?_
  rotate_left 1
  · intro w hSw
    try dsimp only at hSw
    first | (go_simp; done) | (go_simp; with_reducible rfl)
  try simp only [Act.put, List.setIfInBounds_toArray, List.set_cons_zero, List.set_cons_succ]
  refine wpAnyH_ready (rs := [1]) (by kernel_rfl) (by simp) ?_
  refine AllReadyH.cons (o := _) (by simp only [List.getElem?_toArray, List.getElem?_cons_succ, List.getElem?_cons_zero]; rfl) (fun K hK => ?_) AllReadyH.nil
  go_simp
  refine (refGood_any W H A n c _).mono ?_
  rintro e w' ⟨rfl, hB⟩
  rw [HG.out]
  have HBG := Lib.hid hB
  clear hB
  refine hK.out _ _ ?_ (fun hHeld2 => ?_)
  · (try dsimp only)
    first | exact ⟨pw_cell_below HBG.out q0, pw_cell_below HBG.out q1, pw_cell_below HBG.out q2⟩ | exact hHeld | fail
  clear hK K hHeld
  have hHeld := hHeld2
  clear hHeld2
  try simp only [Act.put, List.setIfInBounds_toArray, List.set_cons_zero, List.set_cons_succ]
  refine wpAnyH_take (i := 2) (oi := _) (v := ?_) (by simp only [List.getElem?_toArray, List.getElem?_cons_succ, List.getElem?_cons_zero]; rfl) (by kernel_rfl) (by kernel_rfl) (by kernel_rfl) (fun _ _ _ h => h) (Or.inl ⟨by rfl, ?_⟩) hHeld ?_
  rotate_left 1
  · intro w hSw
    try dsimp only at hSw
    first | (go_simp; done) | (go_simp; with_reducible rfl)
  try simp only [Act.put, List.setIfInBounds_toArray, List.set_cons_zero, List.set_cons_succ]
  refine wpAnyH_take (i := 3) (oi := _) (v := ?_) (by simp only [List.getElem?_toArray, List.getElem?_cons_succ, List.getElem?_cons_zero]; rfl) (by kernel_rfl) (by kernel_rfl) (by kernel_rfl) (fun _ _ _ h => h) (Or.inl ⟨by rfl, ?_⟩) hHeld ?_
  rotate_left 1
  · intro w hSw
    try dsimp only at hSw
    first | (go_simp; done) | (go_simp; with_reducible rfl)
  try simp only [Act.put, List.setIfInBounds_toArray, List.set_cons_zero, List.set_cons_succ]
  refine wpAnyH_take (i := 4) (oi := _) (v := undef) (by simp only [List.getElem?_toArray, List.getElem?_cons_succ, List.getElem?_cons_zero]; rfl) (by kernel_rfl) (by kernel_rfl) (by kernel_rfl) (fun _ _ _ h => h) (Or.inr ⟨by rfl, rfl⟩) hHeld ?_
  try simp only [Act.put, List.setIfInBounds_toArray, List.set_cons_zero, List.set_cons_succ]
  refine wpAnyH_take (i := 5) (oi := _) (v := undef) (by simp only [List.getElem?_toArray, List.getElem?_cons_succ, List.getElem?_cons_zero]; rfl) (by kernel_rfl) (by kernel_rfl) (by kernel_rfl) (fun _ _ _ h => h) (Or.inr ⟨by rfl, rfl⟩) hHeld ?_
  try simp only [Act.put, List.setIfInBounds_toArray, List.set_cons_zero, List.set_cons_succ]
  refine wpAnyH_take (i := 6) (oi := _) (v := undef) (by simp only [List.getElem?_toArray, List.getElem?_cons_succ, List.getElem?_cons_zero]; rfl) (by kernel_rfl) (by kernel_rfl) (by kernel_rfl) (fun _ _ _ h => h) (Or.inr ⟨by rfl, rfl⟩) hHeld ?_
  try simp only [Act.put, List.setIfInBounds_toArray, List.set_cons_zero, List.set_cons_succ]
  refine wpAnyH_take (i := 7) (oi := _) (v := ?_) (by simp only [List.getElem?_toArray, List.getElem?_cons_succ, List.getElem?_cons_zero]; rfl) (by kernel_rfl) (by kernel_rfl) (by kernel_rfl) (fun _ _ _ h => h) (Or.inl ⟨by rfl, ?_⟩) hHeld ?_
  rotate_left 1
  · intro w hSw
    try dsimp only at hSw
    first | (go_simp; done) | (go_simp; with_reducible rfl)
  try simp only [Act.put, List.setIfInBounds_toArray, List.set_cons_zero, List.set_cons_succ]
  refine wpAnyH_take (i := 8) (oi := _) (v := ?_) (by simp only [List.getElem?_toArray, List.getElem?_cons_succ, List.getElem?_cons_zero]; rfl) (by kernel_rfl) (by kernel_rfl) (by kernel_rfl) (fun _ _ _ h => h) (Or.inl ⟨by rfl, ?_⟩) hHeld ?_
  rotate_left 1
  · intro w hSw
    try dsimp only at hSw
    first | (go_simp; done) | (go_simp; with_reducible rfl)
  try simp only [Act.put, List.setIfInBounds_toArray, List.set_cons_zero, List.set_cons_succ]
  refine wpAnyH_take (i := 9) (oi := _) (v := undef) (by simp only [List.getElem?_toArray, List.getElem?_cons_succ, List.getElem?_cons_zero]; rfl) (by kernel_rfl) (by kernel_rfl) (by kernel_rfl) (fun _ _ _ h => h) (Or.inr ⟨by rfl, rfl⟩) hHeld ?_
  try simp only [Act.put, List.setIfInBounds_toArray, List.set_cons_zero, List.set_cons_succ]
  refine wpAnyH_take (i := 10) (oi := _) (v := undef) (by simp only [List.getElem?_toArray, List.getElem?_cons_succ, List.getElem?_cons_zero]; rfl) (by kernel_rfl) (by kernel_rfl) (by kernel_rfl) (fun _ _ _ h => h) (Or.inr ⟨by rfl, rfl⟩) hHeld ?_
  try simp only [Act.put, List.setIfInBounds_toArray, List.set_cons_zero, List.set_cons_succ]
  refine wpAnyH_take (i := 11) (oi := _) (v := undef) (by simp only [List.getElem?_toArray, List.getElem?_cons_succ, List.getElem?_cons_zero]; rfl) (by kernel_rfl) (by kernel_rfl) (by kernel_rfl) (fun _ _ _ h => h) (Or.inr ⟨by rfl, rfl⟩) hHeld ?_
  try simp only [Act.put, List.setIfInBounds_toArray, List.set_cons_zero, List.set_cons_succ]
  refine wpAnyH_take (i := 12) (oi := _) (v := ?_) (by simp only [List.getElem?_toArray, List.getElem?_cons_succ, List.getElem?_cons_zero]; rfl) (by kernel_rfl) (by kernel_rfl) (by kernel_rfl) (fun _ _ _ h => h) (Or.inl ⟨by rfl, ?_⟩) hHeld ?_
  rotate_left 1
  · intro w hSw
    try dsimp only at hSw
    first | (go_simp; done) | (go_simp; with_reducible rfl)
  try simp only [Act.put, List.setIfInBounds_toArray, List.set_cons_zero, List.set_cons_succ]
  refine wpAnyH_take (i := 13) (oi := _) (v := ?_) (by simp only [List.getElem?_toArray, List.getElem?_cons_succ, List.getElem?_cons_zero]; rfl) (by kernel_rfl) (by kernel_rfl) (by kernel_rfl) (fun _ _ _ h => h) (Or.inl ⟨by rfl, ?_⟩) hHeld ?_
  rotate_left 1
  · intro w hSw
    try dsimp only at hSw
    first | (go_simp; done) | (go_simp; with_reducible rfl)
  try simp only [Act.put, List.setIfInBounds_toArray, List.set_cons_zero, List.set_cons_succ]
  refine wpAnyH_take (i := 14) (oi := _) (v := undef) (by simp only [List.getElem?_toArray, List.getElem?_cons_succ, List.getElem?_cons_zero]; rfl) (by kernel_rfl) (by kernel_rfl) (by kernel_rfl) (fun _ _ _ h => h) (Or.inr ⟨by rfl, rfl⟩) hHeld ?_
  try simp only [Act.put, List.setIfInBounds_toArray, List.set_cons_zero, List.set_cons_succ]
  refine wpAnyH_take (i := 15) (oi := _) (v := undef) (by simp only [List.getElem?_toArray, List.getElem?_cons_succ, List.getElem?_cons_zero]; rfl) (by kernel_rfl) (by kernel_rfl) (by kernel_rfl) (fun _ _ _ h => h) (Or.inr ⟨by rfl, rfl⟩) hHeld ?_
  try simp only [Act.put, List.setIfInBounds_toArray, List.set_cons_zero, List.set_cons_succ]
  refine wpAnyH_take (i := 16) (oi := _) (v := ?_) (by simp only [List.getElem?_toArray, List.getElem?_cons_succ, List.getElem?_cons_zero]; rfl) (by kernel_rfl) (by kernel_rfl) (by kernel_rfl) (fun _ _ _ h => h) (Or.inl ⟨by rfl, ?_⟩) hHeld ?_
  rotate_left 1
  · intro w hSw
    try dsimp only at hSw
    first | (go_simp; done) | (go_simp; with_reducible rfl)
  try simp only [Act.put, List.setIfInBounds_toArray, List.set_cons_zero, List.set_cons_succ]
  refine wpAnyH_take (i := 17) (oi := _) (v := ?_) (by simp only [List.getElem?_toArray, List.getElem?_cons_succ, List.getElem?_cons_zero]; rfl) (by kernel_rfl) (by kernel_rfl) (by kernel_rfl) (fun _ _ _ h => h) (Or.inl ⟨by rfl, ?_⟩) hHeld ?_
  rotate_left 1
  · intro w hSw
    try dsimp only at hSw
    first | (go_simp; done) | (go_simp; with_reducible rfl)
  try simp only [Act.put, List.setIfInBounds_toArray, List.set_cons_zero, List.set_cons_succ]
  refine wpAnyH_take (i := 18) (oi := _) (v := undef) (by simp only [List.getElem?_toArray, List.getElem?_cons_succ, List.getElem?_cons_zero]; rfl) (by kernel_rfl) (by kernel_rfl) (by kernel_rfl) (fun _ _ _ h => h) (Or.inr ⟨by rfl, rfl⟩) hHeld ?_
  try simp only [Act.put, List.setIfInBounds_toArray, List.set_cons_zero, List.set_cons_succ]
  refine wpAnyH_take (i := 19) (oi := _) (v := undef) (by simp only [List.getElem?_toArray, List.getElem?_cons_succ, List.getElem?_cons_zero]; rfl) (by kernel_rfl) (by kernel_rfl) (by kernel_rfl) (fun _ _ _ h => h) (Or.inr ⟨by rfl, rfl⟩) hHeld ?_
  try simp only [Act.put, List.setIfInBounds_toArray, List.set_cons_zero, List.set_cons_succ]
  refine wpAnyH_take (i := 20) (oi := _) (v := ?_) (by simp only [List.getElem?_toArray, List.getElem?_cons_succ, List.getElem?_cons_zero]; rfl) (by kernel_rfl) (by kernel_rfl) (by kernel_rfl) (fun _ _ _ h => h) (Or.inl ⟨by rfl, ?_⟩) hHeld ?_
  rotate_left 1
  · intro w hSw
    try dsimp only at hSw
    first | (go_simp; done) | (go_simp; with_reducible rfl)
  try simp only [Act.put, List.setIfInBounds_toArray, List.set_cons_zero, List.set_cons_succ]
  refine wpAnyH_take (i := 21) (oi := _) (v := ?_) (by simp only [List.getElem?_toArray, List.getElem?_cons_succ, List.getElem?_cons_zero]; rfl) (by kernel_rfl) (by kernel_rfl) (by kernel_rfl) (fun _ _ _ h => h) (Or.inl ⟨by rfl, ?_⟩) hHeld ?_
  rotate_left 1
  · intro w hSw
    try dsimp only at hSw
    first | (go_simp; done) | (go_simp; with_reducible rfl)
  try simp only [Act.put, List.setIfInBounds_toArray, List.set_cons_zero, List.set_cons_succ]
  refine wpAnyH_take (i := 22) (oi := _) (v := undef) (by simp only [List.getElem?_toArray, List.getElem?_cons_succ, List.getElem?_cons_zero]; rfl) (by kernel_rfl) (by kernel_rfl) (by kernel_rfl) (fun _ _ _ h => h) (Or.inr ⟨by rfl, rfl⟩) hHeld ?_
  try simp only [Act.put, List.setIfInBounds_toArray, List.set_cons_zero, List.set_cons_succ]
  refine wpAnyH_take (i := 23) (oi := _) (v := undef) (by simp only [List.getElem?_toArray, List.getElem?_cons_succ, List.getElem?_cons_zero]; rfl) (by kernel_rfl) (by kernel_rfl) (by kernel_rfl) (fun _ _ _ h => h) (Or.inr ⟨by rfl, rfl⟩) hHeld ?_
  try simp only [Act.put, List.setIfInBounds_toArray, List.set_cons_zero, List.set_cons_succ]
  refine wpAnyH_take (i := 25) (oi := _) (v := undef) (by simp only [List.getElem?_toArray, List.getElem?_cons_succ, List.getElem?_cons_zero]; rfl) (by kernel_rfl) (by kernel_rfl) (by kernel_rfl) (fun _ _ _ h => h) (Or.inr ⟨by rfl, rfl⟩) hHeld ?_
  try simp only [Act.put, List.setIfInBounds_toArray, List.set_cons_zero, List.set_cons_succ]
  refine wpAnyH_take (i := 26) (oi := _) (v := undef) (by simp only [List.getElem?_toArray, List.getElem?_cons_succ, List.getElem?_cons_zero]; rfl) (by kernel_rfl) (by kernel_rfl) (by kernel_rfl) (fun _ _ _ h => h) (Or.inr ⟨by rfl, rfl⟩) hHeld ?_
  try simp only [Act.put, List.setIfInBounds_toArray, List.set_cons_zero, List.set_cons_succ]
  refine wpAnyH_take (i := 24) (oi := _) (v := undef) (by simp only [List.getElem?_toArray, List.getElem?_cons_succ, List.getElem?_cons_zero]; rfl) (by kernel_rfl) (by kernel_rfl) (by kernel_rfl) (fun _ _ _ h => h) (Or.inr ⟨by rfl, rfl⟩) hHeld ?_
  try simp only [Act.put, List.setIfInBounds_toArray, List.set_cons_zero, List.set_cons_succ]
  refine wpAnyH_take (i := 27) (oi := _) (v := undef) (by simp only [List.getElem?_toArray, List.getElem?_cons_succ, List.getElem?_cons_zero]; rfl) (by kernel_rfl) (by kernel_rfl) (by kernel_rfl) (fun _ _ _ h => h) (Or.inr ⟨by rfl, rfl⟩) hHeld ?_
  try simp only [Act.put, List.setIfInBounds_toArray, List.set_cons_zero, List.set_cons_succ]
  refine wpAnyH_take (i := 28) (oi := _) (v := ?_) (by simp only [List.getElem?_toArray, List.getElem?_cons_succ, List.getElem?_cons_zero]; rfl) (by kernel_rfl) (by kernel_rfl) (by kernel_rfl) (fun _ _ _ h => h) (Or.inl ⟨by rfl, ?_⟩) hHeld ?_
  rotate_left 1
  · intro w hSw
    try dsimp only at hSw
    first | (go_simp; done) | (go_simp; with_reducible rfl)
  try simp only [Act.put, List.setIfInBounds_toArray, List.set_cons_zero, List.set_cons_succ]
  refine wpAnyH_done (by kernel_rfl) ?_ _
  refine NoPanic.normal ?_
  have HPX := Lib.hid ((Mods.of_below HBG.out []).blk HRES.out (by simp))
  have HBW := Lib.hid (show Below wd.heap.size wd w' from below_then (below_drew (((Below.refl _ wd).alloc (Nat.le_refl _) _).alloc (by simp) _)) (by simp [World.drew] <;> omega) HBG.out)
  obtain ⟨u0, u1, u2, f0, f1, f2⟩ := box3 HPX.out
  go_wp2_with fail
  refine bodyPost_ret (results_box rfl _ _ _ _ _ _ _ rfl (blk_set3 HPX.out _ _ _) Try.underlying24 rfl size_image) rfl ?_
  exact ⟨rfl, below_box HBW.out (by omega) _ _ _⟩

set_option maxRecDepth 100000 in
set_option maxHeartbeats 4000000 in
theorem refUnpacked_bad2 (W H w : Int) (A B : Option Addr) (n c m d : Nat) (wd : World) (_hm0 : (m : Int) ≤ 9223372036854775807) (hg : goodI W H n = true) (hm : m < 1) : Calls Try.prog 13 #[.agg #[.int .i64 W, .int .i64 H, .slice A n c], .slice B m d, .int .i64 w] wd fun e w' =>
    e = .returned (.tuple #[.agg #[.int .i64 0, .int .i64 0, .slice none 0 0], .bool false]) ∧ Below wd.heap.size wd w' := by
  have hbt := bitsT_le m
  generalize hb : bitsT m = b at *
  have HB := Lib.hid hb
  clear hb
  have HG := Lib.hid hg
  clear hg
  have d3 : decide ((m : Int) < 1) = true := decide_eq_true (by omega)
  go_enter Try.func13, Try.ntmps13
  go_wp2_with (go_at_call 19; refine (refPack_any _ _).mono ?_; rw [bitsZ_nat, HB.out]; rintro e w' ⟨rfl, rfl⟩)
  have hbb : Below (wd.alloc (.cells #[.int .i64 W, .int .i64 H, .slice A n c] 24)).heap.size (wd.alloc (.cells #[.int .i64 W, .int .i64 H, .slice A n c] 24)) ((wd.alloc (.cells #[.int .i64 W, .int .i64 H, .slice A n c] 24)).alloc (.cells #[.int .i64 0, .int .i64 0, .slice none 0 0] 24)).drew := below_drew ((Below.refl _ _).alloc (Nat.le_refl _) _)
  have hnew : (wd.alloc (.cells #[.int .i64 W, .int .i64 H, .slice A n c] 24)).heap[wd.heap.size]? = some (.cells #[.int .i64 W, .int .i64 H, .slice A n c] 24 (0, 0)) := alloc_new _ _ _
  have q0 := pw_cell_below hbb (show (wd.alloc (.cells #[.int .i64 W, .int .i64 H, .slice A n c] 24)).cell? ⟨wd.heap.size, 0, none⟩ = some (.int .i64 W) by rw [cell_blk hnew]; rfl)
  have q1 := pw_cell_below hbb (show (wd.alloc (.cells #[.int .i64 W, .int .i64 H, .slice A n c] 24)).cell? ⟨wd.heap.size, 1, none⟩ = some (.int .i64 H) by rw [cell_blk hnew]; rfl)
  have q2 := pw_cell_below hbb (show (wd.alloc (.cells #[.int .i64 W, .int .i64 H, .slice A n c] 24)).cell? ⟨wd.heap.size, 2, none⟩ = some (.slice A n c) by rw [cell_blk hnew]; rfl)
  clear hnew
  have hres : ((wd.alloc (.cells #[.int .i64 W, .int .i64 H, .slice A n c] 24)).alloc (.cells #[.int .i64 0, .int .i64 0, .slice none 0 0] 24)).drew.heap[wd.heap.size + 1]? = some (.cells #[.int .i64 0, .int .i64 0, .slice none 0 0] 24 (0, 0)) := by
    have h := alloc_new (wd.alloc (.cells #[.int .i64 W, .int .i64 H, .slice A n c] 24)) #[.int .i64 0, .int .i64 0, .slice none 0 0] 24
    rw [World.size_alloc] at h; exact h
  have HRES := Lib.hid hres
  clear hres
  refine wp_region_noPanic ?_
  refine wp_region_held_drew (S := fun w' => w'.cell? ⟨wd.heap.size, 0, none⟩ = some (.int .i64 W) ∧ w'.cell? ⟨wd.heap.size, 1, none⟩ = some (.int .i64 H) ∧ w'.cell? ⟨wd.heap.size, 2, none⟩ = some (.slice A n c)) (by kernel_rfl) ⟨q0, q1, q2⟩ (fun hHeld => ?_)
  refine wpAnyH_take (i := 0) (oi := _) (v := ?_) (by simp only [List.getElem?_toArray, List.getElem?_cons_zero]; rfl) (by kernel_rfl) (by kernel_rfl) (by kernel_rfl) (fun _ _ _ h => h) (Or.inl ⟨by rfl, ?_⟩) hHeld ?_
  rotate_left 1
  · intro w hSw
    try dsimp only at hSw
    first | (go_simp; done) | (go_simp; with_reducible rfl)
  try simp only [Act.put, List.setIfInBounds_toArray, List.set_cons_zero, List.set_cons_succ]
  refine wpAnyH_ready (rs := [1]) (by kernel_rfl) (by simp) ?_
  refine AllReadyH.cons (o := _) (by simp only [List.getElem?_toArray, List.getElem?_cons_succ, List.getElem?_cons_zero]; rfl) (fun K hK => ?_) AllReadyH.nil
  go_simp
  refine (refGood_any W H A n c _).mono ?_
  rintro e w' ⟨rfl, hB⟩
  rw [HG.out]
  have HBG := Lib.hid hB
  clear hB
  refine hK.out _ _ ?_ (fun hHeld2 => ?_)
  · (try dsimp only)
    first | exact ⟨pw_cell_below HBG.out q0, pw_cell_below HBG.out q1, pw_cell_below HBG.out q2⟩ | exact hHeld | fail
  clear hK K hHeld
  have hHeld := hHeld2
  clear hHeld2
  try simp only [Act.put, List.setIfInBounds_toArray, List.set_cons_zero, List.set_cons_succ]
  refine wpAnyH_take (i := 2) (oi := _) (v := ?_) (by simp only [List.getElem?_toArray, List.getElem?_cons_succ, List.getElem?_cons_zero]; rfl) (by kernel_rfl) (by kernel_rfl) (by kernel_rfl) (fun _ _ _ h => h) (Or.inl ⟨by rfl, ?_⟩) hHeld ?_
  rotate_left 1
  · intro w hSw
    try dsimp only at hSw
    first | (go_simp; done) | (go_simp; with_reducible rfl)
  try simp only [Act.put, List.setIfInBounds_toArray, List.set_cons_zero, List.set_cons_succ]
  refine wpAnyH_take (i := 3) (oi := _) (v := ?_) (by simp only [List.getElem?_toArray, List.getElem?_cons_succ, List.getElem?_cons_zero]; rfl) (by kernel_rfl) (by kernel_rfl) (by kernel_rfl) (fun _ _ _ h => h) (Or.inl ⟨by rfl, ?_⟩) hHeld ?_
  rotate_left 1
  · intro w hSw
    try dsimp only at hSw
    first | (go_simp; done) | (go_simp; with_reducible rfl)
  try simp only [Act.put, List.setIfInBounds_toArray, List.set_cons_zero, List.set_cons_succ]
  refine wpAnyH_take (i := 4) (oi := _) (v := ?_) (by simp only [List.getElem?_toArray, List.getElem?_cons_succ, List.getElem?_cons_zero]; rfl) (by kernel_rfl) (by kernel_rfl) (by kernel_rfl) (fun _ _ _ h => h) (Or.inl ⟨by rfl, ?_⟩) hHeld ?_
  rotate_left 1
  · intro w hSw
    try dsimp only at hSw
    first | (go_simp; done) | (go_simp; with_reducible rfl)
  try simp only [Act.put, List.setIfInBounds_toArray, List.set_cons_zero, List.set_cons_succ]
  refine wpAnyH_take (i := 5) (oi := _) (v := ?_) (by simp only [List.getElem?_toArray, List.getElem?_cons_succ, List.getElem?_cons_zero]; rfl) (by kernel_rfl) (by kernel_rfl) (by kernel_rfl) (fun _ _ _ h => h) (Or.inl ⟨by rfl, ?_⟩) hHeld ?_
  rotate_left 1
  · intro w hSw
    try dsimp only at hSw
    first | (go_simp; done) | (go_simp; with_reducible rfl)
  try simp only [Act.put, List.setIfInBounds_toArray, List.set_cons_zero, List.set_cons_succ]
  refine wpAnyH_take (i := 6) (oi := _) (v := ?_) (by simp only [List.getElem?_toArray, List.getElem?_cons_succ, List.getElem?_cons_zero]; rfl) (by kernel_rfl) (by kernel_rfl) (by kernel_rfl) (fun _ _ _ h => h) (Or.inl ⟨by rfl, ?_⟩) hHeld ?_
  rotate_left 1
  · intro w hSw
    try dsimp only at hSw
    first | (go_simp; done) | (go_simp; with_reducible rfl)
  try simp only [Act.put, List.setIfInBounds_toArray, List.set_cons_zero, List.set_cons_succ]
  refine wpAnyH_take (i := 7) (oi := _) (v := ?_) (by simp only [List.getElem?_toArray, List.getElem?_cons_succ, List.getElem?_cons_zero]; rfl) (by kernel_rfl) (by kernel_rfl) (by kernel_rfl) (fun _ _ _ h => h) (Or.inl ⟨by rfl, ?_⟩) hHeld ?_
  rotate_left 1
  · intro w hSw
    try dsimp only at hSw
    first | (go_simp; done) | (go_simp; with_reducible rfl)
  try simp only [Act.put, List.setIfInBounds_toArray, List.set_cons_zero, List.set_cons_succ]
  refine wpAnyH_take (i := 8) (oi := _) (v := ?_) (by simp only [List.getElem?_toArray, List.getElem?_cons_succ, List.getElem?_cons_zero]; rfl) (by kernel_rfl) (by kernel_rfl) (by kernel_rfl) (fun _ _ _ h => h) (Or.inl ⟨by rfl, ?_⟩) hHeld ?_
  rotate_left 1
  · intro w hSw
    try dsimp only at hSw
    first | (go_simp; done) | (go_simp; with_reducible rfl)
  try simp only [Act.put, List.setIfInBounds_toArray, List.set_cons_zero, List.set_cons_succ]
  refine wpAnyH_take (i := 9) (oi := _) (v := undef) (by simp only [List.getElem?_toArray, List.getElem?_cons_succ, List.getElem?_cons_zero]; rfl) (by kernel_rfl) (by kernel_rfl) (by kernel_rfl) (fun _ _ _ h => h) (Or.inr ⟨by rfl, rfl⟩) hHeld ?_
  try simp only [Act.put, List.setIfInBounds_toArray, List.set_cons_zero, List.set_cons_succ]
  refine wpAnyH_take (i := 10) (oi := _) (v := undef) (by simp only [List.getElem?_toArray, List.getElem?_cons_succ, List.getElem?_cons_zero]; rfl) (by kernel_rfl) (by kernel_rfl) (by kernel_rfl) (fun _ _ _ h => h) (Or.inr ⟨by rfl, rfl⟩) hHeld ?_
  try simp only [Act.put, List.setIfInBounds_toArray, List.set_cons_zero, List.set_cons_succ]
  refine wpAnyH_take (i := 11) (oi := _) (v := undef) (by simp only [List.getElem?_toArray, List.getElem?_cons_succ, List.getElem?_cons_zero]; rfl) (by kernel_rfl) (by kernel_rfl) (by kernel_rfl) (fun _ _ _ h => h) (Or.inr ⟨by rfl, rfl⟩) hHeld ?_
  try simp only [Act.put, List.setIfInBounds_toArray, List.set_cons_zero, List.set_cons_succ]
  refine wpAnyH_take (i := 12) (oi := _) (v := ?_) (by simp only [List.getElem?_toArray, List.getElem?_cons_succ, List.getElem?_cons_zero]; rfl) (by kernel_rfl) (by kernel_rfl) (by kernel_rfl) (fun _ _ _ h => h) (Or.inl ⟨by rfl, ?_⟩) hHeld ?_
  rotate_left 1
  · intro w hSw
    try dsimp only at hSw
    first | (go_simp; done) | (go_simp; with_reducible rfl)
  try simp only [Act.put, List.setIfInBounds_toArray, List.set_cons_zero, List.set_cons_succ]
  refine wpAnyH_take (i := 13) (oi := _) (v := ?_) (by simp only [List.getElem?_toArray, List.getElem?_cons_succ, List.getElem?_cons_zero]; rfl) (by kernel_rfl) (by kernel_rfl) (by kernel_rfl) (fun _ _ _ h => h) (Or.inl ⟨by rfl, ?_⟩) hHeld ?_
  rotate_left 1
  · intro w hSw
    try dsimp only at hSw
    first | (go_simp; done) | (go_simp; with_reducible rfl)
  try simp only [Act.put, List.setIfInBounds_toArray, List.set_cons_zero, List.set_cons_succ]
  refine wpAnyH_take (i := 14) (oi := _) (v := undef) (by simp only [List.getElem?_toArray, List.getElem?_cons_succ, List.getElem?_cons_zero]; rfl) (by kernel_rfl) (by kernel_rfl) (by kernel_rfl) (fun _ _ _ h => h) (Or.inr ⟨by rfl, rfl⟩) hHeld ?_
  try simp only [Act.put, List.setIfInBounds_toArray, List.set_cons_zero, List.set_cons_succ]
  refine wpAnyH_take (i := 15) (oi := _) (v := undef) (by simp only [List.getElem?_toArray, List.getElem?_cons_succ, List.getElem?_cons_zero]; rfl) (by kernel_rfl) (by kernel_rfl) (by kernel_rfl) (fun _ _ _ h => h) (Or.inr ⟨by rfl, rfl⟩) hHeld ?_
  try simp only [Act.put, List.setIfInBounds_toArray, List.set_cons_zero, List.set_cons_succ]
  refine wpAnyH_take (i := 16) (oi := _) (v := ?_) (by simp only [List.getElem?_toArray, List.getElem?_cons_succ, List.getElem?_cons_zero]; rfl) (by kernel_rfl) (by kernel_rfl) (by kernel_rfl) (fun _ _ _ h => h) (Or.inl ⟨by rfl, ?_⟩) hHeld ?_
  rotate_left 1
  · intro w hSw
    try dsimp only at hSw
    first | (go_simp; done) | (go_simp; with_reducible rfl)
  try simp only [Act.put, List.setIfInBounds_toArray, List.set_cons_zero, List.set_cons_succ]
  refine wpAnyH_take (i := 17) (oi := _) (v := ?_) (by simp only [List.getElem?_toArray, List.getElem?_cons_succ, List.getElem?_cons_zero]; rfl) (by kernel_rfl) (by kernel_rfl) (by kernel_rfl) (fun _ _ _ h => h) (Or.inl ⟨by rfl, ?_⟩) hHeld ?_
  rotate_left 1
  · intro w hSw
    try dsimp only at hSw
    first | (go_simp; done) | (go_simp; with_reducible rfl)
  try simp only [Act.put, List.setIfInBounds_toArray, List.set_cons_zero, List.set_cons_succ]
  refine wpAnyH_take (i := 18) (oi := _) (v := undef) (by simp only [List.getElem?_toArray, List.getElem?_cons_succ, List.getElem?_cons_zero]; rfl) (by kernel_rfl) (by kernel_rfl) (by kernel_rfl) (fun _ _ _ h => h) (Or.inr ⟨by rfl, rfl⟩) hHeld ?_
  try simp only [Act.put, List.setIfInBounds_toArray, List.set_cons_zero, List.set_cons_succ]
  refine wpAnyH_take (i := 19) (oi := _) (v := undef) (by simp only [List.getElem?_toArray, List.getElem?_cons_succ, List.getElem?_cons_zero]; rfl) (by kernel_rfl) (by kernel_rfl) (by kernel_rfl) (fun _ _ _ h => h) (Or.inr ⟨by rfl, rfl⟩) hHeld ?_
  try simp only [Act.put, List.setIfInBounds_toArray, List.set_cons_zero, List.set_cons_succ]
  refine wpAnyH_take (i := 20) (oi := _) (v := ?_) (by simp only [List.getElem?_toArray, List.getElem?_cons_succ, List.getElem?_cons_zero]; rfl) (by kernel_rfl) (by kernel_rfl) (by kernel_rfl) (fun _ _ _ h => h) (Or.inl ⟨by rfl, ?_⟩) hHeld ?_
  rotate_left 1
  · intro w hSw
    try dsimp only at hSw
    first | (go_simp; done) | (go_simp; with_reducible rfl)
  try simp only [Act.put, List.setIfInBounds_toArray, List.set_cons_zero, List.set_cons_succ]
  refine wpAnyH_take (i := 21) (oi := _) (v := ?_) (by simp only [List.getElem?_toArray, List.getElem?_cons_succ, List.getElem?_cons_zero]; rfl) (by kernel_rfl) (by kernel_rfl) (by kernel_rfl) (fun _ _ _ h => h) (Or.inl ⟨by rfl, ?_⟩) hHeld ?_
  rotate_left 1
  · intro w hSw
    try dsimp only at hSw
    first | (go_simp; done) | (go_simp; with_reducible rfl)
  try simp only [Act.put, List.setIfInBounds_toArray, List.set_cons_zero, List.set_cons_succ]
  refine wpAnyH_take (i := 22) (oi := _) (v := undef) (by simp only [List.getElem?_toArray, List.getElem?_cons_succ, List.getElem?_cons_zero]; rfl) (by kernel_rfl) (by kernel_rfl) (by kernel_rfl) (fun _ _ _ h => h) (Or.inr ⟨by rfl, rfl⟩) hHeld ?_
  try simp only [Act.put, List.setIfInBounds_toArray, List.set_cons_zero, List.set_cons_succ]
  refine wpAnyH_take (i := 23) (oi := _) (v := undef) (by simp only [List.getElem?_toArray, List.getElem?_cons_succ, List.getElem?_cons_zero]; rfl) (by kernel_rfl) (by kernel_rfl) (by kernel_rfl) (fun _ _ _ h => h) (Or.inr ⟨by rfl, rfl⟩) hHeld ?_
  try simp only [Act.put, List.setIfInBounds_toArray, List.set_cons_zero, List.set_cons_succ]
  refine wpAnyH_take (i := 25) (oi := _) (v := undef) (by simp only [List.getElem?_toArray, List.getElem?_cons_succ, List.getElem?_cons_zero]; rfl) (by kernel_rfl) (by kernel_rfl) (by kernel_rfl) (fun _ _ _ h => h) (Or.inr ⟨by rfl, rfl⟩) hHeld ?_
  try simp only [Act.put, List.setIfInBounds_toArray, List.set_cons_zero, List.set_cons_succ]
  refine wpAnyH_take (i := 26) (oi := _) (v := undef) (by simp only [List.getElem?_toArray, List.getElem?_cons_succ, List.getElem?_cons_zero]; rfl) (by kernel_rfl) (by kernel_rfl) (by kernel_rfl) (fun _ _ _ h => h) (Or.inr ⟨by rfl, rfl⟩) hHeld ?_
  try simp only [Act.put, List.setIfInBounds_toArray, List.set_cons_zero, List.set_cons_succ]
  refine wpAnyH_take (i := 24) (oi := _) (v := undef) (by simp only [List.getElem?_toArray, List.getElem?_cons_succ, List.getElem?_cons_zero]; rfl) (by kernel_rfl) (by kernel_rfl) (by kernel_rfl) (fun _ _ _ h => h) (Or.inr ⟨by rfl, rfl⟩) hHeld ?_
  try simp only [Act.put, List.setIfInBounds_toArray, List.set_cons_zero, List.set_cons_succ]
  refine wpAnyH_take (i := 27) (oi := _) (v := undef) (by simp only [List.getElem?_toArray, List.getElem?_cons_succ, List.getElem?_cons_zero]; rfl) (by kernel_rfl) (by kernel_rfl) (by kernel_rfl) (fun _ _ _ h => h) (Or.inr ⟨by rfl, rfl⟩) hHeld ?_
  try simp only [Act.put, List.setIfInBounds_toArray, List.set_cons_zero, List.set_cons_succ]
  refine wpAnyH_take (i := 28) (oi := _) (v := ?_) (by simp only [List.getElem?_toArray, List.getElem?_cons_succ, List.getElem?_cons_zero]; rfl) (by kernel_rfl) (by kernel_rfl) (by kernel_rfl) (fun _ _ _ h => h) (Or.inl ⟨by rfl, ?_⟩) hHeld ?_
  rotate_left 1
  · intro w hSw
    try dsimp only at hSw
    first | (go_simp; done) | (go_simp; with_reducible rfl)
  try simp only [Act.put, List.setIfInBounds_toArray, List.set_cons_zero, List.set_cons_succ]
  refine wpAnyH_done (by kernel_rfl) ?_ _
  refine NoPanic.normal ?_
  have HPX := Lib.hid ((Mods.of_below HBG.out []).blk HRES.out (by simp))
  have HBW := Lib.hid (show Below wd.heap.size wd w' from below_then (below_drew (((Below.refl _ wd).alloc (Nat.le_refl _) _).alloc (by simp) _)) (by simp [World.drew] <;> omega) HBG.out)
  obtain ⟨u0, u1, u2, f0, f1, f2⟩ := box3 HPX.out
  go_wp2_with fail
  refine bodyPost_ret (results_box rfl _ _ _ _ _ _ _ rfl (blk_set3 HPX.out _ _ _) Try.underlying24 rfl size_image) rfl ?_
  exact ⟨rfl, below_box HBW.out (by omega) _ _ _⟩

set_option maxRecDepth 100000 in
set_option maxHeartbeats 4000000 in
theorem refUnpacked_bad3 (W H w : Int) (A B : Option Addr) (n c m d : Nat) (wd : World) (_hm0 : (m : Int) ≤ 9223372036854775807) (hg : goodI W H n = true) (hm : 256 < m) : Calls Try.prog 13 #[.agg #[.int .i64 W, .int .i64 H, .slice A n c], .slice B m d, .int .i64 w] wd fun e w' =>
    e = .returned (.tuple #[.agg #[.int .i64 0, .int .i64 0, .slice none 0 0], .bool false]) ∧ Below wd.heap.size wd w' := by
  have hbt := bitsT_le m
  generalize hb : bitsT m = b at *
  have HB := Lib.hid hb
  clear hb
  have HG := Lib.hid hg
  clear hg
  have d3 : decide ((m : Int) < 1) = false := decide_eq_false (by omega)
  have d4 : decide ((256 : Int) < (m : Int)) = true := decide_eq_true (by omega)
  go_enter Try.func13, Try.ntmps13
  go_wp2_with (go_at_call 19; refine (refPack_any _ _).mono ?_; rw [bitsZ_nat, HB.out]; rintro e w' ⟨rfl, rfl⟩)
  have hbb : Below (wd.alloc (.cells #[.int .i64 W, .int .i64 H, .slice A n c] 24)).heap.size (wd.alloc (.cells #[.int .i64 W, .int .i64 H, .slice A n c] 24)) ((wd.alloc (.cells #[.int .i64 W, .int .i64 H, .slice A n c] 24)).alloc (.cells #[.int .i64 0, .int .i64 0, .slice none 0 0] 24)).drew := below_drew ((Below.refl _ _).alloc (Nat.le_refl _) _)
  have hnew : (wd.alloc (.cells #[.int .i64 W, .int .i64 H, .slice A n c] 24)).heap[wd.heap.size]? = some (.cells #[.int .i64 W, .int .i64 H, .slice A n c] 24 (0, 0)) := alloc_new _ _ _
  have q0 := pw_cell_below hbb (show (wd.alloc (.cells #[.int .i64 W, .int .i64 H, .slice A n c] 24)).cell? ⟨wd.heap.size, 0, none⟩ = some (.int .i64 W) by rw [cell_blk hnew]; rfl)
  have q1 := pw_cell_below hbb (show (wd.alloc (.cells #[.int .i64 W, .int .i64 H, .slice A n c] 24)).cell? ⟨wd.heap.size, 1, none⟩ = some (.int .i64 H) by rw [cell_blk hnew]; rfl)
  have q2 := pw_cell_below hbb (show (wd.alloc (.cells #[.int .i64 W, .int .i64 H, .slice A n c] 24)).cell? ⟨wd.heap.size, 2, none⟩ = some (.slice A n c) by rw [cell_blk hnew]; rfl)
  clear hnew
  have hres : ((wd.alloc (.cells #[.int .i64 W, .int .i64 H, .slice A n c] 24)).alloc (.cells #[.int .i64 0, .int .i64 0, .slice none 0 0] 24)).drew.heap[wd.heap.size + 1]? = some (.cells #[.int .i64 0, .int .i64 0, .slice none 0 0] 24 (0, 0)) := by
    have h := alloc_new (wd.alloc (.cells #[.int .i64 W, .int .i64 H, .slice A n c] 24)) #[.int .i64 0, .int .i64 0, .slice none 0 0] 24
    rw [World.size_alloc] at h; exact h
  have HRES := Lib.hid hres
  clear hres
  refine wp_region_noPanic ?_
  refine wp_region_held_drew (S := fun w' => w'.cell? ⟨wd.heap.size, 0, none⟩ = some (.int .i64 W) ∧ w'.cell? ⟨wd.heap.size, 1, none⟩ = some (.int .i64 H) ∧ w'.cell? ⟨wd.heap.size, 2, none⟩ = some (.slice A n c)) (by kernel_rfl) ⟨q0, q1, q2⟩ (fun hHeld => ?_)
  refine wpAnyH_take (i := 0) (oi := _) (v := ?_) (by simp only [List.getElem?_toArray, List.getElem?_cons_zero]; rfl) (by kernel_rfl) (by kernel_rfl) (by kernel_rfl) (fun _ _ _ h => h) (Or.inl ⟨by rfl, ?_⟩) hHeld ?_
  rotate_left 1
  · intro w hSw
    try dsimp only at hSw
    first | (go_simp; done) | (go_simp; with_reducible rfl)
  try simp only [Act.put, List.setIfInBounds_toArray, List.set_cons_zero, List.set_cons_succ]
  refine wpAnyH_ready (rs := [1]) (by kernel_rfl) (by simp) ?_
  refine AllReadyH.cons (o := _) (by simp only [List.getElem?_toArray, List.getElem?_cons_succ, List.getElem?_cons_zero]; rfl) (fun K hK => ?_) AllReadyH.nil
  go_simp
  refine (refGood_any W H A n c _).mono ?_
  rintro e w' ⟨rfl, hB⟩
  rw [HG.out]
  have HBG := Lib.hid hB
  clear hB
  refine hK.out _ _ ?_ (fun hHeld2 => ?_)
  · (try dsimp only)
    first | exact ⟨pw_cell_below HBG.out q0, pw_cell_below HBG.out q1, pw_cell_below HBG.out q2⟩ | exact hHeld | fail
  clear hK K hHeld
  have hHeld := hHeld2
  clear hHeld2
  try simp only [Act.put, List.setIfInBounds_toArray, List.set_cons_zero, List.set_cons_succ]
  refine wpAnyH_take (i := 2) (oi := _) (v := ?_) (by simp only [List.getElem?_toArray, List.getElem?_cons_succ, List.getElem?_cons_zero]; rfl) (by kernel_rfl) (by kernel_rfl) (by kernel_rfl) (fun _ _ _ h => h) (Or.inl ⟨by rfl, ?_⟩) hHeld ?_
  rotate_left 1
  · intro w hSw
    try dsimp only at hSw
    first | (go_simp; done) | (go_simp; with_reducible rfl)
  try simp only [Act.put, List.setIfInBounds_toArray, List.set_cons_zero, List.set_cons_succ]
  refine wpAnyH_take (i := 3) (oi := _) (v := ?_) (by simp only [List.getElem?_toArray, List.getElem?_cons_succ, List.getElem?_cons_zero]; rfl) (by kernel_rfl) (by kernel_rfl) (by kernel_rfl) (fun _ _ _ h => h) (Or.inl ⟨by rfl, ?_⟩) hHeld ?_
  rotate_left 1
  · intro w hSw
    try dsimp only at hSw
    first | (go_simp; done) | (go_simp; with_reducible rfl)
  try simp only [Act.put, List.setIfInBounds_toArray, List.set_cons_zero, List.set_cons_succ]
  refine wpAnyH_take (i := 4) (oi := _) (v := ?_) (by simp only [List.getElem?_toArray, List.getElem?_cons_succ, List.getElem?_cons_zero]; rfl) (by kernel_rfl) (by kernel_rfl) (by kernel_rfl) (fun _ _ _ h => h) (Or.inl ⟨by rfl, ?_⟩) hHeld ?_
  rotate_left 1
  · intro w hSw
    try dsimp only at hSw
    first | (go_simp; done) | (go_simp; with_reducible rfl)
  try simp only [Act.put, List.setIfInBounds_toArray, List.set_cons_zero, List.set_cons_succ]
  refine wpAnyH_take (i := 5) (oi := _) (v := ?_) (by simp only [List.getElem?_toArray, List.getElem?_cons_succ, List.getElem?_cons_zero]; rfl) (by kernel_rfl) (by kernel_rfl) (by kernel_rfl) (fun _ _ _ h => h) (Or.inl ⟨by rfl, ?_⟩) hHeld ?_
  rotate_left 1
  · intro w hSw
    try dsimp only at hSw
    first | (go_simp; done) | (go_simp; with_reducible rfl)
  try simp only [Act.put, List.setIfInBounds_toArray, List.set_cons_zero, List.set_cons_succ]
  refine wpAnyH_take (i := 6) (oi := _) (v := ?_) (by simp only [List.getElem?_toArray, List.getElem?_cons_succ, List.getElem?_cons_zero]; rfl) (by kernel_rfl) (by kernel_rfl) (by kernel_rfl) (fun _ _ _ h => h) (Or.inl ⟨by rfl, ?_⟩) hHeld ?_
  rotate_left 1
  · intro w hSw
    try dsimp only at hSw
    first | (go_simp; done) | (go_simp; with_reducible rfl)
  try simp only [Act.put, List.setIfInBounds_toArray, List.set_cons_zero, List.set_cons_succ]
  refine wpAnyH_take (i := 7) (oi := _) (v := ?_) (by simp only [List.getElem?_toArray, List.getElem?_cons_succ, List.getElem?_cons_zero]; rfl) (by kernel_rfl) (by kernel_rfl) (by kernel_rfl) (fun _ _ _ h => h) (Or.inl ⟨by rfl, ?_⟩) hHeld ?_
  rotate_left 1
  · intro w hSw
    try dsimp only at hSw
    first | (go_simp; done) | (go_simp; with_reducible rfl)
  try simp only [Act.put, List.setIfInBounds_toArray, List.set_cons_zero, List.set_cons_succ]
  refine wpAnyH_take (i := 8) (oi := _) (v := ?_) (by simp only [List.getElem?_toArray, List.getElem?_cons_succ, List.getElem?_cons_zero]; rfl) (by kernel_rfl) (by kernel_rfl) (by kernel_rfl) (fun _ _ _ h => h) (Or.inl ⟨by rfl, ?_⟩) hHeld ?_
  rotate_left 1
  · intro w hSw
    try dsimp only at hSw
    first | (go_simp; done) | (go_simp; with_reducible rfl)
  try simp only [Act.put, List.setIfInBounds_toArray, List.set_cons_zero, List.set_cons_succ]
  refine wpAnyH_take (i := 9) (oi := _) (v := ?_) (by simp only [List.getElem?_toArray, List.getElem?_cons_succ, List.getElem?_cons_zero]; rfl) (by kernel_rfl) (by kernel_rfl) (by kernel_rfl) (fun _ _ _ h => h) (Or.inl ⟨by rfl, ?_⟩) hHeld ?_
  rotate_left 1
  · intro w hSw
    try dsimp only at hSw
    first | (go_simp; done) | (go_simp; with_reducible rfl)
  try simp only [Act.put, List.setIfInBounds_toArray, List.set_cons_zero, List.set_cons_succ]
  refine wpAnyH_take (i := 10) (oi := _) (v := ?_) (by simp only [List.getElem?_toArray, List.getElem?_cons_succ, List.getElem?_cons_zero]; rfl) (by kernel_rfl) (by kernel_rfl) (by kernel_rfl) (fun _ _ _ h => h) (Or.inl ⟨by rfl, ?_⟩) hHeld ?_
  rotate_left 1
  · intro w hSw
    try dsimp only at hSw
    first | (go_simp; done) | (go_simp; with_reducible rfl)
  try simp only [Act.put, List.setIfInBounds_toArray, List.set_cons_zero, List.set_cons_succ]
  refine wpAnyH_take (i := 11) (oi := _) (v := ?_) (by simp only [List.getElem?_toArray, List.getElem?_cons_succ, List.getElem?_cons_zero]; rfl) (by kernel_rfl) (by kernel_rfl) (by kernel_rfl) (fun _ _ _ h => h) (Or.inl ⟨by rfl, ?_⟩) hHeld ?_
  rotate_left 1
  · intro w hSw
    try dsimp only at hSw
    first | (go_simp; done) | (go_simp; with_reducible rfl)
  try simp only [Act.put, List.setIfInBounds_toArray, List.set_cons_zero, List.set_cons_succ]
  refine wpAnyH_take (i := 12) (oi := _) (v := ?_) (by simp only [List.getElem?_toArray, List.getElem?_cons_succ, List.getElem?_cons_zero]; rfl) (by kernel_rfl) (by kernel_rfl) (by kernel_rfl) (fun _ _ _ h => h) (Or.inl ⟨by rfl, ?_⟩) hHeld ?_
  rotate_left 1
  · intro w hSw
    try dsimp only at hSw
    first | (go_simp; done) | (go_simp; with_reducible rfl)
  try simp only [Act.put, List.setIfInBounds_toArray, List.set_cons_zero, List.set_cons_succ]
  refine wpAnyH_take (i := 13) (oi := _) (v := ?_) (by simp only [List.getElem?_toArray, List.getElem?_cons_succ, List.getElem?_cons_zero]; rfl) (by kernel_rfl) (by kernel_rfl) (by kernel_rfl) (fun _ _ _ h => h) (Or.inl ⟨by rfl, ?_⟩) hHeld ?_
  rotate_left 1
  · intro w hSw
    try dsimp only at hSw
    first | (go_simp; done) | (go_simp; with_reducible rfl)
  try simp only [Act.put, List.setIfInBounds_toArray, List.set_cons_zero, List.set_cons_succ]
  refine wpAnyH_take (i := 14) (oi := _) (v := undef) (by simp only [List.getElem?_toArray, List.getElem?_cons_succ, List.getElem?_cons_zero]; rfl) (by kernel_rfl) (by kernel_rfl) (by kernel_rfl) (fun _ _ _ h => h) (Or.inr ⟨by rfl, rfl⟩) hHeld ?_
  try simp only [Act.put, List.setIfInBounds_toArray, List.set_cons_zero, List.set_cons_succ]
  refine wpAnyH_take (i := 15) (oi := _) (v := undef) (by simp only [List.getElem?_toArray, List.getElem?_cons_succ, List.getElem?_cons_zero]; rfl) (by kernel_rfl) (by kernel_rfl) (by kernel_rfl) (fun _ _ _ h => h) (Or.inr ⟨by rfl, rfl⟩) hHeld ?_
  try simp only [Act.put, List.setIfInBounds_toArray, List.set_cons_zero, List.set_cons_succ]
  refine wpAnyH_take (i := 16) (oi := _) (v := ?_) (by simp only [List.getElem?_toArray, List.getElem?_cons_succ, List.getElem?_cons_zero]; rfl) (by kernel_rfl) (by kernel_rfl) (by kernel_rfl) (fun _ _ _ h => h) (Or.inl ⟨by rfl, ?_⟩) hHeld ?_
  rotate_left 1
  · intro w hSw
    try dsimp only at hSw
    first | (go_simp; done) | (go_simp; with_reducible rfl)
  try simp only [Act.put, List.setIfInBounds_toArray, List.set_cons_zero, List.set_cons_succ]
  refine wpAnyH_take (i := 17) (oi := _) (v := ?_) (by simp only [List.getElem?_toArray, List.getElem?_cons_succ, List.getElem?_cons_zero]; rfl) (by kernel_rfl) (by kernel_rfl) (by kernel_rfl) (fun _ _ _ h => h) (Or.inl ⟨by rfl, ?_⟩) hHeld ?_
  rotate_left 1
  · intro w hSw
    try dsimp only at hSw
    first | (go_simp; done) | (go_simp; with_reducible rfl)
  try simp only [Act.put, List.setIfInBounds_toArray, List.set_cons_zero, List.set_cons_succ]
  refine wpAnyH_take (i := 18) (oi := _) (v := undef) (by simp only [List.getElem?_toArray, List.getElem?_cons_succ, List.getElem?_cons_zero]; rfl) (by kernel_rfl) (by kernel_rfl) (by kernel_rfl) (fun _ _ _ h => h) (Or.inr ⟨by rfl, rfl⟩) hHeld ?_
  try simp only [Act.put, List.setIfInBounds_toArray, List.set_cons_zero, List.set_cons_succ]
  refine wpAnyH_take (i := 19) (oi := _) (v := undef) (by simp only [List.getElem?_toArray, List.getElem?_cons_succ, List.getElem?_cons_zero]; rfl) (by kernel_rfl) (by kernel_rfl) (by kernel_rfl) (fun _ _ _ h => h) (Or.inr ⟨by rfl, rfl⟩) hHeld ?_
  try simp only [Act.put, List.setIfInBounds_toArray, List.set_cons_zero, List.set_cons_succ]
  refine wpAnyH_take (i := 20) (oi := _) (v := ?_) (by simp only [List.getElem?_toArray, List.getElem?_cons_succ, List.getElem?_cons_zero]; rfl) (by kernel_rfl) (by kernel_rfl) (by kernel_rfl) (fun _ _ _ h => h) (Or.inl ⟨by rfl, ?_⟩) hHeld ?_
  rotate_left 1
  · intro w hSw
    try dsimp only at hSw
    first | (go_simp; done) | (go_simp; with_reducible rfl)
  try simp only [Act.put, List.setIfInBounds_toArray, List.set_cons_zero, List.set_cons_succ]
  refine wpAnyH_take (i := 21) (oi := _) (v := ?_) (by simp only [List.getElem?_toArray, List.getElem?_cons_succ, List.getElem?_cons_zero]; rfl) (by kernel_rfl) (by kernel_rfl) (by kernel_rfl) (fun _ _ _ h => h) (Or.inl ⟨by rfl, ?_⟩) hHeld ?_
  rotate_left 1
  · intro w hSw
    try dsimp only at hSw
    first | (go_simp; done) | (go_simp; with_reducible rfl)
  try simp only [Act.put, List.setIfInBounds_toArray, List.set_cons_zero, List.set_cons_succ]
  refine wpAnyH_take (i := 22) (oi := _) (v := undef) (by simp only [List.getElem?_toArray, List.getElem?_cons_succ, List.getElem?_cons_zero]; rfl) (by kernel_rfl) (by kernel_rfl) (by kernel_rfl) (fun _ _ _ h => h) (Or.inr ⟨by rfl, rfl⟩) hHeld ?_
  try simp only [Act.put, List.setIfInBounds_toArray, List.set_cons_zero, List.set_cons_succ]
  refine wpAnyH_take (i := 23) (oi := _) (v := undef) (by simp only [List.getElem?_toArray, List.getElem?_cons_succ, List.getElem?_cons_zero]; rfl) (by kernel_rfl) (by kernel_rfl) (by kernel_rfl) (fun _ _ _ h => h) (Or.inr ⟨by rfl, rfl⟩) hHeld ?_
  try simp only [Act.put, List.setIfInBounds_toArray, List.set_cons_zero, List.set_cons_succ]
  refine wpAnyH_take (i := 25) (oi := _) (v := undef) (by simp only [List.getElem?_toArray, List.getElem?_cons_succ, List.getElem?_cons_zero]; rfl) (by kernel_rfl) (by kernel_rfl) (by kernel_rfl) (fun _ _ _ h => h) (Or.inr ⟨by rfl, rfl⟩) hHeld ?_
  try simp only [Act.put, List.setIfInBounds_toArray, List.set_cons_zero, List.set_cons_succ]
  refine wpAnyH_take (i := 26) (oi := _) (v := undef) (by simp only [List.getElem?_toArray, List.getElem?_cons_succ, List.getElem?_cons_zero]; rfl) (by kernel_rfl) (by kernel_rfl) (by kernel_rfl) (fun _ _ _ h => h) (Or.inr ⟨by rfl, rfl⟩) hHeld ?_
  try simp only [Act.put, List.setIfInBounds_toArray, List.set_cons_zero, List.set_cons_succ]
  refine wpAnyH_take (i := 24) (oi := _) (v := undef) (by simp only [List.getElem?_toArray, List.getElem?_cons_succ, List.getElem?_cons_zero]; rfl) (by kernel_rfl) (by kernel_rfl) (by kernel_rfl) (fun _ _ _ h => h) (Or.inr ⟨by rfl, rfl⟩) hHeld ?_
  try simp only [Act.put, List.setIfInBounds_toArray, List.set_cons_zero, List.set_cons_succ]
  refine wpAnyH_take (i := 27) (oi := _) (v := undef) (by simp only [List.getElem?_toArray, List.getElem?_cons_succ, List.getElem?_cons_zero]; rfl) (by kernel_rfl) (by kernel_rfl) (by kernel_rfl) (fun _ _ _ h => h) (Or.inr ⟨by rfl, rfl⟩) hHeld ?_
  try simp only [Act.put, List.setIfInBounds_toArray, List.set_cons_zero, List.set_cons_succ]
  refine wpAnyH_take (i := 28) (oi := _) (v := ?_) (by simp only [List.getElem?_toArray, List.getElem?_cons_succ, List.getElem?_cons_zero]; rfl) (by kernel_rfl) (by kernel_rfl) (by kernel_rfl) (fun _ _ _ h => h) (Or.inl ⟨by rfl, ?_⟩) hHeld ?_
  rotate_left 1
  · intro w hSw
    try dsimp only at hSw
    first | (go_simp; done) | (go_simp; with_reducible rfl)
  try simp only [Act.put, List.setIfInBounds_toArray, List.set_cons_zero, List.set_cons_succ]
  refine wpAnyH_done (by kernel_rfl) ?_ _
  refine NoPanic.normal ?_
  have HPX := Lib.hid ((Mods.of_below HBG.out []).blk HRES.out (by simp))
  have HBW := Lib.hid (show Below wd.heap.size wd w' from below_then (below_drew (((Below.refl _ wd).alloc (Nat.le_refl _) _).alloc (by simp) _)) (by simp [World.drew] <;> omega) HBG.out)
  obtain ⟨u0, u1, u2, f0, f1, f2⟩ := box3 HPX.out
  go_wp2_with fail
  refine bodyPost_ret (results_box rfl _ _ _ _ _ _ _ rfl (blk_set3 HPX.out _ _ _) Try.underlying24 rfl size_image) rfl ?_
  exact ⟨rfl, below_box HBW.out (by omega) _ _ _⟩

set_option maxRecDepth 100000 in
set_option maxHeartbeats 4000000 in
theorem refUnpacked_bad4 (W H w : Int) (A B : Option Addr) (n c m d : Nat) (wd : World) (_hm0 : (m : Int) ≤ 9223372036854775807) (hg : goodI W H n = true) (hm : 1 ≤ m) (hm2 : m ≤ 256) (hw : w < 1) : Calls Try.prog 13 #[.agg #[.int .i64 W, .int .i64 H, .slice A n c], .slice B m d, .int .i64 w] wd fun e w' =>
    e = .returned (.tuple #[.agg #[.int .i64 0, .int .i64 0, .slice none 0 0], .bool false]) ∧ Below wd.heap.size wd w' := by
  have hbt := bitsT_le m
  generalize hb : bitsT m = b at *
  have HB := Lib.hid hb
  clear hb
  have HG := Lib.hid hg
  clear hg
  have d3 : decide ((m : Int) < 1) = false := decide_eq_false (by omega)
  have d4 : decide ((256 : Int) < (m : Int)) = false := decide_eq_false (by omega)
  have d1 : decide (w < 1) = true := decide_eq_true (by omega)
  go_enter Try.func13, Try.ntmps13
  go_wp2_with (go_at_call 19; refine (refPack_any _ _).mono ?_; rw [bitsZ_nat, HB.out]; rintro e w' ⟨rfl, rfl⟩)
  have hbb : Below (wd.alloc (.cells #[.int .i64 W, .int .i64 H, .slice A n c] 24)).heap.size (wd.alloc (.cells #[.int .i64 W, .int .i64 H, .slice A n c] 24)) ((wd.alloc (.cells #[.int .i64 W, .int .i64 H, .slice A n c] 24)).alloc (.cells #[.int .i64 0, .int .i64 0, .slice none 0 0] 24)).drew := below_drew ((Below.refl _ _).alloc (Nat.le_refl _) _)
  have hnew : (wd.alloc (.cells #[.int .i64 W, .int .i64 H, .slice A n c] 24)).heap[wd.heap.size]? = some (.cells #[.int .i64 W, .int .i64 H, .slice A n c] 24 (0, 0)) := alloc_new _ _ _
  have q0 := pw_cell_below hbb (show (wd.alloc (.cells #[.int .i64 W, .int .i64 H, .slice A n c] 24)).cell? ⟨wd.heap.size, 0, none⟩ = some (.int .i64 W) by rw [cell_blk hnew]; rfl)
  have q1 := pw_cell_below hbb (show (wd.alloc (.cells #[.int .i64 W, .int .i64 H, .slice A n c] 24)).cell? ⟨wd.heap.size, 1, none⟩ = some (.int .i64 H) by rw [cell_blk hnew]; rfl)
  have q2 := pw_cell_below hbb (show (wd.alloc (.cells #[.int .i64 W, .int .i64 H, .slice A n c] 24)).cell? ⟨wd.heap.size, 2, none⟩ = some (.slice A n c) by rw [cell_blk hnew]; rfl)
  clear hnew
  have hres : ((wd.alloc (.cells #[.int .i64 W, .int .i64 H, .slice A n c] 24)).alloc (.cells #[.int .i64 0, .int .i64 0, .slice none 0 0] 24)).drew.heap[wd.heap.size + 1]? = some (.cells #[.int .i64 0, .int .i64 0, .slice none 0 0] 24 (0, 0)) := by
    have h := alloc_new (wd.alloc (.cells #[.int .i64 W, .int .i64 H, .slice A n c] 24)) #[.int .i64 0, .int .i64 0, .slice none 0 0] 24
    rw [World.size_alloc] at h; exact h
  have HRES := Lib.hid hres
  clear hres
  refine wp_region_noPanic ?_
  refine wp_region_held_drew (S := fun w' => w'.cell? ⟨wd.heap.size, 0, none⟩ = some (.int .i64 W) ∧ w'.cell? ⟨wd.heap.size, 1, none⟩ = some (.int .i64 H) ∧ w'.cell? ⟨wd.heap.size, 2, none⟩ = some (.slice A n c)) (by kernel_rfl) ⟨q0, q1, q2⟩ (fun hHeld => ?_)
  refine wpAnyH_take (i := 0) (oi := _) (v := ?_) (by simp only [List.getElem?_toArray, List.getElem?_cons_zero]; rfl) (by kernel_rfl) (by kernel_rfl) (by kernel_rfl) (fun _ _ _ h => h) (Or.inl ⟨by rfl, ?_⟩) hHeld ?_
  rotate_left 1
  · intro w hSw
    try dsimp only at hSw
    first | (go_simp; done) | (go_simp; with_reducible rfl)
  try simp only [Act.put, List.setIfInBounds_toArray, List.set_cons_zero, List.set_cons_succ]
  refine wpAnyH_ready (rs := [1]) (by kernel_rfl) (by simp) ?_
  refine AllReadyH.cons (o := _) (by simp only [List.getElem?_toArray, List.getElem?_cons_succ, List.getElem?_cons_zero]; rfl) (fun K hK => ?_) AllReadyH.nil
  go_simp
  refine (refGood_any W H A n c _).mono ?_
  rintro e w' ⟨rfl, hB⟩
  rw [HG.out]
  have HBG := Lib.hid hB
  clear hB
  refine hK.out _ _ ?_ (fun hHeld2 => ?_)
  · (try dsimp only)
    first | exact ⟨pw_cell_below HBG.out q0, pw_cell_below HBG.out q1, pw_cell_below HBG.out q2⟩ | exact hHeld | fail
  clear hK K hHeld
  have hHeld := hHeld2
  clear hHeld2
  try simp only [Act.put, List.setIfInBounds_toArray, List.set_cons_zero, List.set_cons_succ]
  refine wpAnyH_take (i := 2) (oi := _) (v := ?_) (by simp only [List.getElem?_toArray, List.getElem?_cons_succ, List.getElem?_cons_zero]; rfl) (by kernel_rfl) (by kernel_rfl) (by kernel_rfl) (fun _ _ _ h => h) (Or.inl ⟨by rfl, ?_⟩) hHeld ?_
  rotate_left 1
  · intro w hSw
    try dsimp only at hSw
    first | (go_simp; done) | (go_simp; with_reducible rfl)
  try simp only [Act.put, List.setIfInBounds_toArray, List.set_cons_zero, List.set_cons_succ]
  refine wpAnyH_take (i := 3) (oi := _) (v := ?_) (by simp only [List.getElem?_toArray, List.getElem?_cons_succ, List.getElem?_cons_zero]; rfl) (by kernel_rfl) (by kernel_rfl) (by kernel_rfl) (fun _ _ _ h => h) (Or.inl ⟨by rfl, ?_⟩) hHeld ?_
  rotate_left 1
  · intro w hSw
    try dsimp only at hSw
    first | (go_simp; done) | (go_simp; with_reducible rfl)
  try simp only [Act.put, List.setIfInBounds_toArray, List.set_cons_zero, List.set_cons_succ]
  refine wpAnyH_take (i := 4) (oi := _) (v := ?_) (by simp only [List.getElem?_toArray, List.getElem?_cons_succ, List.getElem?_cons_zero]; rfl) (by kernel_rfl) (by kernel_rfl) (by kernel_rfl) (fun _ _ _ h => h) (Or.inl ⟨by rfl, ?_⟩) hHeld ?_
  rotate_left 1
  · intro w hSw
    try dsimp only at hSw
    first | (go_simp; done) | (go_simp; with_reducible rfl)
  try simp only [Act.put, List.setIfInBounds_toArray, List.set_cons_zero, List.set_cons_succ]
  refine wpAnyH_take (i := 5) (oi := _) (v := ?_) (by simp only [List.getElem?_toArray, List.getElem?_cons_succ, List.getElem?_cons_zero]; rfl) (by kernel_rfl) (by kernel_rfl) (by kernel_rfl) (fun _ _ _ h => h) (Or.inl ⟨by rfl, ?_⟩) hHeld ?_
  rotate_left 1
  · intro w hSw
    try dsimp only at hSw
    first | (go_simp; done) | (go_simp; with_reducible rfl)
  try simp only [Act.put, List.setIfInBounds_toArray, List.set_cons_zero, List.set_cons_succ]
  refine wpAnyH_take (i := 6) (oi := _) (v := ?_) (by simp only [List.getElem?_toArray, List.getElem?_cons_succ, List.getElem?_cons_zero]; rfl) (by kernel_rfl) (by kernel_rfl) (by kernel_rfl) (fun _ _ _ h => h) (Or.inl ⟨by rfl, ?_⟩) hHeld ?_
  rotate_left 1
  · intro w hSw
    try dsimp only at hSw
    first | (go_simp; done) | (go_simp; with_reducible rfl)
  try simp only [Act.put, List.setIfInBounds_toArray, List.set_cons_zero, List.set_cons_succ]
  refine wpAnyH_take (i := 7) (oi := _) (v := ?_) (by simp only [List.getElem?_toArray, List.getElem?_cons_succ, List.getElem?_cons_zero]; rfl) (by kernel_rfl) (by kernel_rfl) (by kernel_rfl) (fun _ _ _ h => h) (Or.inl ⟨by rfl, ?_⟩) hHeld ?_
  rotate_left 1
  · intro w hSw
    try dsimp only at hSw
    first | (go_simp; done) | (go_simp; with_reducible rfl)
  try simp only [Act.put, List.setIfInBounds_toArray, List.set_cons_zero, List.set_cons_succ]
  refine wpAnyH_take (i := 8) (oi := _) (v := ?_) (by simp only [List.getElem?_toArray, List.getElem?_cons_succ, List.getElem?_cons_zero]; rfl) (by kernel_rfl) (by kernel_rfl) (by kernel_rfl) (fun _ _ _ h => h) (Or.inl ⟨by rfl, ?_⟩) hHeld ?_
  rotate_left 1
  · intro w hSw
    try dsimp only at hSw
    first | (go_simp; done) | (go_simp; with_reducible rfl)
  try simp only [Act.put, List.setIfInBounds_toArray, List.set_cons_zero, List.set_cons_succ]
  refine wpAnyH_take (i := 9) (oi := _) (v := ?_) (by simp only [List.getElem?_toArray, List.getElem?_cons_succ, List.getElem?_cons_zero]; rfl) (by kernel_rfl) (by kernel_rfl) (by kernel_rfl) (fun _ _ _ h => h) (Or.inl ⟨by rfl, ?_⟩) hHeld ?_
  rotate_left 1
  · intro w hSw
    try dsimp only at hSw
    first | (go_simp; done) | (go_simp; with_reducible rfl)
  try simp only [Act.put, List.setIfInBounds_toArray, List.set_cons_zero, List.set_cons_succ]
  refine wpAnyH_take (i := 10) (oi := _) (v := ?_) (by simp only [List.getElem?_toArray, List.getElem?_cons_succ, List.getElem?_cons_zero]; rfl) (by kernel_rfl) (by kernel_rfl) (by kernel_rfl) (fun _ _ _ h => h) (Or.inl ⟨by rfl, ?_⟩) hHeld ?_
  rotate_left 1
  · intro w hSw
    try dsimp only at hSw
    first | (go_simp; done) | (go_simp; with_reducible rfl)
  try simp only [Act.put, List.setIfInBounds_toArray, List.set_cons_zero, List.set_cons_succ]
  refine wpAnyH_take (i := 11) (oi := _) (v := ?_) (by simp only [List.getElem?_toArray, List.getElem?_cons_succ, List.getElem?_cons_zero]; rfl) (by kernel_rfl) (by kernel_rfl) (by kernel_rfl) (fun _ _ _ h => h) (Or.inl ⟨by rfl, ?_⟩) hHeld ?_
  rotate_left 1
  · intro w hSw
    try dsimp only at hSw
    first | (go_simp; done) | (go_simp; with_reducible rfl)
  try simp only [Act.put, List.setIfInBounds_toArray, List.set_cons_zero, List.set_cons_succ]
  refine wpAnyH_take (i := 12) (oi := _) (v := ?_) (by simp only [List.getElem?_toArray, List.getElem?_cons_succ, List.getElem?_cons_zero]; rfl) (by kernel_rfl) (by kernel_rfl) (by kernel_rfl) (fun _ _ _ h => h) (Or.inl ⟨by rfl, ?_⟩) hHeld ?_
  rotate_left 1
  · intro w hSw
    try dsimp only at hSw
    first | (go_simp; done) | (go_simp; with_reducible rfl)
  try simp only [Act.put, List.setIfInBounds_toArray, List.set_cons_zero, List.set_cons_succ]
  refine wpAnyH_take (i := 13) (oi := _) (v := ?_) (by simp only [List.getElem?_toArray, List.getElem?_cons_succ, List.getElem?_cons_zero]; rfl) (by kernel_rfl) (by kernel_rfl) (by kernel_rfl) (fun _ _ _ h => h) (Or.inl ⟨by rfl, ?_⟩) hHeld ?_
  rotate_left 1
  · intro w hSw
    try dsimp only at hSw
    first | (go_simp; done) | (go_simp; with_reducible rfl)
  try simp only [Act.put, List.setIfInBounds_toArray, List.set_cons_zero, List.set_cons_succ]
  refine wpAnyH_take (i := 14) (oi := _) (v := ?_) (by simp only [List.getElem?_toArray, List.getElem?_cons_succ, List.getElem?_cons_zero]; rfl) (by kernel_rfl) (by kernel_rfl) (by kernel_rfl) (fun _ _ _ h => h) (Or.inl ⟨by rfl, ?_⟩) hHeld ?_
  rotate_left 1
  · intro w hSw
    try dsimp only at hSw
    first | (go_simp; done) | (go_simp; with_reducible rfl)
  try simp only [Act.put, List.setIfInBounds_toArray, List.set_cons_zero, List.set_cons_succ]
  refine wpAnyH_take (i := 15) (oi := _) (v := ?_) (by simp only [List.getElem?_toArray, List.getElem?_cons_succ, List.getElem?_cons_zero]; rfl) (by kernel_rfl) (by kernel_rfl) (by kernel_rfl) (fun _ _ _ h => h) (Or.inl ⟨by rfl, ?_⟩) hHeld ?_
  rotate_left 1
  · intro w hSw
    try dsimp only at hSw
    first | (go_simp; done) | (go_simp; with_reducible rfl)
  try simp only [Act.put, List.setIfInBounds_toArray, List.set_cons_zero, List.set_cons_succ]
  refine wpAnyH_take (i := 16) (oi := _) (v := ?_) (by simp only [List.getElem?_toArray, List.getElem?_cons_succ, List.getElem?_cons_zero]; rfl) (by kernel_rfl) (by kernel_rfl) (by kernel_rfl) (fun _ _ _ h => h) (Or.inl ⟨by rfl, ?_⟩) hHeld ?_
  rotate_left 1
  · intro w hSw
    try dsimp only at hSw
    first | (go_simp; done) | (go_simp; with_reducible rfl)
  try simp only [Act.put, List.setIfInBounds_toArray, List.set_cons_zero, List.set_cons_succ]
  refine wpAnyH_take (i := 17) (oi := _) (v := ?_) (by simp only [List.getElem?_toArray, List.getElem?_cons_succ, List.getElem?_cons_zero]; rfl) (by kernel_rfl) (by kernel_rfl) (by kernel_rfl) (fun _ _ _ h => h) (Or.inl ⟨by rfl, ?_⟩) hHeld ?_
  rotate_left 1
  · intro w hSw
    try dsimp only at hSw
    first | (go_simp; done) | (go_simp; with_reducible rfl)
  try simp only [Act.put, List.setIfInBounds_toArray, List.set_cons_zero, List.set_cons_succ]
  refine wpAnyH_take (i := 18) (oi := _) (v := undef) (by simp only [List.getElem?_toArray, List.getElem?_cons_succ, List.getElem?_cons_zero]; rfl) (by kernel_rfl) (by kernel_rfl) (by kernel_rfl) (fun _ _ _ h => h) (Or.inr ⟨by rfl, rfl⟩) hHeld ?_
  try simp only [Act.put, List.setIfInBounds_toArray, List.set_cons_zero, List.set_cons_succ]
  refine wpAnyH_take (i := 19) (oi := _) (v := undef) (by simp only [List.getElem?_toArray, List.getElem?_cons_succ, List.getElem?_cons_zero]; rfl) (by kernel_rfl) (by kernel_rfl) (by kernel_rfl) (fun _ _ _ h => h) (Or.inr ⟨by rfl, rfl⟩) hHeld ?_
  try simp only [Act.put, List.setIfInBounds_toArray, List.set_cons_zero, List.set_cons_succ]
  refine wpAnyH_take (i := 20) (oi := _) (v := ?_) (by simp only [List.getElem?_toArray, List.getElem?_cons_succ, List.getElem?_cons_zero]; rfl) (by kernel_rfl) (by kernel_rfl) (by kernel_rfl) (fun _ _ _ h => h) (Or.inl ⟨by rfl, ?_⟩) hHeld ?_
  rotate_left 1
  · intro w hSw
    try dsimp only at hSw
    first | (go_simp; done) | (go_simp; with_reducible rfl)
  try simp only [Act.put, List.setIfInBounds_toArray, List.set_cons_zero, List.set_cons_succ]
  refine wpAnyH_take (i := 21) (oi := _) (v := ?_) (by simp only [List.getElem?_toArray, List.getElem?_cons_succ, List.getElem?_cons_zero]; rfl) (by kernel_rfl) (by kernel_rfl) (by kernel_rfl) (fun _ _ _ h => h) (Or.inl ⟨by rfl, ?_⟩) hHeld ?_
  rotate_left 1
  · intro w hSw
    try dsimp only at hSw
    first | (go_simp; done) | (go_simp; with_reducible rfl)
  try simp only [Act.put, List.setIfInBounds_toArray, List.set_cons_zero, List.set_cons_succ]
  refine wpAnyH_take (i := 22) (oi := _) (v := undef) (by simp only [List.getElem?_toArray, List.getElem?_cons_succ, List.getElem?_cons_zero]; rfl) (by kernel_rfl) (by kernel_rfl) (by kernel_rfl) (fun _ _ _ h => h) (Or.inr ⟨by rfl, rfl⟩) hHeld ?_
  try simp only [Act.put, List.setIfInBounds_toArray, List.set_cons_zero, List.set_cons_succ]
  refine wpAnyH_take (i := 23) (oi := _) (v := undef) (by simp only [List.getElem?_toArray, List.getElem?_cons_succ, List.getElem?_cons_zero]; rfl) (by kernel_rfl) (by kernel_rfl) (by kernel_rfl) (fun _ _ _ h => h) (Or.inr ⟨by rfl, rfl⟩) hHeld ?_
  try simp only [Act.put, List.setIfInBounds_toArray, List.set_cons_zero, List.set_cons_succ]
  refine wpAnyH_take (i := 25) (oi := _) (v := undef) (by simp only [List.getElem?_toArray, List.getElem?_cons_succ, List.getElem?_cons_zero]; rfl) (by kernel_rfl) (by kernel_rfl) (by kernel_rfl) (fun _ _ _ h => h) (Or.inr ⟨by rfl, rfl⟩) hHeld ?_
  try simp only [Act.put, List.setIfInBounds_toArray, List.set_cons_zero, List.set_cons_succ]
  refine wpAnyH_take (i := 26) (oi := _) (v := undef) (by simp only [List.getElem?_toArray, List.getElem?_cons_succ, List.getElem?_cons_zero]; rfl) (by kernel_rfl) (by kernel_rfl) (by kernel_rfl) (fun _ _ _ h => h) (Or.inr ⟨by rfl, rfl⟩) hHeld ?_
  try simp only [Act.put, List.setIfInBounds_toArray, List.set_cons_zero, List.set_cons_succ]
  refine wpAnyH_take (i := 24) (oi := _) (v := undef) (by simp only [List.getElem?_toArray, List.getElem?_cons_succ, List.getElem?_cons_zero]; rfl) (by kernel_rfl) (by kernel_rfl) (by kernel_rfl) (fun _ _ _ h => h) (Or.inr ⟨by rfl, rfl⟩) hHeld ?_
  try simp only [Act.put, List.setIfInBounds_toArray, List.set_cons_zero, List.set_cons_succ]
  refine wpAnyH_take (i := 27) (oi := _) (v := undef) (by simp only [List.getElem?_toArray, List.getElem?_cons_succ, List.getElem?_cons_zero]; rfl) (by kernel_rfl) (by kernel_rfl) (by kernel_rfl) (fun _ _ _ h => h) (Or.inr ⟨by rfl, rfl⟩) hHeld ?_
  try simp only [Act.put, List.setIfInBounds_toArray, List.set_cons_zero, List.set_cons_succ]
  refine wpAnyH_take (i := 28) (oi := _) (v := ?_) (by simp only [List.getElem?_toArray, List.getElem?_cons_succ, List.getElem?_cons_zero]; rfl) (by kernel_rfl) (by kernel_rfl) (by kernel_rfl) (fun _ _ _ h => h) (Or.inl ⟨by rfl, ?_⟩) hHeld ?_
  rotate_left 1
  · intro w hSw
    try dsimp only at hSw
    first | (go_simp; done) | (go_simp; with_reducible rfl)
  try simp only [Act.put, List.setIfInBounds_toArray, List.set_cons_zero, List.set_cons_succ]
  refine wpAnyH_done (by kernel_rfl) ?_ _
  refine NoPanic.normal ?_
  have HPX := Lib.hid ((Mods.of_below HBG.out []).blk HRES.out (by simp))
  have HBW := Lib.hid (show Below wd.heap.size wd w' from below_then (below_drew (((Below.refl _ wd).alloc (Nat.le_refl _) _).alloc (by simp) _)) (by simp [World.drew] <;> omega) HBG.out)
  obtain ⟨u0, u1, u2, f0, f1, f2⟩ := box3 HPX.out
  go_wp2_with fail
  refine bodyPost_ret (results_box rfl _ _ _ _ _ _ _ rfl (blk_set3 HPX.out _ _ _) Try.underlying24 rfl size_image) rfl ?_
  exact ⟨rfl, below_box HBW.out (by omega) _ _ _⟩

set_option maxRecDepth 100000 in
set_option maxHeartbeats 4000000 in
theorem refUnpacked_bad5 (W H w : Int) (A B : Option Addr) (n c m d : Nat) (wd : World) (_hm0 : (m : Int) ≤ 9223372036854775807) (hg : goodI W H n = true) (hm : 1 ≤ m) (hm2 : m ≤ 256) (hw : 16384 < w) : Calls Try.prog 13 #[.agg #[.int .i64 W, .int .i64 H, .slice A n c], .slice B m d, .int .i64 w] wd fun e w' =>
    e = .returned (.tuple #[.agg #[.int .i64 0, .int .i64 0, .slice none 0 0], .bool false]) ∧ Below wd.heap.size wd w' := by
  have hbt := bitsT_le m
  generalize hb : bitsT m = b at *
  have HB := Lib.hid hb
  clear hb
  have HG := Lib.hid hg
  clear hg
  have d3 : decide ((m : Int) < 1) = false := decide_eq_false (by omega)
  have d4 : decide ((256 : Int) < (m : Int)) = false := decide_eq_false (by omega)
  have d1 : decide (w < 1) = false := decide_eq_false (by omega)
  have d2 : decide (16384 < w) = true := decide_eq_true (by omega)
  go_enter Try.func13, Try.ntmps13
  go_wp2_with (go_at_call 19; refine (refPack_any _ _).mono ?_; rw [bitsZ_nat, HB.out]; rintro e w' ⟨rfl, rfl⟩)
  have hbb : Below (wd.alloc (.cells #[.int .i64 W, .int .i64 H, .slice A n c] 24)).heap.size (wd.alloc (.cells #[.int .i64 W, .int .i64 H, .slice A n c] 24)) ((wd.alloc (.cells #[.int .i64 W, .int .i64 H, .slice A n c] 24)).alloc (.cells #[.int .i64 0, .int .i64 0, .slice none 0 0] 24)).drew := below_drew ((Below.refl _ _).alloc (Nat.le_refl _) _)
  have hnew : (wd.alloc (.cells #[.int .i64 W, .int .i64 H, .slice A n c] 24)).heap[wd.heap.size]? = some (.cells #[.int .i64 W, .int .i64 H, .slice A n c] 24 (0, 0)) := alloc_new _ _ _
  have q0 := pw_cell_below hbb (show (wd.alloc (.cells #[.int .i64 W, .int .i64 H, .slice A n c] 24)).cell? ⟨wd.heap.size, 0, none⟩ = some (.int .i64 W) by rw [cell_blk hnew]; rfl)
  have q1 := pw_cell_below hbb (show (wd.alloc (.cells #[.int .i64 W, .int .i64 H, .slice A n c] 24)).cell? ⟨wd.heap.size, 1, none⟩ = some (.int .i64 H) by rw [cell_blk hnew]; rfl)
  have q2 := pw_cell_below hbb (show (wd.alloc (.cells #[.int .i64 W, .int .i64 H, .slice A n c] 24)).cell? ⟨wd.heap.size, 2, none⟩ = some (.slice A n c) by rw [cell_blk hnew]; rfl)
  clear hnew
  have hres : ((wd.alloc (.cells #[.int .i64 W, .int .i64 H, .slice A n c] 24)).alloc (.cells #[.int .i64 0, .int .i64 0, .slice none 0 0] 24)).drew.heap[wd.heap.size + 1]? = some (.cells #[.int .i64 0, .int .i64 0, .slice none 0 0] 24 (0, 0)) := by
    have h := alloc_new (wd.alloc (.cells #[.int .i64 W, .int .i64 H, .slice A n c] 24)) #[.int .i64 0, .int .i64 0, .slice none 0 0] 24
    rw [World.size_alloc] at h; exact h
  have HRES := Lib.hid hres
  clear hres
  refine wp_region_noPanic ?_
  refine wp_region_held_drew (S := fun w' => w'.cell? ⟨wd.heap.size, 0, none⟩ = some (.int .i64 W) ∧ w'.cell? ⟨wd.heap.size, 1, none⟩ = some (.int .i64 H) ∧ w'.cell? ⟨wd.heap.size, 2, none⟩ = some (.slice A n c)) (by kernel_rfl) ⟨q0, q1, q2⟩ (fun hHeld => ?_)
  refine wpAnyH_take (i := 0) (oi := _) (v := ?_) (by simp only [List.getElem?_toArray, List.getElem?_cons_zero]; rfl) (by kernel_rfl) (by kernel_rfl) (by kernel_rfl) (fun _ _ _ h => h) (Or.inl ⟨by rfl, ?_⟩) hHeld ?_
  rotate_left 1
  · intro w hSw
    try dsimp only at hSw
    first | (go_simp; done) | (go_simp; with_reducible rfl)
  try simp only [Act.put, List.setIfInBounds_toArray, List.set_cons_zero, List.set_cons_succ]
  refine wpAnyH_ready (rs := [1]) (by kernel_rfl) (by simp) ?_
  refine AllReadyH.cons (o := _) (by simp only [List.getElem?_toArray, List.getElem?_cons_succ, List.getElem?_cons_zero]; rfl) (fun K hK => ?_) AllReadyH.nil
  go_simp
  refine (refGood_any W H A n c _).mono ?_
  rintro e w' ⟨rfl, hB⟩
  rw [HG.out]
  have HBG := Lib.hid hB
  clear hB
  refine hK.out _ _ ?_ (fun hHeld2 => ?_)
  · (try dsimp only)
    first | exact ⟨pw_cell_below HBG.out q0, pw_cell_below HBG.out q1, pw_cell_below HBG.out q2⟩ | exact hHeld | fail
  clear hK K hHeld
  have hHeld := hHeld2
  clear hHeld2
  try simp only [Act.put, List.setIfInBounds_toArray, List.set_cons_zero, List.set_cons_succ]
  refine wpAnyH_take (i := 2) (oi := _) (v := ?_) (by simp only [List.getElem?_toArray, List.getElem?_cons_succ, List.getElem?_cons_zero]; rfl) (by kernel_rfl) (by kernel_rfl) (by kernel_rfl) (fun _ _ _ h => h) (Or.inl ⟨by rfl, ?_⟩) hHeld ?_
  rotate_left 1
  · intro w hSw
    try dsimp only at hSw
    first | (go_simp; done) | (go_simp; with_reducible rfl)
  try simp only [Act.put, List.setIfInBounds_toArray, List.set_cons_zero, List.set_cons_succ]
  refine wpAnyH_take (i := 3) (oi := _) (v := ?_) (by simp only [List.getElem?_toArray, List.getElem?_cons_succ, List.getElem?_cons_zero]; rfl) (by kernel_rfl) (by kernel_rfl) (by kernel_rfl) (fun _ _ _ h => h) (Or.inl ⟨by rfl, ?_⟩) hHeld ?_
  rotate_left 1
  · intro w hSw
    try dsimp only at hSw
    first | (go_simp; done) | (go_simp; with_reducible rfl)
  try simp only [Act.put, List.setIfInBounds_toArray, List.set_cons_zero, List.set_cons_succ]
  refine wpAnyH_take (i := 4) (oi := _) (v := ?_) (by simp only [List.getElem?_toArray, List.getElem?_cons_succ, List.getElem?_cons_zero]; rfl) (by kernel_rfl) (by kernel_rfl) (by kernel_rfl) (fun _ _ _ h => h) (Or.inl ⟨by rfl, ?_⟩) hHeld ?_
  rotate_left 1
  · intro w hSw
    try dsimp only at hSw
    first | (go_simp; done) | (go_simp; with_reducible rfl)
  try simp only [Act.put, List.setIfInBounds_toArray, List.set_cons_zero, List.set_cons_succ]
  refine wpAnyH_take (i := 5) (oi := _) (v := ?_) (by simp only [List.getElem?_toArray, List.getElem?_cons_succ, List.getElem?_cons_zero]; rfl) (by kernel_rfl) (by kernel_rfl) (by kernel_rfl) (fun _ _ _ h => h) (Or.inl ⟨by rfl, ?_⟩) hHeld ?_
  rotate_left 1
  · intro w hSw
    try dsimp only at hSw
    first | (go_simp; done) | (go_simp; with_reducible rfl)
  try simp only [Act.put, List.setIfInBounds_toArray, List.set_cons_zero, List.set_cons_succ]
  refine wpAnyH_take (i := 6) (oi := _) (v := ?_) (by simp only [List.getElem?_toArray, List.getElem?_cons_succ, List.getElem?_cons_zero]; rfl) (by kernel_rfl) (by kernel_rfl) (by kernel_rfl) (fun _ _ _ h => h) (Or.inl ⟨by rfl, ?_⟩) hHeld ?_
  rotate_left 1
  · intro w hSw
    try dsimp only at hSw
    first | (go_simp; done) | (go_simp; with_reducible rfl)
  try simp only [Act.put, List.setIfInBounds_toArray, List.set_cons_zero, List.set_cons_succ]
  refine wpAnyH_take (i := 7) (oi := _) (v := ?_) (by simp only [List.getElem?_toArray, List.getElem?_cons_succ, List.getElem?_cons_zero]; rfl) (by kernel_rfl) (by kernel_rfl) (by kernel_rfl) (fun _ _ _ h => h) (Or.inl ⟨by rfl, ?_⟩) hHeld ?_
  rotate_left 1
  · intro w hSw
    try dsimp only at hSw
    first | (go_simp; done) | (go_simp; with_reducible rfl)
  try simp only [Act.put, List.setIfInBounds_toArray, List.set_cons_zero, List.set_cons_succ]
  refine wpAnyH_take (i := 8) (oi := _) (v := ?_) (by simp only [List.getElem?_toArray, List.getElem?_cons_succ, List.getElem?_cons_zero]; rfl) (by kernel_rfl) (by kernel_rfl) (by kernel_rfl) (fun _ _ _ h => h) (Or.inl ⟨by rfl, ?_⟩) hHeld ?_
  rotate_left 1
  · intro w hSw
    try dsimp only at hSw
    first | (go_simp; done) | (go_simp; with_reducible rfl)
  try simp only [Act.put, List.setIfInBounds_toArray, List.set_cons_zero, List.set_cons_succ]
  refine wpAnyH_take (i := 9) (oi := _) (v := ?_) (by simp only [List.getElem?_toArray, List.getElem?_cons_succ, List.getElem?_cons_zero]; rfl) (by kernel_rfl) (by kernel_rfl) (by kernel_rfl) (fun _ _ _ h => h) (Or.inl ⟨by rfl, ?_⟩) hHeld ?_
  rotate_left 1
  · intro w hSw
    try dsimp only at hSw
    first | (go_simp; done) | (go_simp; with_reducible rfl)
  try simp only [Act.put, List.setIfInBounds_toArray, List.set_cons_zero, List.set_cons_succ]
  refine wpAnyH_take (i := 10) (oi := _) (v := ?_) (by simp only [List.getElem?_toArray, List.getElem?_cons_succ, List.getElem?_cons_zero]; rfl) (by kernel_rfl) (by kernel_rfl) (by kernel_rfl) (fun _ _ _ h => h) (Or.inl ⟨by rfl, ?_⟩) hHeld ?_
  rotate_left 1
  · intro w hSw
    try dsimp only at hSw
    first | (go_simp; done) | (go_simp; with_reducible rfl)
  try simp only [Act.put, List.setIfInBounds_toArray, List.set_cons_zero, List.set_cons_succ]
  refine wpAnyH_take (i := 11) (oi := _) (v := ?_) (by simp only [List.getElem?_toArray, List.getElem?_cons_succ, List.getElem?_cons_zero]; rfl) (by kernel_rfl) (by kernel_rfl) (by kernel_rfl) (fun _ _ _ h => h) (Or.inl ⟨by rfl, ?_⟩) hHeld ?_
  rotate_left 1
  · intro w hSw
    try dsimp only at hSw
    first | (go_simp; done) | (go_simp; with_reducible rfl)
  try simp only [Act.put, List.setIfInBounds_toArray, List.set_cons_zero, List.set_cons_succ]
  refine wpAnyH_take (i := 12) (oi := _) (v := ?_) (by simp only [List.getElem?_toArray, List.getElem?_cons_succ, List.getElem?_cons_zero]; rfl) (by kernel_rfl) (by kernel_rfl) (by kernel_rfl) (fun _ _ _ h => h) (Or.inl ⟨by rfl, ?_⟩) hHeld ?_
  rotate_left 1
  · intro w hSw
    try dsimp only at hSw
    first | (go_simp; done) | (go_simp; with_reducible rfl)
  try simp only [Act.put, List.setIfInBounds_toArray, List.set_cons_zero, List.set_cons_succ]
  refine wpAnyH_take (i := 13) (oi := _) (v := ?_) (by simp only [List.getElem?_toArray, List.getElem?_cons_succ, List.getElem?_cons_zero]; rfl) (by kernel_rfl) (by kernel_rfl) (by kernel_rfl) (fun _ _ _ h => h) (Or.inl ⟨by rfl, ?_⟩) hHeld ?_
  rotate_left 1
  · intro w hSw
    try dsimp only at hSw
    first | (go_simp; done) | (go_simp; with_reducible rfl)
  try simp only [Act.put, List.setIfInBounds_toArray, List.set_cons_zero, List.set_cons_succ]
  refine wpAnyH_take (i := 14) (oi := _) (v := ?_) (by simp only [List.getElem?_toArray, List.getElem?_cons_succ, List.getElem?_cons_zero]; rfl) (by kernel_rfl) (by kernel_rfl) (by kernel_rfl) (fun _ _ _ h => h) (Or.inl ⟨by rfl, ?_⟩) hHeld ?_
  rotate_left 1
  · intro w hSw
    try dsimp only at hSw
    first | (go_simp; done) | (go_simp; with_reducible rfl)
  try simp only [Act.put, List.setIfInBounds_toArray, List.set_cons_zero, List.set_cons_succ]
  refine wpAnyH_take (i := 15) (oi := _) (v := ?_) (by simp only [List.getElem?_toArray, List.getElem?_cons_succ, List.getElem?_cons_zero]; rfl) (by kernel_rfl) (by kernel_rfl) (by kernel_rfl) (fun _ _ _ h => h) (Or.inl ⟨by rfl, ?_⟩) hHeld ?_
  rotate_left 1
  · intro w hSw
    try dsimp only at hSw
    first | (go_simp; done) | (go_simp; with_reducible rfl)
  try simp only [Act.put, List.setIfInBounds_toArray, List.set_cons_zero, List.set_cons_succ]
  refine wpAnyH_take (i := 16) (oi := _) (v := ?_) (by simp only [List.getElem?_toArray, List.getElem?_cons_succ, List.getElem?_cons_zero]; rfl) (by kernel_rfl) (by kernel_rfl) (by kernel_rfl) (fun _ _ _ h => h) (Or.inl ⟨by rfl, ?_⟩) hHeld ?_
  rotate_left 1
  · intro w hSw
    try dsimp only at hSw
    first | (go_simp; done) | (go_simp; with_reducible rfl)
  try simp only [Act.put, List.setIfInBounds_toArray, List.set_cons_zero, List.set_cons_succ]
  refine wpAnyH_take (i := 17) (oi := _) (v := ?_) (by simp only [List.getElem?_toArray, List.getElem?_cons_succ, List.getElem?_cons_zero]; rfl) (by kernel_rfl) (by kernel_rfl) (by kernel_rfl) (fun _ _ _ h => h) (Or.inl ⟨by rfl, ?_⟩) hHeld ?_
  rotate_left 1
  · intro w hSw
    try dsimp only at hSw
    first | (go_simp; done) | (go_simp; with_reducible rfl)
  try simp only [Act.put, List.setIfInBounds_toArray, List.set_cons_zero, List.set_cons_succ]
  refine wpAnyH_take (i := 18) (oi := _) (v := ?_) (by simp only [List.getElem?_toArray, List.getElem?_cons_succ, List.getElem?_cons_zero]; rfl) (by kernel_rfl) (by kernel_rfl) (by kernel_rfl) (fun _ _ _ h => h) (Or.inl ⟨by rfl, ?_⟩) hHeld ?_
  rotate_left 1
  · intro w hSw
    try dsimp only at hSw
    first | (go_simp; done) | (go_simp; with_reducible rfl)
  try simp only [Act.put, List.setIfInBounds_toArray, List.set_cons_zero, List.set_cons_succ]
  refine wpAnyH_take (i := 19) (oi := _) (v := ?_) (by simp only [List.getElem?_toArray, List.getElem?_cons_succ, List.getElem?_cons_zero]; rfl) (by kernel_rfl) (by kernel_rfl) (by kernel_rfl) (fun _ _ _ h => h) (Or.inl ⟨by rfl, ?_⟩) hHeld ?_
  rotate_left 1
  · intro w hSw
    try dsimp only at hSw
    first | (go_simp; done) | (go_simp; with_reducible rfl)
  try simp only [Act.put, List.setIfInBounds_toArray, List.set_cons_zero, List.set_cons_succ]
  refine wpAnyH_take (i := 20) (oi := _) (v := ?_) (by simp only [List.getElem?_toArray, List.getElem?_cons_succ, List.getElem?_cons_zero]; rfl) (by kernel_rfl) (by kernel_rfl) (by kernel_rfl) (fun _ _ _ h => h) (Or.inl ⟨by rfl, ?_⟩) hHeld ?_
  rotate_left 1
  · intro w hSw
    try dsimp only at hSw
    first | (go_simp; done) | (go_simp; with_reducible rfl)
  try simp only [Act.put, List.setIfInBounds_toArray, List.set_cons_zero, List.set_cons_succ]
  refine wpAnyH_take (i := 21) (oi := _) (v := ?_) (by simp only [List.getElem?_toArray, List.getElem?_cons_succ, List.getElem?_cons_zero]; rfl) (by kernel_rfl) (by kernel_rfl) (by kernel_rfl) (fun _ _ _ h => h) (Or.inl ⟨by rfl, ?_⟩) hHeld ?_
  rotate_left 1
  · intro w hSw
    try dsimp only at hSw
    first | (go_simp; done) | (go_simp; with_reducible rfl)
  try simp only [Act.put, List.setIfInBounds_toArray, List.set_cons_zero, List.set_cons_succ]
  refine wpAnyH_take (i := 22) (oi := _) (v := undef) (by simp only [List.getElem?_toArray, List.getElem?_cons_succ, List.getElem?_cons_zero]; rfl) (by kernel_rfl) (by kernel_rfl) (by kernel_rfl) (fun _ _ _ h => h) (Or.inr ⟨by rfl, rfl⟩) hHeld ?_
  try simp only [Act.put, List.setIfInBounds_toArray, List.set_cons_zero, List.set_cons_succ]
  refine wpAnyH_take (i := 23) (oi := _) (v := undef) (by simp only [List.getElem?_toArray, List.getElem?_cons_succ, List.getElem?_cons_zero]; rfl) (by kernel_rfl) (by kernel_rfl) (by kernel_rfl) (fun _ _ _ h => h) (Or.inr ⟨by rfl, rfl⟩) hHeld ?_
  try simp only [Act.put, List.setIfInBounds_toArray, List.set_cons_zero, List.set_cons_succ]
  refine wpAnyH_take (i := 25) (oi := _) (v := undef) (by simp only [List.getElem?_toArray, List.getElem?_cons_succ, List.getElem?_cons_zero]; rfl) (by kernel_rfl) (by kernel_rfl) (by kernel_rfl) (fun _ _ _ h => h) (Or.inr ⟨by rfl, rfl⟩) hHeld ?_
  try simp only [Act.put, List.setIfInBounds_toArray, List.set_cons_zero, List.set_cons_succ]
  refine wpAnyH_take (i := 26) (oi := _) (v := undef) (by simp only [List.getElem?_toArray, List.getElem?_cons_succ, List.getElem?_cons_zero]; rfl) (by kernel_rfl) (by kernel_rfl) (by kernel_rfl) (fun _ _ _ h => h) (Or.inr ⟨by rfl, rfl⟩) hHeld ?_
  try simp only [Act.put, List.setIfInBounds_toArray, List.set_cons_zero, List.set_cons_succ]
  refine wpAnyH_take (i := 24) (oi := _) (v := undef) (by simp only [List.getElem?_toArray, List.getElem?_cons_succ, List.getElem?_cons_zero]; rfl) (by kernel_rfl) (by kernel_rfl) (by kernel_rfl) (fun _ _ _ h => h) (Or.inr ⟨by rfl, rfl⟩) hHeld ?_
  try simp only [Act.put, List.setIfInBounds_toArray, List.set_cons_zero, List.set_cons_succ]
  refine wpAnyH_take (i := 27) (oi := _) (v := undef) (by simp only [List.getElem?_toArray, List.getElem?_cons_succ, List.getElem?_cons_zero]; rfl) (by kernel_rfl) (by kernel_rfl) (by kernel_rfl) (fun _ _ _ h => h) (Or.inr ⟨by rfl, rfl⟩) hHeld ?_
  try simp only [Act.put, List.setIfInBounds_toArray, List.set_cons_zero, List.set_cons_succ]
  refine wpAnyH_take (i := 28) (oi := _) (v := ?_) (by simp only [List.getElem?_toArray, List.getElem?_cons_succ, List.getElem?_cons_zero]; rfl) (by kernel_rfl) (by kernel_rfl) (by kernel_rfl) (fun _ _ _ h => h) (Or.inl ⟨by rfl, ?_⟩) hHeld ?_
  rotate_left 1
  · intro w hSw
    try dsimp only at hSw
    first | (go_simp; done) | (go_simp; with_reducible rfl)
  try simp only [Act.put, List.setIfInBounds_toArray, List.set_cons_zero, List.set_cons_succ]
  refine wpAnyH_done (by kernel_rfl) ?_ _
  refine NoPanic.normal ?_
  have HPX := Lib.hid ((Mods.of_below HBG.out []).blk HRES.out (by simp))
  have HBW := Lib.hid (show Below wd.heap.size wd w' from below_then (below_drew (((Below.refl _ wd).alloc (Nat.le_refl _) _).alloc (by simp) _)) (by simp [World.drew] <;> omega) HBG.out)
  obtain ⟨u0, u1, u2, f0, f1, f2⟩ := box3 HPX.out
  go_wp2_with fail
  refine bodyPost_ret (results_box rfl _ _ _ _ _ _ _ rfl (blk_set3 HPX.out _ _ _) Try.underlying24 rfl size_image) rfl ?_
  exact ⟨rfl, below_box HBW.out (by omega) _ _ _⟩

set_option maxRecDepth 100000 in
set_option maxHeartbeats 4000000 in
theorem refUnpacked_bad6 (W H w : Int) (A B : Option Addr) (n c m d : Nat) (wd : World) (_hm0 : (m : Int) ≤ 9223372036854775807) (hg : goodI W H n = true) (hm : 1 ≤ m) (hm2 : m ≤ 256) (hw : 1 ≤ w) (hw2 : w ≤ 16384) (hne : blocksI w (bitsT m) ≠ W) : Calls Try.prog 13 #[.agg #[.int .i64 W, .int .i64 H, .slice A n c], .slice B m d, .int .i64 w] wd fun e w' =>
    e = .returned (.tuple #[.agg #[.int .i64 0, .int .i64 0, .slice none 0 0], .bool false]) ∧ Below wd.heap.size wd w' := by
  have hbt := bitsT_le m
  generalize hb : bitsT m = b at *
  have HB := Lib.hid hb
  clear hb
  have HG := Lib.hid hg
  clear hg
  have d3 : decide ((m : Int) < 1) = false := decide_eq_false (by omega)
  have d4 : decide ((256 : Int) < (m : Int)) = false := decide_eq_false (by omega)
  have d1 : decide (w < 1) = false := decide_eq_false (by omega)
  have d2 : decide (16384 < w) = false := decide_eq_false (by omega)
  have hbn : (blocksI w b == W) = false := by simpa using hne
  clear hne
  go_enter Try.func13, Try.ntmps13
  go_wp2_with (go_at_call 19; refine (refPack_any _ _).mono ?_; rw [bitsZ_nat, HB.out]; rintro e w' ⟨rfl, rfl⟩)
  have hbb : Below (wd.alloc (.cells #[.int .i64 W, .int .i64 H, .slice A n c] 24)).heap.size (wd.alloc (.cells #[.int .i64 W, .int .i64 H, .slice A n c] 24)) ((wd.alloc (.cells #[.int .i64 W, .int .i64 H, .slice A n c] 24)).alloc (.cells #[.int .i64 0, .int .i64 0, .slice none 0 0] 24)).drew := below_drew ((Below.refl _ _).alloc (Nat.le_refl _) _)
  have hnew : (wd.alloc (.cells #[.int .i64 W, .int .i64 H, .slice A n c] 24)).heap[wd.heap.size]? = some (.cells #[.int .i64 W, .int .i64 H, .slice A n c] 24 (0, 0)) := alloc_new _ _ _
  have q0 := pw_cell_below hbb (show (wd.alloc (.cells #[.int .i64 W, .int .i64 H, .slice A n c] 24)).cell? ⟨wd.heap.size, 0, none⟩ = some (.int .i64 W) by rw [cell_blk hnew]; rfl)
  have q1 := pw_cell_below hbb (show (wd.alloc (.cells #[.int .i64 W, .int .i64 H, .slice A n c] 24)).cell? ⟨wd.heap.size, 1, none⟩ = some (.int .i64 H) by rw [cell_blk hnew]; rfl)
  have q2 := pw_cell_below hbb (show (wd.alloc (.cells #[.int .i64 W, .int .i64 H, .slice A n c] 24)).cell? ⟨wd.heap.size, 2, none⟩ = some (.slice A n c) by rw [cell_blk hnew]; rfl)
  clear hnew
  have hres : ((wd.alloc (.cells #[.int .i64 W, .int .i64 H, .slice A n c] 24)).alloc (.cells #[.int .i64 0, .int .i64 0, .slice none 0 0] 24)).drew.heap[wd.heap.size + 1]? = some (.cells #[.int .i64 0, .int .i64 0, .slice none 0 0] 24 (0, 0)) := by
    have h := alloc_new (wd.alloc (.cells #[.int .i64 W, .int .i64 H, .slice A n c] 24)) #[.int .i64 0, .int .i64 0, .slice none 0 0] 24
    rw [World.size_alloc] at h; exact h
  have HRES := Lib.hid hres
  clear hres
  refine wp_region_noPanic ?_
  refine wp_region_held_drew (S := fun w' => w'.cell? ⟨wd.heap.size, 0, none⟩ = some (.int .i64 W) ∧ w'.cell? ⟨wd.heap.size, 1, none⟩ = some (.int .i64 H) ∧ w'.cell? ⟨wd.heap.size, 2, none⟩ = some (.slice A n c)) (by kernel_rfl) ⟨q0, q1, q2⟩ (fun hHeld => ?_)
  refine wpAnyH_take (i := 0) (oi := _) (v := ?_) (by simp only [List.getElem?_toArray, List.getElem?_cons_zero]; rfl) (by kernel_rfl) (by kernel_rfl) (by kernel_rfl) (fun _ _ _ h => h) (Or.inl ⟨by rfl, ?_⟩) hHeld ?_
  rotate_left 1
  · intro w hSw
    try dsimp only at hSw
    first | (go_simp; done) | (go_simp; with_reducible rfl)
  try simp only [Act.put, List.setIfInBounds_toArray, List.set_cons_zero, List.set_cons_succ]
  refine wpAnyH_ready (rs := [1]) (by kernel_rfl) (by simp) ?_
  refine AllReadyH.cons (o := _) (by simp only [List.getElem?_toArray, List.getElem?_cons_succ, List.getElem?_cons_zero]; rfl) (fun K hK => ?_) AllReadyH.nil
  go_simp
  refine (refGood_any W H A n c _).mono ?_
  rintro e w' ⟨rfl, hB⟩
  rw [HG.out]
  have HBG := Lib.hid hB
  clear hB
  refine hK.out _ _ ?_ (fun hHeld2 => ?_)
  · (try dsimp only)
    first | exact ⟨pw_cell_below HBG.out q0, pw_cell_below HBG.out q1, pw_cell_below HBG.out q2⟩ | exact hHeld | fail
  clear hK K hHeld
  have hHeld := hHeld2
  clear hHeld2
  try simp only [Act.put, List.setIfInBounds_toArray, List.set_cons_zero, List.set_cons_succ]
  refine wpAnyH_take (i := 2) (oi := _) (v := ?_) (by simp only [List.getElem?_toArray, List.getElem?_cons_succ, List.getElem?_cons_zero]; rfl) (by kernel_rfl) (by kernel_rfl) (by kernel_rfl) (fun _ _ _ h => h) (Or.inl ⟨by rfl, ?_⟩) hHeld ?_
  rotate_left 1
  · intro w hSw
    try dsimp only at hSw
    first | (go_simp; done) | (go_simp; with_reducible rfl)
  try simp only [Act.put, List.setIfInBounds_toArray, List.set_cons_zero, List.set_cons_succ]
  refine wpAnyH_take (i := 3) (oi := _) (v := ?_) (by simp only [List.getElem?_toArray, List.getElem?_cons_succ, List.getElem?_cons_zero]; rfl) (by kernel_rfl) (by kernel_rfl) (by kernel_rfl) (fun _ _ _ h => h) (Or.inl ⟨by rfl, ?_⟩) hHeld ?_
  rotate_left 1
  · intro w hSw
    try dsimp only at hSw
    first | (go_simp; done) | (go_simp; with_reducible rfl)
  try simp only [Act.put, List.setIfInBounds_toArray, List.set_cons_zero, List.set_cons_succ]
  refine wpAnyH_take (i := 4) (oi := _) (v := ?_) (by simp only [List.getElem?_toArray, List.getElem?_cons_succ, List.getElem?_cons_zero]; rfl) (by kernel_rfl) (by kernel_rfl) (by kernel_rfl) (fun _ _ _ h => h) (Or.inl ⟨by rfl, ?_⟩) hHeld ?_
  rotate_left 1
  · intro w hSw
    try dsimp only at hSw
    first | (go_simp; done) | (go_simp; with_reducible rfl)
  try simp only [Act.put, List.setIfInBounds_toArray, List.set_cons_zero, List.set_cons_succ]
  refine wpAnyH_take (i := 5) (oi := _) (v := ?_) (by simp only [List.getElem?_toArray, List.getElem?_cons_succ, List.getElem?_cons_zero]; rfl) (by kernel_rfl) (by kernel_rfl) (by kernel_rfl) (fun _ _ _ h => h) (Or.inl ⟨by rfl, ?_⟩) hHeld ?_
  rotate_left 1
  · intro w hSw
    try dsimp only at hSw
    first | (go_simp; done) | (go_simp; with_reducible rfl)
  try simp only [Act.put, List.setIfInBounds_toArray, List.set_cons_zero, List.set_cons_succ]
  refine wpAnyH_take (i := 6) (oi := _) (v := ?_) (by simp only [List.getElem?_toArray, List.getElem?_cons_succ, List.getElem?_cons_zero]; rfl) (by kernel_rfl) (by kernel_rfl) (by kernel_rfl) (fun _ _ _ h => h) (Or.inl ⟨by rfl, ?_⟩) hHeld ?_
  rotate_left 1
  · intro w hSw
    try dsimp only at hSw
    first | (go_simp; done) | (go_simp; with_reducible rfl)
  try simp only [Act.put, List.setIfInBounds_toArray, List.set_cons_zero, List.set_cons_succ]
  refine wpAnyH_take (i := 7) (oi := _) (v := ?_) (by simp only [List.getElem?_toArray, List.getElem?_cons_succ, List.getElem?_cons_zero]; rfl) (by kernel_rfl) (by kernel_rfl) (by kernel_rfl) (fun _ _ _ h => h) (Or.inl ⟨by rfl, ?_⟩) hHeld ?_
  rotate_left 1
  · intro w hSw
    try dsimp only at hSw
    first | (go_simp; done) | (go_simp; with_reducible rfl)
  try simp only [Act.put, List.setIfInBounds_toArray, List.set_cons_zero, List.set_cons_succ]
  refine wpAnyH_take (i := 8) (oi := _) (v := ?_) (by simp only [List.getElem?_toArray, List.getElem?_cons_succ, List.getElem?_cons_zero]; rfl) (by kernel_rfl) (by kernel_rfl) (by kernel_rfl) (fun _ _ _ h => h) (Or.inl ⟨by rfl, ?_⟩) hHeld ?_
  rotate_left 1
  · intro w hSw
    try dsimp only at hSw
    first | (go_simp; done) | (go_simp; with_reducible rfl)
  try simp only [Act.put, List.setIfInBounds_toArray, List.set_cons_zero, List.set_cons_succ]
  refine wpAnyH_take (i := 9) (oi := _) (v := ?_) (by simp only [List.getElem?_toArray, List.getElem?_cons_succ, List.getElem?_cons_zero]; rfl) (by kernel_rfl) (by kernel_rfl) (by kernel_rfl) (fun _ _ _ h => h) (Or.inl ⟨by rfl, ?_⟩) hHeld ?_
  rotate_left 1
  · intro w hSw
    try dsimp only at hSw
    first | (go_simp; done) | (go_simp; with_reducible rfl)
  try simp only [Act.put, List.setIfInBounds_toArray, List.set_cons_zero, List.set_cons_succ]
  refine wpAnyH_take (i := 10) (oi := _) (v := ?_) (by simp only [List.getElem?_toArray, List.getElem?_cons_succ, List.getElem?_cons_zero]; rfl) (by kernel_rfl) (by kernel_rfl) (by kernel_rfl) (fun _ _ _ h => h) (Or.inl ⟨by rfl, ?_⟩) hHeld ?_
  rotate_left 1
  · intro w hSw
    try dsimp only at hSw
    first | (go_simp; done) | (go_simp; with_reducible rfl)
  try simp only [Act.put, List.setIfInBounds_toArray, List.set_cons_zero, List.set_cons_succ]
  refine wpAnyH_take (i := 11) (oi := _) (v := ?_) (by simp only [List.getElem?_toArray, List.getElem?_cons_succ, List.getElem?_cons_zero]; rfl) (by kernel_rfl) (by kernel_rfl) (by kernel_rfl) (fun _ _ _ h => h) (Or.inl ⟨by rfl, ?_⟩) hHeld ?_
  rotate_left 1
  · intro w hSw
    try dsimp only at hSw
    first | (go_simp; done) | (go_simp; with_reducible rfl)
  try simp only [Act.put, List.setIfInBounds_toArray, List.set_cons_zero, List.set_cons_succ]
  refine wpAnyH_take (i := 12) (oi := _) (v := ?_) (by simp only [List.getElem?_toArray, List.getElem?_cons_succ, List.getElem?_cons_zero]; rfl) (by kernel_rfl) (by kernel_rfl) (by kernel_rfl) (fun _ _ _ h => h) (Or.inl ⟨by rfl, ?_⟩) hHeld ?_
  rotate_left 1
  · intro w hSw
    try dsimp only at hSw
    first | (go_simp; done) | (go_simp; with_reducible rfl)
  try simp only [Act.put, List.setIfInBounds_toArray, List.set_cons_zero, List.set_cons_succ]
  refine wpAnyH_take (i := 13) (oi := _) (v := ?_) (by simp only [List.getElem?_toArray, List.getElem?_cons_succ, List.getElem?_cons_zero]; rfl) (by kernel_rfl) (by kernel_rfl) (by kernel_rfl) (fun _ _ _ h => h) (Or.inl ⟨by rfl, ?_⟩) hHeld ?_
  rotate_left 1
  · intro w hSw
    try dsimp only at hSw
    first | (go_simp; done) | (go_simp; with_reducible rfl)
  try simp only [Act.put, List.setIfInBounds_toArray, List.set_cons_zero, List.set_cons_succ]
  refine wpAnyH_take (i := 14) (oi := _) (v := ?_) (by simp only [List.getElem?_toArray, List.getElem?_cons_succ, List.getElem?_cons_zero]; rfl) (by kernel_rfl) (by kernel_rfl) (by kernel_rfl) (fun _ _ _ h => h) (Or.inl ⟨by rfl, ?_⟩) hHeld ?_
  rotate_left 1
  · intro w hSw
    try dsimp only at hSw
    first | (go_simp; done) | (go_simp; with_reducible rfl)
  try simp only [Act.put, List.setIfInBounds_toArray, List.set_cons_zero, List.set_cons_succ]
  refine wpAnyH_take (i := 15) (oi := _) (v := ?_) (by simp only [List.getElem?_toArray, List.getElem?_cons_succ, List.getElem?_cons_zero]; rfl) (by kernel_rfl) (by kernel_rfl) (by kernel_rfl) (fun _ _ _ h => h) (Or.inl ⟨by rfl, ?_⟩) hHeld ?_
  rotate_left 1
  · intro w hSw
    try dsimp only at hSw
    first | (go_simp; done) | (go_simp; with_reducible rfl)
  try simp only [Act.put, List.setIfInBounds_toArray, List.set_cons_zero, List.set_cons_succ]
  refine wpAnyH_take (i := 16) (oi := _) (v := ?_) (by simp only [List.getElem?_toArray, List.getElem?_cons_succ, List.getElem?_cons_zero]; rfl) (by kernel_rfl) (by kernel_rfl) (by kernel_rfl) (fun _ _ _ h => h) (Or.inl ⟨by rfl, ?_⟩) hHeld ?_
  rotate_left 1
  · intro w hSw
    try dsimp only at hSw
    first | (go_simp; done) | (go_simp; with_reducible rfl)
  try simp only [Act.put, List.setIfInBounds_toArray, List.set_cons_zero, List.set_cons_succ]
  refine wpAnyH_take (i := 17) (oi := _) (v := ?_) (by simp only [List.getElem?_toArray, List.getElem?_cons_succ, List.getElem?_cons_zero]; rfl) (by kernel_rfl) (by kernel_rfl) (by kernel_rfl) (fun _ _ _ h => h) (Or.inl ⟨by rfl, ?_⟩) hHeld ?_
  rotate_left 1
  · intro w hSw
    try dsimp only at hSw
    first | (go_simp; done) | (go_simp; with_reducible rfl)
  try simp only [Act.put, List.setIfInBounds_toArray, List.set_cons_zero, List.set_cons_succ]
  refine wpAnyH_take (i := 18) (oi := _) (v := ?_) (by simp only [List.getElem?_toArray, List.getElem?_cons_succ, List.getElem?_cons_zero]; rfl) (by kernel_rfl) (by kernel_rfl) (by kernel_rfl) (fun _ _ _ h => h) (Or.inl ⟨by rfl, ?_⟩) hHeld ?_
  rotate_left 1
  · intro w hSw
    try dsimp only at hSw
    first | (go_simp; done) | (go_simp; with_reducible rfl)
  try simp only [Act.put, List.setIfInBounds_toArray, List.set_cons_zero, List.set_cons_succ]
  refine wpAnyH_take (i := 19) (oi := _) (v := ?_) (by simp only [List.getElem?_toArray, List.getElem?_cons_succ, List.getElem?_cons_zero]; rfl) (by kernel_rfl) (by kernel_rfl) (by kernel_rfl) (fun _ _ _ h => h) (Or.inl ⟨by rfl, ?_⟩) hHeld ?_
  rotate_left 1
  · intro w hSw
    try dsimp only at hSw
    first | (go_simp; done) | (go_simp; with_reducible rfl)
  try simp only [Act.put, List.setIfInBounds_toArray, List.set_cons_zero, List.set_cons_succ]
  refine wpAnyH_take (i := 20) (oi := _) (v := ?_) (by simp only [List.getElem?_toArray, List.getElem?_cons_succ, List.getElem?_cons_zero]; rfl) (by kernel_rfl) (by kernel_rfl) (by kernel_rfl) (fun _ _ _ h => h) (Or.inl ⟨by rfl, ?_⟩) hHeld ?_
  rotate_left 1
  · intro w hSw
    try dsimp only at hSw
    first | (go_simp; done) | (go_simp; with_reducible rfl)
  try simp only [Act.put, List.setIfInBounds_toArray, List.set_cons_zero, List.set_cons_succ]
  refine wpAnyH_take (i := 21) (oi := _) (v := ?_) (by simp only [List.getElem?_toArray, List.getElem?_cons_succ, List.getElem?_cons_zero]; rfl) (by kernel_rfl) (by kernel_rfl) (by kernel_rfl) (fun _ _ _ h => h) (Or.inl ⟨by rfl, ?_⟩) hHeld ?_
  rotate_left 1
  · intro w hSw
    try dsimp only at hSw
    first | (go_simp; done) | (go_simp; with_reducible rfl)
  try simp only [Act.put, List.setIfInBounds_toArray, List.set_cons_zero, List.set_cons_succ]
  refine wpAnyH_take (i := 22) (oi := _) (v := ?_) (by simp only [List.getElem?_toArray, List.getElem?_cons_succ, List.getElem?_cons_zero]; rfl) (by kernel_rfl) (by kernel_rfl) (by kernel_rfl) (fun _ _ _ h => h) (Or.inl ⟨by rfl, ?_⟩) hHeld ?_
  rotate_left 1
  · intro w hSw
    try dsimp only at hSw
    first | (go_simp; done) | (go_simp; with_reducible rfl)
  try simp only [Act.put, List.setIfInBounds_toArray, List.set_cons_zero, List.set_cons_succ]
  refine wpAnyH_take (i := 23) (oi := _) (v := ?_) (by simp only [List.getElem?_toArray, List.getElem?_cons_succ, List.getElem?_cons_zero]; rfl) (by kernel_rfl) (by kernel_rfl) (by kernel_rfl) (fun _ _ _ h => h) (Or.inl ⟨by rfl, ?_⟩) hHeld ?_
  rotate_left 1
  · intro w hSw
    try dsimp only at hSw
    first | (go_simp; done) | (go_simp; with_reducible rfl)
  try simp only [Act.put, List.setIfInBounds_toArray, List.set_cons_zero, List.set_cons_succ]
  refine wpAnyH_take (i := 25) (oi := _) (v := ?_) (by simp only [List.getElem?_toArray, List.getElem?_cons_succ, List.getElem?_cons_zero]; rfl) (by kernel_rfl) (by kernel_rfl) (by kernel_rfl) (fun _ _ _ h => h) (Or.inl ⟨by rfl, ?_⟩) hHeld ?_
  rotate_left 1
  · intro w hSw
    try dsimp only at hSw
    first | (go_simp; done) | (go_simp; with_reducible rfl)
  try simp only [Act.put, List.setIfInBounds_toArray, List.set_cons_zero, List.set_cons_succ]
  refine wpAnyH_take (i := 26) (oi := _) (v := ?_) (by simp only [List.getElem?_toArray, List.getElem?_cons_succ, List.getElem?_cons_zero]; rfl) (by kernel_rfl) (by kernel_rfl) (by kernel_rfl) (fun _ _ _ h => h) (Or.inl ⟨by rfl, ?_⟩) hHeld ?_
  rotate_left 1
  · intro w hSw
    try dsimp only at hSw
    first | (go_simp; done) | (go_simp; with_reducible rfl)
  try simp only [Act.put, List.setIfInBounds_toArray, List.set_cons_zero, List.set_cons_succ]
  refine wpAnyH_ready (rs := [24]) (by kernel_rfl) (by simp) ?_
  refine AllReadyH.cons (o := _) (by simp only [List.getElem?_toArray, List.getElem?_cons_succ, List.getElem?_cons_zero]; rfl) (fun K hK => ?_) AllReadyH.nil
  go_simp
  refine (refBlocks_any w b _ (by omega) (by omega) hbt).mono ?_
  rintro e w2' ⟨rfl, rfl⟩
  refine hK.out _ _ ?_ (fun hHeld2 => ?_)
  · (try dsimp only)
    first | exact ⟨pw_cell_below HBG.out q0, pw_cell_below HBG.out q1, pw_cell_below HBG.out q2⟩ | exact hHeld | fail
  clear hK K hHeld
  have hHeld := hHeld2
  clear hHeld2
  try simp only [Act.put, List.setIfInBounds_toArray, List.set_cons_zero, List.set_cons_succ]
  refine wpAnyH_take (i := 27) (oi := _) (v := ?_) (by simp only [List.getElem?_toArray, List.getElem?_cons_succ, List.getElem?_cons_zero]; rfl) (by kernel_rfl) (by kernel_rfl) (by kernel_rfl) (fun _ _ _ h => h) (Or.inl ⟨by rfl, ?_⟩) hHeld ?_
  rotate_left 1
  · intro w hSw
    try dsimp only at hSw
    first | (go_simp; done) | (go_simp; with_reducible rfl)
  try simp only [Act.put, List.setIfInBounds_toArray, List.set_cons_zero, List.set_cons_succ]
  refine wpAnyH_take (i := 28) (oi := _) (v := ?_) (by simp only [List.getElem?_toArray, List.getElem?_cons_succ, List.getElem?_cons_zero]; rfl) (by kernel_rfl) (by kernel_rfl) (by kernel_rfl) (fun _ _ _ h => h) (Or.inl ⟨by rfl, ?_⟩) hHeld ?_
  rotate_left 1
  · intro w hSw
    try dsimp only at hSw
    first | (go_simp; done) | (go_simp; with_reducible rfl)
  try simp only [Act.put, List.setIfInBounds_toArray, List.set_cons_zero, List.set_cons_succ]
  refine wpAnyH_done (by kernel_rfl) ?_ _
  refine NoPanic.normal ?_
  have HPX := Lib.hid ((Mods.of_below HBG.out []).blk HRES.out (by simp))
  have HBW := Lib.hid (show Below wd.heap.size wd w' from below_then (below_drew (((Below.refl _ wd).alloc (Nat.le_refl _) _).alloc (by simp) _)) (by simp [World.drew] <;> omega) HBG.out)
  obtain ⟨u0, u1, u2, f0, f1, f2⟩ := box3 HPX.out
  go_wp2_with fail
  refine bodyPost_ret (results_box rfl _ _ _ _ _ _ _ rfl (blk_set3 HPX.out _ _ _) Try.underlying24 rfl size_image) rfl ?_
  exact ⟨rfl, below_box HBW.out (by omega) _ _ _⟩

end Go.Proofs.Ytmgkdlkjcncniaa

/- table.Pack, table.Unpack, and the reference's, where something may not be. -/
namespace Go.Proofs.Ytmgkdlkjcncniaa
open Go.RowKit
open Go.Proofs.YtmgkdlkjcncniaaW.PrintWords

theorem okU_bad {W H w : Int} {n m : Nat} (h : okU W H n m w = false) : goodI W H n = false ∨ (goodI W H n = true ∧ (goodT m = false ∨ (goodT m = true ∧ (w < 1 ∨ 16384 < w ∨ (1 ≤ w ∧ w ≤ 16384 ∧ blocksI w (bitsT m) ≠ W))))) := by
  unfold okU at h
  cases hg : goodI W H n with
  | false => exact .inl rfl
  | true =>
    refine .inr ⟨rfl, ?_⟩
    rw [hg] at h
    cases ht : goodT m with
    | false => exact .inl rfl
    | true =>
      refine .inr ⟨rfl, ?_⟩
      rw [ht] at h
      by_cases h1 : w < 1
      · exact .inl h1
      by_cases h2 : 16384 < w
      · exact .inr (.inl h2)
      refine .inr (.inr ⟨by omega, by omega, fun hb => ?_⟩)
      rw [hb, decide_eq_true (show 1 ≤ w ∧ w ≤ 16384 from ⟨by omega, by omega⟩)] at h
      simp at h
theorem unpack_bad (W H w : Int) (A B : Option Addr) (n c m d : Nat) (wd : World) (hm0 : (m : Int) ≤ 9223372036854775807) (h : okU W H n m w = false) : Calls Try.prog 12 #[.agg #[.int .i64 W, .int .i64 H, .slice A n c], .slice B m d, .int .i64 w] wd fun e w' =>
    e = .returned (.tuple #[.agg #[.int .i64 0, .int .i64 0, .slice none 0 0], .int .i64 1]) ∧ Below wd.heap.size wd w' := by
  rcases okU_bad h with hg | ⟨hg, ht | ⟨ht, hw | hw | ⟨h1, h2, h3⟩⟩⟩
  · exact unpack_bad1 W H w A B n c m d wd hm0 hg
  · exact unpack_bad2 W H w A B n c m d wd hm0 hg ht
  · exact unpack_bad3 W H w A B n c m d wd hm0 hg ht hw
  · exact unpack_bad4 W H w A B n c m d wd hm0 hg ht hw
  · exact unpack_bad5 W H w A B n c m d wd hm0 hg ht h1 h2 h3
theorem refUnpacked_bad (W H w : Int) (A B : Option Addr) (n c m d : Nat) (wd : World) (hm0 : (m : Int) ≤ 9223372036854775807) (h : okU W H n m w = false) : Calls Try.prog 13 #[.agg #[.int .i64 W, .int .i64 H, .slice A n c], .slice B m d, .int .i64 w] wd fun e w' =>
    e = .returned (.tuple #[.agg #[.int .i64 0, .int .i64 0, .slice none 0 0], .bool false]) ∧ Below wd.heap.size wd w' := by
  rcases okU_bad h with hg | ⟨hg, ht | ⟨ht, hw⟩⟩
  · exact refUnpacked_bad1 W H w A B n c m d wd hm0 hg
  · unfold goodT at ht
    have ht := of_decide_eq_false ht
    by_cases hm : m < 1
    · exact refUnpacked_bad2 W H w A B n c m d wd hm0 hg hm
    · exact refUnpacked_bad3 W H w A B n c m d wd hm0 hg (by omega)
  · unfold goodT at ht
    obtain ⟨hm1, hm2⟩ := of_decide_eq_true ht
    rcases hw with hw | hw | ⟨h1, h2, h3⟩
    · exact refUnpacked_bad4 W H w A B n c m d wd hm0 hg hm1 hm2 hw
    · exact refUnpacked_bad5 W H w A B n c m d wd hm0 hg hm1 hm2 hw
    · exact refUnpacked_bad6 W H w A B n c m d wd hm0 hg hm1 hm2 h1 h2 h3

set_option maxRecDepth 100000 in
set_option maxHeartbeats 4000000 in
theorem refPacked_bad (W H : Int) (A B : Option Addr) (n c m d : Nat) (w : World) (h : okP W H n m = false) : Calls Try.prog 11 #[.agg #[.int .i64 W, .int .i64 H, .slice A n c], .slice B m d] w fun e w' =>
    e = .returned (.tuple #[.agg #[.int .i64 0, .int .i64 0, .slice none 0 0], .bool false]) ∧ Below w.heap.size w w' := by
  unfold okP at h
  have hnew := alloc_new (w.alloc (.cells #[.int .i64 W, .int .i64 H, .slice A n c] 24)) #[.int .i64 0, .int .i64 0, .slice none 0 0] 24
  rw [World.size_alloc] at hnew
  have HNEW := Lib.hid hnew
  have hb0 := ((Below.refl _ w).alloc (Nat.le_refl _) (.cells #[.int .i64 W, .int .i64 H, .slice A n c] 24)).alloc (by simp) (.cells #[.int .i64 0, .int .i64 0, .slice none 0 0] 24)
  have HB0 := Lib.hid hb0
  clear hnew hb0
  obtain ⟨hg, hgv⟩ : ∃ hg, goodI W H n = hg := ⟨_, rfl⟩
  have HG := Lib.hid hgv
  rw [hgv] at h
  have HT := Lib.hid h
  clear hgv h
  cases hg with
  | false =>
    go_enter Try.func11, Try.ntmps11
    go_wp2_with (first
      | (go_at_call 28; refine (refGood_any W H A n c _).mono ?_; rw [HG.out]; rintro e w1 ⟨rfl, hB⟩; have HPX := Lib.hid ((Mods.of_below hB []).blk HNEW.out (by simp)); obtain ⟨u0, u1, u2, f0, f1, f2⟩ := box3 HPX.out; have HBB := Lib.hid (below_then HB0.out (by simp; omega) hB); clear hB)
      | fail)
    refine bodyPost_ret (results_box rfl _ _ _ _ _ _ _ rfl (blk_set3 HPX.out _ _ _) Try.underlying24 rfl size_image) rfl ?_
    exact ⟨rfl, below_box HBB.out (by omega) _ _ _⟩
  | true =>
    have ht := HT.out
    rw [Bool.true_and] at ht
    unfold goodT at ht
    have ht2 := of_decide_eq_false ht
    clear ht
    by_cases hm : m < 1
    · have d3 : decide ((m : Int) < 1) = true := decide_eq_true (by omega)
      go_enter Try.func11, Try.ntmps11
      go_wp2_with (first
        | (go_at_call 28; refine (refGood_any W H A n c _).mono ?_; rw [HG.out]; rintro e w1 ⟨rfl, hB⟩; have HPX := Lib.hid ((Mods.of_below hB []).blk HNEW.out (by simp)); obtain ⟨u0, u1, u2, f0, f1, f2⟩ := box3 HPX.out; have HBB := Lib.hid (below_then HB0.out (by simp; omega) hB); clear hB)
        | fail)
      refine bodyPost_ret (results_box rfl _ _ _ _ _ _ _ rfl (blk_set3 HPX.out _ _ _) Try.underlying24 rfl size_image) rfl ?_
      exact ⟨rfl, below_box HBB.out (by omega) _ _ _⟩
    · have d3 : decide ((m : Int) < 1) = false := decide_eq_false (by omega)
      have d4 : decide (256 < (m : Int)) = true := decide_eq_true (by omega)
      go_enter Try.func11, Try.ntmps11
      go_wp2_with (first
        | (go_at_call 28; refine (refGood_any W H A n c _).mono ?_; rw [HG.out]; rintro e w1 ⟨rfl, hB⟩; have HPX := Lib.hid ((Mods.of_below hB []).blk HNEW.out (by simp)); obtain ⟨u0, u1, u2, f0, f1, f2⟩ := box3 HPX.out; have HBB := Lib.hid (below_then HB0.out (by simp; omega) hB); clear hB)
        | fail)
      refine bodyPost_ret (results_box rfl _ _ _ _ _ _ _ rfl (blk_set3 HPX.out _ _ _) Try.underlying24 rfl size_image) rfl ?_
      exact ⟨rfl, below_box HBB.out (by omega) _ _ _⟩
end Go.Proofs.Ytmgkdlkjcncniaa
