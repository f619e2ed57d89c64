/- Near points: the words of a constant text, and the points that they tell. No program in sight. (Printed by wip/tools/gennear.py.) -/
import Derived.Lib.Space
import Derived.Lib.Atoi
import Derived.KernelRfl
namespace Go.Proofs.YtoanhnebalapeaaDoor.Nr
open Go

/-- The words of an ASCII text: where each begins and ends. -/
def scan : List UInt8 → Nat → Option Nat → List (Nat × Nat)
  | [], _, none => []
  | [], i, some s => [(s, i)]
  | c :: t, i, st => if Lib.isSp c then (match st with | some s => (s, i) :: scan t (i + 1) none | none => scan t (i + 1) none) else scan t (i + 1) (some (st.getD i))
theorem scan_skip {c : UInt8} {t : List UInt8} {i : Nat} {st : Option Nat} (h : Lib.isSp c = false) : scan (c :: t) i st = scan t (i + 1) (some (st.getD i)) := by cases st <;> simp [scan, h]
theorem scan_gap {c : UInt8} {t : List UInt8} {i : Nat} (h : Lib.isSp c = true) : scan (c :: t) i none = scan t (i + 1) none := by simp [scan, h]
theorem scan_word {c : UInt8} {t : List UInt8} {i s : Nat} (h : Lib.isSp c = true) : scan (c :: t) i (some s) = (s, i) :: scan t (i + 1) none := by simp [scan, h]
/-- Each word lies within the text. -/
theorem scan_within : ∀ (l : List UInt8) (i : Nat) (st : Option Nat), (∀ s, st = some s → s ≤ i) → ∀ x ∈ scan l i st, x.1 ≤ x.2 ∧ x.2 ≤ i + l.length
  | [], i, none, _ => by simp [scan]
  | [], i, some s, h => by simp [scan]; exact h s rfl
  | c :: t, i, st, h => by
    intro x hx
    unfold scan at hx
    split at hx
    · cases st with
      | none =>
        have := scan_within t (i + 1) none (by simp) x hx
        rw [List.length_cons]; omega
      | some s =>
        rcases List.mem_cons.1 hx with rfl | hx
        · have := h s rfl; rw [List.length_cons]; dsimp only; omega
        · have := scan_within t (i + 1) none (by simp) x hx
          rw [List.length_cons]; omega
    · have := scan_within t (i + 1) (some (st.getD i)) (by
        intro s hs
        cases st with
        | none => simp at hs; omega
        | some q => simp at hs; subst hs; have := h q rfl; omega) x hx
      rw [List.length_cons]; omega

def pts : List UInt8 := [48, 32, 49, 32, 49, 32, 48, 32, 49, 32, 49, 32, 45, 49, 32, 49, 32, 48, 32, 50, 32, 50, 32, 48, 32, 49, 32, 50, 32, 45, 49, 32, 50, 32, 50, 32, 49, 32, 45, 50, 32, 49, 32, 50, 32, 50, 32, 45, 50, 32, 50, 32, 48, 32, 51, 32, 51, 32, 48, 32, 49, 32, 51, 32, 45, 49, 32, 51, 32, 51, 32, 49, 32, 45, 51, 32, 49, 32, 50, 32, 51, 32, 45, 50, 32, 51, 32, 51, 32, 50, 32, 45, 51, 32, 50, 32, 48, 32, 52, 32, 52, 32, 48, 32, 49, 32, 52, 32, 45, 49, 32, 52, 32, 52, 32, 49, 32, 45, 52, 32, 49, 32, 51, 32, 51, 32, 45, 51, 32, 51, 32, 50, 32, 52, 32, 45, 50, 32, 52, 32, 52, 32, 50, 32, 45, 52, 32, 50, 32, 48, 32, 53, 32, 51, 32, 52, 32, 45, 51, 32, 52, 32, 52, 32, 51, 32, 45, 52, 32, 51, 32, 53, 32, 48, 32, 49, 32, 53, 32, 45, 49, 32, 53, 32, 53, 32, 49, 32, 45, 53, 32, 49, 32, 50, 32, 53, 32, 45, 50, 32, 53, 32, 53, 32, 50, 32, 45, 53, 32, 50, 32, 52, 32, 52, 32, 45, 52, 32, 52, 32, 51, 32, 53, 32, 45, 51, 32, 53, 32, 53, 32, 51, 32, 45, 53, 32, 51, 32, 48, 32, 54, 32, 54, 32, 48, 32, 49, 32, 54, 32, 45, 49, 32, 54, 32, 54, 32, 49, 32, 45, 54, 32, 49, 32, 50, 32, 54, 32, 45, 50, 32, 54, 32, 54, 32, 50, 32, 45, 54, 32, 50, 32, 52, 32, 53, 32, 45, 52, 32, 53, 32, 53, 32, 52, 32, 45, 53, 32, 52, 32, 51, 32, 54, 32, 45, 51, 32, 54, 32, 54, 32, 51, 32, 45, 54, 32, 51, 32, 48, 32, 55, 32, 55, 32, 48, 32, 49, 32, 55, 32, 45, 49, 32, 55, 32, 53, 32, 53, 32, 45, 53, 32, 53, 32, 55, 32, 49, 32, 45, 55, 32, 49, 32, 52, 32, 54, 32, 45, 52, 32, 54, 32, 54, 32, 52, 32, 45, 54, 32, 52, 32, 50, 32, 55, 32, 45, 50, 32, 55, 32, 55, 32, 50, 32, 45, 55, 32, 50, 32, 51, 32, 55, 32, 45, 51, 32, 55, 32, 55, 32, 51, 32, 45, 55, 32, 51, 32, 53, 32, 54, 32, 45, 53, 32, 54, 32, 54, 32, 53, 32, 45, 54, 32, 53, 32, 56, 32, 48, 32, 52, 32, 55, 32, 45, 52, 32, 55, 32, 55, 32, 52, 32, 45, 55, 32, 52, 32, 56, 32, 49, 32, 56, 32, 50, 32, 54, 32, 54, 32, 45, 54, 32, 54, 32, 56, 32, 51, 32, 53, 32, 55, 32, 45, 53, 32, 55, 32, 55, 32, 53, 32, 45, 55, 32, 53, 32, 56, 32, 52, 32, 54, 32, 55, 32, 45, 54, 32, 55, 32, 55, 32, 54, 32, 45, 55, 32, 54, 32, 56, 32, 53, 32, 55, 32, 55, 32, 45, 55, 32, 55, 32, 56, 32, 54, 32, 56, 32, 55]
def words : List (Nat × Nat) := [(0, 1), (2, 3), (4, 5), (6, 7), (8, 9), (10, 11), (12, 14), (15, 16), (17, 18), (19, 20), (21, 22), (23, 24), (25, 26), (27, 28), (29, 31), (32, 33), (34, 35), (36, 37), (38, 40), (41, 42), (43, 44), (45, 46), (47, 49), (50, 51), (52, 53), (54, 55), (56, 57), (58, 59), (60, 61), (62, 63), (64, 66), (67, 68), (69, 70), (71, 72), (73, 75), (76, 77), (78, 79), (80, 81), (82, 84), (85, 86), (87, 88), (89, 90), (91, 93), (94, 95), (96, 97), (98, 99), (100, 101), (102, 103), (104, 105), (106, 107), (108, 110), (111, 112), (113, 114), (115, 116), (117, 119), (120, 121), (122, 123), (124, 125), (126, 128), (129, 130), (131, 132), (133, 134), (135, 137), (138, 139), (140, 141), (142, 143), (144, 146), (147, 148), (149, 150), (151, 152), (153, 154), (155, 156), (157, 159), (160, 161), (162, 163), (164, 165), (166, 168), (169, 170), (171, 172), (173, 174), (175, 176), (177, 178), (179, 181), (182, 183), (184, 185), (186, 187), (188, 190), (191, 192), (193, 194), (195, 196), (197, 199), (200, 201), (202, 203), (204, 205), (206, 208), (209, 210), (211, 212), (213, 214), (215, 217), (218, 219), (220, 221), (222, 223), (224, 226), (227, 228), (229, 230), (231, 232), (233, 235), (236, 237), (238, 239), (240, 241), (242, 243), (244, 245), (246, 247), (248, 249), (250, 252), (253, 254), (255, 256), (257, 258), (259, 261), (262, 263), (264, 265), (266, 267), (268, 270), (271, 272), (273, 274), (275, 276), (277, 279), (280, 281), (282, 283), (284, 285), (286, 288), (289, 290), (291, 292), (293, 294), (295, 297), (298, 299), (300, 301), (302, 303), (304, 306), (307, 308), (309, 310), (311, 312), (313, 315), (316, 317), (318, 319), (320, 321), (322, 323), (324, 325), (326, 327), (328, 329), (330, 332), (333, 334), (335, 336), (337, 338), (339, 341), (342, 343), (344, 345), (346, 347), (348, 350), (351, 352), (353, 354), (355, 356), (357, 359), (360, 361), (362, 363), (364, 365), (366, 368), (369, 370), (371, 372), (373, 374), (375, 377), (378, 379), (380, 381), (382, 383), (384, 386), (387, 388), (389, 390), (391, 392), (393, 395), (396, 397), (398, 399), (400, 401), (402, 404), (405, 406), (407, 408), (409, 410), (411, 413), (414, 415), (416, 417), (418, 419), (420, 422), (423, 424), (425, 426), (427, 428), (429, 430), (431, 432), (433, 435), (436, 437), (438, 439), (440, 441), (442, 444), (445, 446), (447, 448), (449, 450), (451, 452), (453, 454), (455, 456), (457, 458), (459, 461), (462, 463), (464, 465), (466, 467), (468, 469), (470, 471), (472, 474), (475, 476), (477, 478), (479, 480), (481, 483), (484, 485), (486, 487), (488, 489), (490, 491), (492, 493), (494, 496), (497, 498), (499, 500), (501, 502), (503, 505), (506, 507), (508, 509), (510, 511), (512, 513), (514, 515), (516, 518), (519, 520), (521, 522), (523, 524), (525, 526), (527, 528)]
def nums : List Int := [0, 1, 1, 0, 1, 1, -1, 1, 0, 2, 2, 0, 1, 2, -1, 2, 2, 1, -2, 1, 2, 2, -2, 2, 0, 3, 3, 0, 1, 3, -1, 3, 3, 1, -3, 1, 2, 3, -2, 3, 3, 2, -3, 2, 0, 4, 4, 0, 1, 4, -1, 4, 4, 1, -4, 1, 3, 3, -3, 3, 2, 4, -2, 4, 4, 2, -4, 2, 0, 5, 3, 4, -3, 4, 4, 3, -4, 3, 5, 0, 1, 5, -1, 5, 5, 1, -5, 1, 2, 5, -2, 5, 5, 2, -5, 2, 4, 4, -4, 4, 3, 5, -3, 5, 5, 3, -5, 3, 0, 6, 6, 0, 1, 6, -1, 6, 6, 1, -6, 1, 2, 6, -2, 6, 6, 2, -6, 2, 4, 5, -4, 5, 5, 4, -5, 4, 3, 6, -3, 6, 6, 3, -6, 3, 0, 7, 7, 0, 1, 7, -1, 7, 5, 5, -5, 5, 7, 1, -7, 1, 4, 6, -4, 6, 6, 4, -6, 4, 2, 7, -2, 7, 7, 2, -7, 2, 3, 7, -3, 7, 7, 3, -7, 3, 5, 6, -5, 6, 6, 5, -6, 5, 8, 0, 4, 7, -4, 7, 7, 4, -7, 4, 8, 1, 8, 2, 6, 6, -6, 6, 8, 3, 5, 7, -5, 7, 7, 5, -7, 5, 8, 4, 6, 7, -6, 7, 7, 6, -7, 6, 8, 5, 7, 7, -7, 7, 8, 6, 8, 7]
def points : List (Int × Int) := [(0, 1), (1, 0), (1, 1), (-1, 1), (0, 2), (2, 0), (1, 2), (-1, 2), (2, 1), (-2, 1), (2, 2), (-2, 2), (0, 3), (3, 0), (1, 3), (-1, 3), (3, 1), (-3, 1), (2, 3), (-2, 3), (3, 2), (-3, 2), (0, 4), (4, 0), (1, 4), (-1, 4), (4, 1), (-4, 1), (3, 3), (-3, 3), (2, 4), (-2, 4), (4, 2), (-4, 2), (0, 5), (3, 4), (-3, 4), (4, 3), (-4, 3), (5, 0), (1, 5), (-1, 5), (5, 1), (-5, 1), (2, 5), (-2, 5), (5, 2), (-5, 2), (4, 4), (-4, 4), (3, 5), (-3, 5), (5, 3), (-5, 3), (0, 6), (6, 0), (1, 6), (-1, 6), (6, 1), (-6, 1), (2, 6), (-2, 6), (6, 2), (-6, 2), (4, 5), (-4, 5), (5, 4), (-5, 4), (3, 6), (-3, 6), (6, 3), (-6, 3), (0, 7), (7, 0), (1, 7), (-1, 7), (5, 5), (-5, 5), (7, 1), (-7, 1), (4, 6), (-4, 6), (6, 4), (-6, 4), (2, 7), (-2, 7), (7, 2), (-7, 2), (3, 7), (-3, 7), (7, 3), (-7, 3), (5, 6), (-5, 6), (6, 5), (-6, 5), (8, 0), (4, 7), (-4, 7), (7, 4), (-7, 4), (8, 1), (8, 2), (6, 6), (-6, 6), (8, 3), (5, 7), (-5, 7), (7, 5), (-7, 5), (8, 4), (6, 7), (-6, 7), (7, 6), (-7, 6), (8, 5), (7, 7), (-7, 7), (8, 6), (8, 7)]
theorem pts_length : pts.length = 528 := by kernel_rfl
theorem words_length : words.length = 240 := by kernel_rfl
theorem nums_length : nums.length = 240 := by kernel_rfl
theorem points_length : points.length = 120 := by kernel_rfl
theorem scan_pts : scan pts 0 none = words := by kernel_rfl
theorem pts_ascii : pts.all (fun c => decide (c.toNat < 128)) = true := by kernel_rfl
/-- The number that a word tells. -/
def atoiW (x : Nat × Nat) : Option Int := Lib.atoi ((pts.drop x.1).take (x.2 - x.1))
theorem atoi_words : words.map atoiW = nums.map some := by kernel_rfl
theorem words_short : words.all (fun x => decide (x.2 - x.1 ≤ 18 ∧ x.1 ≤ x.2 ∧ x.2 ≤ 528)) = true := by kernel_rfl
theorem words_small : words.all (fun x => match atoiW x with | some v => decide (-8 ≤ v ∧ v ≤ 8) | none => false) = true := by kernel_rfl
/-- A small number. -/
abbrev Small : Type := { n : Int // -8 ≤ n ∧ n ≤ 8 }
theorem val_small (x : { x : Nat × Nat // x ∈ words }) : ∃ v : Small, atoiW x.1 = some v.1 := by
  have h := List.all_eq_true.1 words_small x.1 x.2
  cases hv : atoiW x.1 with
  | none => rw [hv] at h; cases h
  | some v => rw [hv] at h; exact ⟨⟨v, by simpa using h⟩, rfl⟩
noncomputable def valS (x : { x : Nat × Nat // x ∈ words }) : Small := (val_small x).choose
theorem valS_eq (x : { x : Nat × Nat // x ∈ words }) : atoiW x.1 = some (valS x).1 := (val_small x).choose_spec
theorem valS_nums : (words.attach.map valS).map Subtype.val = nums := by
  have h : ((words.attach.map valS).map Subtype.val).map some = nums.map some := by
    rw [← atoi_words, List.map_map, List.map_map]
    conv => rhs; rw [← List.attach_map_subtype_val words, List.map_map]
    apply List.map_congr_left
    intro x _
    exact (valS_eq x).symm
  exact List.map_inj_right (fun _ _ h => Option.some.inj h) |>.1 h

/-- Two by two. -/
def two {α : Type} : List α → List (α × α)
  | a :: b :: t => (a, b) :: two t
  | _ => []
theorem two_nums : two nums = points := by kernel_rfl
theorem two_map {α β : Type} (f : α → β) : ∀ l : List α, two (l.map f) = (two l).map (fun p => (f p.1, f p.2))
  | [] => rfl
  | [_] => rfl
  | a :: b :: t => by simp [two, two_map f t]
theorem two_length {α : Type} : ∀ l : List α, (two l).length = l.length / 2
  | [] => by simp [two]
  | [_] => by simp [two]
  | _ :: _ :: t => by simp [two, two_length t]; omega
theorem two_odd {α : Type} : ∀ (l : List α) (x : α), l.length % 2 = 0 → two (l ++ [x]) = two l
  | [], x, _ => rfl
  | [_], x, h => by simp at h
  | a :: b :: t, x, h => by simp [two, two_odd t x (by have := h; simp at this; omega)]
theorem two_even {α : Type} : ∀ (l : List α) (x y : α), l.length % 2 = 0 → two (l ++ [x] ++ [y]) = two l ++ [(x, y)]
  | [], x, y, _ => rfl
  | [_], x, y, h => by simp at h
  | a :: b :: t, x, y, h => by
    have := two_even t x y (by have := h; simp at this; omega)
    simp [two] at this ⊢
    exact this
theorem two_take {α : Type} : ∀ (l : List α) (k : Nat), two (l.take k) = (two l).take (k / 2)
  | [], k => by simp [two]
  | [a], k => by
    cases k with
    | zero => simp [two]
    | succ k => simp [two]
  | a :: b :: t, 0 => by simp [two]
  | a :: b :: t, 1 => by simp [two]
  | a :: b :: t, k + 2 => by
    have e : (k + 2) / 2 = k / 2 + 1 := by omega
    rw [e]
    simp [two, two_take t k]
/-- A point, of small numbers. -/
abbrev Pt : Type := Small × Small
noncomputable def ptsS : List Pt := two (words.attach.map valS)
theorem ptsS_points : ptsS.map (fun p => (p.1.1, p.2.1)) = points := by
  unfold ptsS
  rw [← two_map, valS_nums, two_nums]
theorem ptsS_length : ptsS.length = 120 := by
  have := congrArg List.length ptsS_points
  rwa [List.length_map, points_length] at this
/-- Each point lies within reach. -/
theorem points_reach : points.all (fun p => decide (-7 ≤ p.1 ∧ p.1 ≤ 8 ∧ 0 ≤ p.2 ∧ p.2 ≤ 7 ∧ (0 < p.2 ∨ 0 < p.1))) = true := by kernel_rfl
/-- A code's point. -/
def pointS (code : Int) : (Int × Int) × Bool := if 1 ≤ code ∧ code ≤ 120 then (points.getD (code - 1).toNat (0, 0), true) else ((0, 0), false)
/-- How far away a point is. -/
def farS (p : Int × Int) (w : Int) : Int := if 1 ≤ p.1 + p.2 * w then p.1 + p.2 * w else 1
def distS (code w : Int) : Int := if 1 ≤ w ∧ w ≤ 16384 ∧ 1 ≤ code ∧ code ≤ 1048576 then (if code ≤ 120 then farS (pointS code).1 w else code - 120) else 0
def firstS (dist w : Int) : Int := match points.findIdx? (fun p => farS p w == dist) with
  | some i => (i : Int) + 1
  | none => dist + 120
def codeS (dist w : Int) : Int := if 1 ≤ w ∧ w ≤ 16384 ∧ 1 ≤ dist ∧ dist ≤ 1048456 then firstS dist w else 0
theorem point_in {i : Nat} (h : i < 120) : ∃ p, points[i]? = some p ∧ pointS ((i : Int) + 1) = (p, true) ∧ (-7 ≤ p.1 ∧ p.1 ≤ 8 ∧ 0 ≤ p.2 ∧ p.2 ≤ 7 ∧ (0 < p.2 ∨ 0 < p.1)) := by
  have hl : i < points.length := by rw [points_length]; exact h
  refine ⟨points[i], List.getElem?_eq_getElem hl, ?_, ?_⟩
  · unfold pointS
    rw [if_pos (by omega), show ((i : Int) + 1 - 1).toNat = i from by omega, List.getD_eq_getElem?_getD, List.getElem?_eq_getElem hl]; rfl
  · simpa using List.all_eq_true.1 points_reach points[i] (List.getElem_mem hl)
theorem points_apart : points.Nodup := by
  have h : (points.map (fun p => (p.2 * 32 + p.1 : Int))).Pairwise (· ≠ ·) := by
    have : decide ((points.map (fun p => (p.2 * 32 + p.1 : Int))).Pairwise (· ≠ ·)) = true := by kernel_rfl
    simpa using this
  exact (List.pairwise_map.1 h).imp (fun h e => h (by rw [e]))
theorem first_near {dist w : Int} {i : Nat} {p : Int × Int} (hp : points[i]? = some p) (hf : farS p w = dist) (hno : ∀ j q, j < i → points[j]? = some q → farS q w ≠ dist) : firstS dist w = (i : Int) + 1 := by
  unfold firstS
  have : points.findIdx? (fun p => farS p w == dist) = some i := by
    have hi := (List.getElem?_eq_some_iff.1 hp).1
    rw [List.findIdx?_eq_some_iff_getElem]
    refine ⟨hi, ?_, fun j hj => ?_⟩
    · rw [List.getElem?_eq_getElem hi] at hp
      rw [Option.some.inj hp]; simpa using hf
    · have := hno j points[j] hj (List.getElem?_eq_getElem (by omega))
      simpa using this
  rw [this]
theorem first_none {dist w : Int} (hno : ∀ q ∈ points, farS q w ≠ dist) : firstS dist w = dist + 120 := by
  unfold firstS
  have : points.findIdx? (fun p => farS p w == dist) = none := by
    rw [List.findIdx?_eq_none_iff]
    intro x hx
    simpa using hno x hx
  rw [this]
/-- The first, or none. -/
theorem first_cases (dist w : Int) : (∃ (i : Nat) (p : Int × Int), points[i]? = some p ∧ farS p w = dist ∧ (∀ (j : Nat) q, j < i → points[j]? = some q → farS q w ≠ dist) ∧ firstS dist w = (i : Int) + 1) ∨ ((∀ q ∈ points, farS q w ≠ dist) ∧ firstS dist w = dist + 120) := by
  cases h : points.findIdx? (fun p => farS p w == dist) with
  | none =>
    refine .inr ⟨fun q hq => ?_, by unfold firstS; rw [h]⟩
    have := (List.findIdx?_eq_none_iff.1 h) q hq
    simpa using this
  | some i =>
    obtain ⟨hi, h1, h2⟩ := List.findIdx?_eq_some_iff_getElem.1 h
    refine .inl ⟨i, points[i], List.getElem?_eq_getElem hi, by simpa using h1, fun j q hj hq => ?_, by unfold firstS; rw [h]⟩
    have := h2 j hj
    rw [List.getElem?_eq_getElem (by omega)] at hq
    rw [← Option.some.inj hq]
    simpa using this

/-- NearBack. -/
theorem near_back {d w : Int} (hd : 1 ≤ d ∧ d ≤ 1048456) (hw : 1 ≤ w ∧ w ≤ 16384) :
    (1 ≤ codeS d w ∧ codeS d w ≤ 1048576) ∧ distS (codeS d w) w = d ∧ ∀ o, 1 ≤ o → o < codeS d w → distS o w ≠ d := by
  have hc : codeS d w = firstS d w := by unfold codeS; rw [if_pos ⟨hw.1, hw.2, hd.1, hd.2⟩]
  rw [hc]
  rcases first_cases d w with ⟨i, p, hp, hf, hno, he⟩ | ⟨hno, he⟩
  · have hi : i < 120 := by have := (List.getElem?_eq_some_iff.1 hp).1; rw [points_length] at this; exact this
    obtain ⟨q, hq, hpq, _⟩ := point_in hi
    rw [hp] at hq; cases hq
    rw [he]
    refine ⟨by omega, ?_, fun o h1 h2 => ?_⟩
    · unfold distS; rw [if_pos (by omega), if_pos (by omega), hpq]; exact hf
    · obtain ⟨j, rfl⟩ : ∃ j : Nat, o = (j : Int) + 1 := ⟨(o - 1).toNat, by omega⟩
      obtain ⟨q, hq, hpq, _⟩ := point_in (show j < 120 by omega)
      unfold distS; rw [if_pos (by omega), if_pos (by omega), hpq]
      exact hno j q (by omega) hq
  · rw [he]
    refine ⟨by omega, ?_, fun o h1 h2 => ?_⟩
    · unfold distS; rw [if_pos (by omega), if_neg (by omega)]; omega
    · unfold distS; rw [if_pos (by omega)]
      split
      · obtain ⟨j, rfl⟩ : ∃ j : Nat, o = (j : Int) + 1 := ⟨(o - 1).toNat, by omega⟩
        obtain ⟨q, hq, hpq, _⟩ := point_in (show j < 120 by omega)
        rw [hpq]; exact hno q (List.mem_of_getElem? hq)
      · omega
/-- NearPoints. -/
theorem near_points {i k : Nat} (hi : i < 120) (hk : k < 120) : ((pointS ((i : Int) + 1)).1 = (pointS ((k : Int) + 1)).1) ↔ i = k := by
  obtain ⟨p, hp, e1, _⟩ := point_in hi
  obtain ⟨q, hq, e2, _⟩ := point_in hk
  rw [e1, e2]
  constructor
  · intro h
    have h : p = q := h
    subst h
    obtain ⟨h1, h2⟩ := List.getElem?_eq_some_iff.1 hp
    obtain ⟨h3, h4⟩ := List.getElem?_eq_some_iff.1 hq
    exact (List.getElem_inj points_apart).1 (h2.trans h4.symm)
  · rintro rfl
    rw [hp] at hq; cases hq; rfl
theorem far_wide {p : Int × Int} {w : Int} (hp : -7 ≤ p.1 ∧ p.1 ≤ 8 ∧ 0 ≤ p.2 ∧ p.2 ≤ 7 ∧ (0 < p.2 ∨ 0 < p.1)) (hw : 16 ≤ w) : farS p w = p.1 + p.2 * w ∧ 1 ≤ p.1 + p.2 * w ∧ p.1 + p.2 * w ≤ 8 + 7 * w := by
  have h0 : p.2 * w ≤ 7 * w := Int.mul_le_mul_of_nonneg_right hp.2.2.2.1 (by omega)
  have h1 : 1 ≤ p.1 + p.2 * w := by
    rcases Int.lt_or_le 0 p.2 with h | h
    · have : 1 * w ≤ p.2 * w := Int.mul_le_mul_of_nonneg_right (by omega) (by omega)
      omega
    · have : p.2 = 0 := by omega
      rw [this, Int.zero_mul]; omega
  exact ⟨by unfold farS; rw [if_pos h1], h1, by omega⟩
/-- NearWide. -/
theorem far_apart {p q : Int × Int} {w : Int} (hp : -7 ≤ p.1 ∧ p.1 ≤ 8 ∧ 0 ≤ p.2 ∧ p.2 ≤ 7 ∧ (0 < p.2 ∨ 0 < p.1)) (hq : -7 ≤ q.1 ∧ q.1 ≤ 8 ∧ 0 ≤ q.2 ∧ q.2 ≤ 7 ∧ (0 < q.2 ∨ 0 < q.1)) (hw : 16 ≤ w) (h : farS p w = farS q w) : p = q := by
  rw [(far_wide hp hw).1, (far_wide hq hw).1] at h
  have key : ∀ a b : Int, a < b → a * w + 16 ≤ b * w := fun a b hab => by
    have h1 : (a + 1) * w ≤ b * w := Int.mul_le_mul_of_nonneg_right (by omega) (by omega)
    rw [Int.add_mul, Int.one_mul] at h1
    omega
  have h2 : p.2 = q.2 := by
    rcases Int.lt_trichotomy p.2 q.2 with h3 | h3 | h3
    · have := key _ _ h3; omega
    · exact h3
    · have := key _ _ h3; omega
  have h3 : p.1 = q.1 := by rw [h2] at h; omega
  exact Prod.ext h3 h2
theorem near_wide {i k : Nat} {w : Int} (hi : i < 120) (hk : k < 120) (hw : 16 ≤ w ∧ w ≤ 16384) :
    (distS ((i : Int) + 1) w = distS ((k : Int) + 1) w ↔ i = k) ∧ codeS (distS ((i : Int) + 1) w) w = (i : Int) + 1 ∧ codeS (8 * w + 9) w = 8 * w + 129 := by
  obtain ⟨p, hp, e1, r1⟩ := point_in hi
  obtain ⟨q, hq, e2, r2⟩ := point_in hk
  have d : ∀ (j : Nat) (x : Int × Int), j < 120 → pointS ((j : Int) + 1) = (x, true) → distS ((j : Int) + 1) w = farS x w := fun j x hj hx => by
    unfold distS; rw [if_pos (by omega), if_pos (by omega), hx]
  rw [d i p hi e1, d k q hk e2]
  have f1 := far_wide r1 hw.1
  refine ⟨⟨fun h => ?_, fun h => ?_⟩, ?_, ?_⟩
  · exact (near_points hi hk).1 (by rw [e1, e2]; exact far_apart r1 r2 hw.1 h)
  · subst h; rw [hp] at hq; cases hq; rfl
  · unfold codeS
    rw [if_pos (by omega)]
    refine first_near hp rfl fun j x hj hx he => ?_
    obtain ⟨y, hy, e3, r3⟩ := point_in (show j < 120 by omega)
    rw [hx] at hy; cases hy
    have := (near_points (show j < 120 by omega) hi).1 (by rw [e1, e3]; exact far_apart r3 r1 hw.1 he)
    omega
  · unfold codeS
    rw [if_pos (by omega), first_none]
    · omega
    · intro x hx he
      obtain ⟨j, hj⟩ := List.getElem?_of_mem hx
      have hj2 : j < 120 := by have := (List.getElem?_eq_some_iff.1 hj).1; rw [points_length] at this; exact this
      obtain ⟨y, hy, e3, r3⟩ := point_in hj2
      rw [hj] at hy; cases hy
      have := far_wide r3 hw.1
      omega
end Go.Proofs.YtoanhnebalapeaaDoor.Nr
