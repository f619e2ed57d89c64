/- The law TreeNone. -/
import Derived.Test.YtoanhnebalapeaaLaws05
namespace Go.Proofs.Ytoanhnebalapeaa
open Go.RowKit
open Go.Proofs.YtoanhnebalapeaaW.PrintWords
open Srt

set_option maxHeartbeats 2000000 in
theorem law_TreeNone (s : Int) (D : Option Addr) (m d : Nat) (bs : List Int) (w : World) (HS : ReadsInt w .u8 D m bs) (hb : ∀ x ∈ bs, 0 ≤ x ∧ x ≤ 255) (hm : m ≤ 140737488351232) :
    Calls Try.prog 15 #[.int .i64 s, .slice D m d] w fun e w' => e = .returned (.bool true) ∧ Below w.heap.size w w' := by
  have HSS := Lib.hid HS; have HX := Lib.hid hb
  clear HS hb
  go_enter Try.func15, Try.ntmps15
  go_wp2_with fail
  refine (newReader D m d bs w HSS.out HX.out hm).mono ?_
  rintro e w1 ⟨g, A', rfl, hg, hA', hR, hB1⟩
  have HB1 := Lib.hid hB1
  clear hA' hR hB1 hg
  go_wp2_with (first | (go_at_call 40; refine (read_nil g _).mono ?_; rintro e w' ⟨rfl, rfl⟩) | (go_at_call 43; refine (cost_nil s _).mono ?_; rintro e w' ⟨rfl, rfl⟩))
  refine (answers05 _).mono ?_
  rintro e w3 ⟨rfl, hB3⟩
  have HB3 := Lib.hid (below_then HB1.out HB1.out.size hB3)
  clear hB3
  go_wp2_with fail
  refine (w_new w3).mono ?_
  rintro e w4 ⟨rfl, hW4, hB4⟩
  have HB4 := Lib.hid (below_then HB3.out HB3.out.size hB4)
  clear hW4 hB4
  go_wp2_with fail
  refine (write_nil w3.heap.size s w4).mono ?_
  rintro e w' ⟨rfl, rfl⟩
  go_wp2_with fail
  go_ret
  exact ⟨rfl, HB4.out⟩
end Go.Proofs.Ytoanhnebalapeaa
