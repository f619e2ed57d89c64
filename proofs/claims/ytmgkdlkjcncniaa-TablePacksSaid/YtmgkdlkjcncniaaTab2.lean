/- table.Unpack where all may be. -/
import Derived.Test.YtmgkdlkjcncniaaTab2B0
import Derived.Test.YtmgkdlkjcncniaaTab2B1
import Derived.Test.YtmgkdlkjcncniaaTab2B2
import Derived.Test.YtmgkdlkjcncniaaTab2B3
namespace Go.Proofs.Ytmgkdlkjcncniaa
open Go.RowKit
open Go.Proofs.YtmgkdlkjcncniaaW.PrintWords

theorem unpack_good (W H w : Nat) (A B : Option Addr) (n c m d : Nat) (ps ls : List Int) (wd : World) (HR : ReadsInt wd .u32 A n ps) (HS : ReadsInt wd .u32 B m ls) (hps : ∀ x ∈ ps, 0 ≤ x ∧ x < 4294967296) (hls : ∀ x ∈ ls, 0 ≤ x ∧ x < 4294967296) (h : okU W H n m w = true) : Calls Try.prog 12 #[.agg #[.int .i64 W, .int .i64 H, .slice A n c], .slice B m d, .int .i64 w] wd fun e w' =>
    ∃ g, e = .returned (.tuple #[.agg #[.int .i64 w, .int .i64 H, .slice (some ⟨g, 0, none⟩) (w * H) (w * H)], .int .i64 0]) ∧ w'.ownsRow wd.heap.size 31 1 (.slice (some ⟨g, 0, none⟩) (w * H) (w * H)) (w * H) (nums .u32 ((List.range (w * H)).map (unpPix W w (bitsT m) ps ls))) ∧ Below wd.heap.size wd w' := by
  have hb := bitsT_le m
  rcases (show bitsT m = 0 ∨ bitsT m = 1 ∨ bitsT m = 2 ∨ bitsT m = 3 by omega) with hb | hb | hb | hb
  · exact unpack_b0 W H w A B n c m d ps ls wd HR HS hps hls h hb
  · exact unpack_b1 W H w A B n c m d ps ls wd HR HS hps hls h hb
  · exact unpack_b2 W H w A B n c m d ps ls wd HR HS hps hls h hb
  · exact unpack_b3 W H w A B n c m d ps ls wd HR HS hps hls h hb
end Go.Proofs.Ytmgkdlkjcncniaa
