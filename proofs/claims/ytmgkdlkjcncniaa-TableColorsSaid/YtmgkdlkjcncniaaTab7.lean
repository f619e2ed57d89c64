/- table.Pack where picture and table may be. -/
import Derived.Test.YtmgkdlkjcncniaaTab7B0
import Derived.Test.YtmgkdlkjcncniaaTab7B1
import Derived.Test.YtmgkdlkjcncniaaTab7B2
import Derived.Test.YtmgkdlkjcncniaaTab7B3
namespace Go.Proofs.Ytmgkdlkjcncniaa
open Go.RowKit
open Go.Proofs.YtmgkdlkjcncniaaW.PrintWords

theorem pack_good (W H : Nat) (A : Option Addr) (ad : Addr) (n c m d : Nat) (ps ls : List Int) (w : World) (HR : ReadsInt w .u32 A n ps) (HS : ReadsInt w .u32 (some ad) m ls) (hps : ∀ x ∈ ps, 0 ≤ x ∧ x < 4294967296) (hls : ∀ x ∈ ls, 0 ≤ x ∧ x < 4294967296) (hal : ad.block < w.heap.size) (h : okP W H n m = true) (V : Nat) (hV : blocksI W (bitsT m) = V) :
    Calls Try.prog 10 #[.agg #[.int .i64 W, .int .i64 H, .slice A n c], .slice (some ad) m d] w fun e w' => packPost W H V n ls ps (bitsT m) w e w' := by
  have hb := bitsT_le m
  rcases (show bitsT m = 0 ∨ bitsT m = 1 ∨ bitsT m = 2 ∨ bitsT m = 3 by omega) with hb | hb | hb | hb
  · exact pack_b0 W H A ad n c m d ps ls w HR HS hps hls hal h V hV hb
  · exact pack_b1 W H A ad n c m d ps ls w HR HS hps hls hal h V hV hb
  · exact pack_b2 W H A ad n c m d ps ls w HR HS hps hls hal h V hV hb
  · exact pack_b3 W H A ad n c m d ps ls w HR HS hps hls hal h V hV hb
end Go.Proofs.Ytmgkdlkjcncniaa
