/- NoteOne, any input. -/
import Derived.Test.YtfojgijimhcclaaDoorNtO
namespace Go.Proofs.YtfojgijimhcclaaDoor
open Go Go.RowKit Go.Shelf

theorem noteOne_any (c : Cfg) (n : Nt) (x : Int) (w : World) (hs : Shp w) (ht : Pow w) (hx3 : x ≤ 9223372036854775807) : Calls Tryd.prog 8 #[CfgV c, NtV n, .int .i64 x] w (Gives (.bool true) w) := by
  by_cases hm : c.May
  · by_cases hx : x < 1
    · exact noteOne_no c n x w hs ht (.inr (.inl ⟨hm, hx⟩))
    · by_cases hq : checkE c n = 0
      · exact noteOne_in c n x w hs ht hm (by omega) hx3 hq
      · exact noteOne_no c n x w hs ht (.inr (.inr ⟨hm, hx, hq⟩))
  · exact noteOne_no c n x w hs ht (.inl hm)
end Go.Proofs.YtfojgijimhcclaaDoor
