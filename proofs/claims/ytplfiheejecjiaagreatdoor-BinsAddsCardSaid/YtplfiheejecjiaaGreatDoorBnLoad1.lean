/- Contract of package bins: load (a store of a side, loaded). -/
import Derived.Test.YtplfiheejecjiaaGreatDoorProg
import Derived.Test.YtplfiheejecjiaaGreatDoorBn
namespace Go.Proofs.YtplfiheejecjiaaGreatDoor
open Go.RowKit

/-- What a store of a side loads. -/
structure SLoad (s : Bool) (most : Int) (rs : List (Int × Int)) (lost : Int) : Prop where
  gm : GdM rs
  ln : (rs.length : Int) ≤ most
  sm : sumP rs + lost ≤ 9223372036854775807
  win : Win s most rs
  em : rs = [] → lost = 0
def SLoadR (s : Bool) (most : Int) (rs : List (Int × Int)) (lost : Int) (w : World) (e : Ending) (w' : World) : Prop :=
  (SLoad s most rs lost ∧ ∃ c S, e = .returned (.tuple #[.iface (sKnd s).T (.pointer (some ⟨c, 0, none⟩)), .int .i64 0]) ∧ Within S w.heap.size w'.heap.size ∧ Sto w' s c S most rs (sumP rs + lost)) ∨
  (¬ SLoad s most rs lost ∧ e = .returned (.tuple #[.nilIface, .int .i64 1]))
set_option maxRecDepth 100000 in
set_option maxHeartbeats 1000000 in
theorem sload_any (s : Bool) (A : Option Addr) (len cap : Nat) (rs : List (Int × Int)) (most lost : Int) (w : World) (h1 : 1 ≤ most) (h2 : most ≤ 4096) (hl : rs.length = len) (hm : len ≤ 9223372036854775807) (hR : RdP w A rs) (hok : okP rs) (h3 : 0 ≤ lost) (h4 : lost < 18446744073709551616) :
    Calls Tryz.prog 48 #[.int .i64 (sideZ s), .int .i64 most, .slice A len cap, .int .u64 lost] w fun e w' => SLoadR s most rs lost w e w' ∧ Below w.heap.size w w' := by
  cases s
  · have HN := Lib.hid (Hi.lload_any A len cap rs most lost w h1 h2 hl hm hR hok h3 h4)
    show Calls _ _ #[.int .i64 1, .int .i64 most, .slice A len cap, .int .u64 lost] _ _
    clear h1 h2 h3 h4 hl hm hR hok
    go_enter Tryz.func48, Tryz.ntmps48
    go_wp2_with fail
    refine HN.out.mono ?_
    rintro e w1 ⟨⟨hO, c, S, rfl, hW, hS⟩ | ⟨hO, rfl⟩, hb⟩
    · have HF : Hid (SLoadR false most rs lost w (.returned (.tuple #[.iface 130 (.pointer (some ⟨c, 0, none⟩)), .int .i64 0])) w1 ∧ Below w.heap.size w w1) := ⟨.inl ⟨⟨hO.gm, hO.ln, hO.sm, hO.win, hO.em⟩, c, S, rfl, hW, hS⟩, hb⟩
      clear hO hW hS hb HN
      go_wp2
      go_ret2
      exact HF.out
    · have HF : Hid (SLoadR false most rs lost w (.returned (.tuple #[.nilIface, .int .i64 1])) w1 ∧ Below w.heap.size w w1) := ⟨.inr ⟨fun k => hO ⟨k.gm, k.ln, k.sm, k.win, k.em⟩, rfl⟩, hb⟩
      clear hO hb HN
      go_wp2
      go_ret2
      exact HF.out
  · have HN := Lib.hid (Lo.lload_any A len cap rs most lost w h1 h2 hl hm hR hok h3 h4)
    show Calls _ _ #[.int .i64 0, .int .i64 most, .slice A len cap, .int .u64 lost] _ _
    clear h1 h2 h3 h4 hl hm hR hok
    go_enter Tryz.func48, Tryz.ntmps48
    go_wp2_with fail
    refine HN.out.mono ?_
    rintro e w1 ⟨⟨hO, c, S, rfl, hW, hS⟩ | ⟨hO, rfl⟩, hb⟩
    · have HF : Hid (SLoadR true most rs lost w (.returned (.tuple #[.iface 128 (.pointer (some ⟨c, 0, none⟩)), .int .i64 0])) w1 ∧ Below w.heap.size w w1) := ⟨.inl ⟨⟨hO.gm, hO.ln, hO.sm, hO.win, hO.em⟩, c, S, rfl, hW, hS⟩, hb⟩
      clear hO hW hS hb HN
      go_wp2
      go_ret2
      exact HF.out
    · have HF : Hid (SLoadR true most rs lost w (.returned (.tuple #[.nilIface, .int .i64 1])) w1 ∧ Below w.heap.size w w1) := ⟨.inr ⟨fun k => hO ⟨k.gm, k.ln, k.sm, k.win, k.em⟩, rfl⟩, hb⟩
      clear hO hb HN
      go_wp2
      go_ret2
      exact HF.out
end Go.Proofs.YtplfiheejecjiaaGreatDoor
