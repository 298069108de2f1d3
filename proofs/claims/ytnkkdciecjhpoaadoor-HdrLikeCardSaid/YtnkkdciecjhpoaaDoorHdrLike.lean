/- The walk of the statement HdrLike. -/
import Derived.Test.YtnkkdciecjhpoaaDoorProg
import Derived.Test.YtnkkdciecjhpoaaDoorOpen
import Derived.Test.YtnkkdciecjhpoaaDoorPlayAll
import Derived.Test.YtnkkdciecjhpoaaDoorLikeP
namespace Go.Proofs.YtnkkdciecjhpoaaDoor
open Go.RowKit

set_option maxHeartbeats 2000000 in
theorem hdrLike_walk (w : World) (hTens : TensAt w) (digits : Int) (bddigits : -9223372036854775808 ≤ digits ∧ digits ≤ 9223372036854775807) (x : Int) (bdx : -9223372036854775808 ≤ x ∧ x ≤ 9223372036854775807) (y : Int) (bdy : -9223372036854775808 ≤ y ∧ y ≤ 9223372036854775807) :
    Calls Tryd.prog 4 #[.int .i64 digits, .int .i64 x, .int .i64 y] w fun e w' => e = .returned (.bool true) ∧ Below w.heap.size w w' := by
  have HXB : Hid (-9223372036854775808 ≤ x ∧ x ≤ 9223372036854775807) := bdx
  have HYB : Hid (-9223372036854775808 ≤ y ∧ y ≤ 9223372036854775807) := bdy
  have HTN := Lib.hid hTens
  clear bddigits bdx bdy hTens
  by_cases hd : digits < 1 ∨ 4 < digits
  · go_enter Tryd.func4, Tryd.ntmps4
    go_wp2_with fail
    refine (alive_any _ HTN.out).mono ?_
    rintro e w1 ⟨rfl, hb⟩
    have HB1 := Lib.hid hb
    clear hb
    go_wp2_with fail
    refine (hnew_bad digits 0 w1 (HTN.out.below HB1.out) (by omega)).mono ?_
    rintro e w2 ⟨rfl, hb⟩
    have HB2 := Lib.hid (keep1 HB1.out hb)
    clear hb HB1
    rcases (by omega : digits < 1 ∨ (¬ digits < 1 ∧ 4 < digits)) with h1 | ⟨h1, h2⟩
    · go_wp2
      go_ret
      exact ⟨rfl, HB2.out⟩
    · go_wp2
      go_ret
      exact ⟨rfl, HB2.out⟩
  · have HD : Hid (1 ≤ digits ∧ digits ≤ 4) := ⟨by omega, by omega⟩
    clear hd
    have hg := gOf_le digits
    have a1 := like_in (g := gOf digits) (by omega) HXB.out.1 HXB.out.2
    have a2 := like_iff (g := gOf digits) (by omega) HXB.out.1 HXB.out.2 HYB.out.1 HYB.out.2
    have HR1 := Lib.hid fun W => rlike15_any digits x W HD.out.1 HD.out.2 HXB.out.1 HXB.out.2
    have HL1 := Lib.hid fun b S W (h : Hd W b S digits 0 [] [] 0 0 0) => hlike_any b S digits 0 [] [] 0 0 0 x W h HXB.out.1 HXB.out.2
    have HL2 := Lib.hid fun b S W (h : Hd W b S digits 0 [] [] 0 0 0) => hlike_any b S digits 0 [] [] 0 0 0 y W h HYB.out.1 HYB.out.2
    obtain ⟨lx, hlx⟩ : ∃ v, likeLo (gOf digits) x = v := ⟨_, rfl⟩
    obtain ⟨hx, hhx⟩ : ∃ v, likeHi (gOf digits) x = v := ⟨_, rfl⟩
    obtain ⟨ly, hly⟩ : ∃ v, likeLo (gOf digits) y = v := ⟨_, rfl⟩
    obtain ⟨hy, hhy⟩ : ∃ v, likeHi (gOf digits) y = v := ⟨_, rfl⟩
    rw [hlx, hhx] at HR1 HL1 a1 a2
    rw [hly, hhy] at HL2 a2
    have d1 : decide (x < lx) = false := decide_eq_false (by omega)
    have d2 : decide (hx < x) = false := decide_eq_false (by omega)
    have HA := Lib.hid a2
    clear hlx hhx hly hhy a1 a2 hg
    go_enter Tryd.func4, Tryd.ntmps4
    go_wp2_with fail
    refine (alive_any _ HTN.out).mono ?_
    rintro e w1 ⟨rfl, hb⟩
    have HB1 := Lib.hid hb
    clear hb
    go_wp2_with fail
    refine (hnew_any digits 0 w1 (HTN.out.below HB1.out) HD.out.1 HD.out.2 (by omega) (by omega)).mono ?_
    rintro e w2 ⟨⟨b, S, rfl, hW, hH⟩, hb⟩
    have HB2 := Lib.hid (keep1 HB1.out hb)
    have HH := Lib.hid hH
    clear hb HB1 hW hH HTN
    go_wp2_with fail
    refine (HL1.out b S w2 HH.out).mono ?_
    rintro e w3 ⟨rfl, hb⟩
    have HB3 := Lib.hid (keep1 HB2.out hb)
    have HH3 := Lib.hid (HH.out.below hb)
    clear hb HB2 HH HL1
    go_wp2_with fail
    refine (HR1.out w3).mono ?_
    rintro e w4 ⟨rfl, hb⟩
    have HB4 := Lib.hid (keep1 HB3.out hb)
    have HH4 := Lib.hid (HH3.out.below hb)
    clear hb HB3 HH3 HR1
    go_wp2_with fail
    refine (HL2.out b S w4 HH4.out).mono ?_
    rintro e w5 ⟨rfl, hb⟩
    have HB5 := Lib.hid (keep1 HB4.out hb)
    clear hb HB4 HH4 HL2
    by_cases hin : lx ≤ y ∧ y ≤ hx
    · obtain ⟨rfl, rfl⟩ := HA.out.1 hin
      obtain ⟨i1, i2⟩ := hin
      clear HA
      go_wp2
      go_ret
      exact ⟨rfl, HB5.out⟩
    · have hne : ¬ (ly = lx ∧ hy = hx) := fun h => hin (HA.out.2 h)
      clear HA
      rcases (by omega : ¬ lx ≤ y ∨ (lx ≤ y ∧ ¬ y ≤ hx)) with i1 | ⟨i1, i2⟩
      all_goals
        clear hin
        try have hd2 : decide (y ≤ hx) = false := decide_eq_false i2
        rcases (by omega : ¬ ly = lx ∨ (ly = lx ∧ ¬ hy = hx)) with j1 | ⟨rfl, j2⟩
        · have j1' : (ly == lx) = false := beq_eq_false_iff_ne.2 j1
          clear hne j1
          go_wp2
          go_ret
          exact ⟨rfl, HB5.out⟩
        · have j2' : (hy == hx) = false := beq_eq_false_iff_ne.2 j2
          clear hne j2
          go_wp2
          go_ret
          exact ⟨rfl, HB5.out⟩
end Go.Proofs.YtnkkdciecjhpoaaDoor
