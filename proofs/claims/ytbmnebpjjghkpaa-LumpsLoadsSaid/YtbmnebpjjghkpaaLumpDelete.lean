/- Contracts of slices.Delete (one lump) and slices.Clone at lumps. -/
import Derived.Test.YtbmnebpjjghkpaaProg
import Derived.Test.YtbmnebpjjghkpaaLumpInsert
namespace Go.Proofs.Ytbmnebpjjghkpaa
open Go.RowKit

theorem own_shorter {base k elem g n cap N : Nat} {xs : List Value} {w : World} (h : w.ownsRow base elem k (.slice (some ⟨g, 0, none⟩) n cap) n xs) (hN : N ≤ n) : w.ownsRow base elem k (.slice (some ⟨g, 0, none⟩) N cap) N (xs.take (N * k)) := by
  rcases h.2 with ⟨h, _⟩ | ⟨g', cap', cur, h, hbg, hg, hnc, hcm, hcs, htake⟩
  · simp at h
  · simp only [Value.slice.injEq, Option.some.injEq, Addr.mk.injEq, and_true, true_and] at h
    obtain ⟨rfl, rfl⟩ := h
    have hNk : N * k ≤ n * k := Nat.mul_le_mul_right _ hN
    have hnk : n * k ≤ cap * k := Nat.mul_le_mul_right _ hnc
    have e : xs.take (N * k) = cur.toList.take (N * k) := by rw [← htake, List.take_take, Nat.min_eq_left hNk]
    rw [e]
    exact ⟨by rw [List.length_take, Array.length_toList]; omega, .inr ⟨g, cap, cur, rfl, hbg, hg, by omega, hcm, hcs, rfl⟩⟩

/-- What Delete leaves. -/
def DelR (base g c : Nat) (ps : List Lu) (i : Nat) (w : World) (e : Ending) (w' : World) : Prop :=
  e = .returned (.slice (some ⟨g, 0, none⟩) (ps.length - 2) c) ∧ Own3 base w' (some ⟨g, 0, none⟩) c (ps.take i ++ ps.drop (i + 2)) ∧ Frame [g] w w'

set_option maxRecDepth 100000 in
set_option maxHeartbeats 4000000 in
theorem delete_any (base g c i : Nat) (ps : List Lu) (w : World) (hown : Own3 base w (some ⟨g, 0, none⟩) c ps) (hi : i + 1 < ps.length) (hlen : ps.length ≤ 1048576) :
    Calls Try.prog 47 #[.slice (some ⟨g, 0, none⟩) ps.length c, .int .i64 i, .int .i64 (i + 2 : Nat)] w fun e w' => DelR base g c ps i w e w' := by
  obtain ⟨n, hn⟩ : ∃ n, ps.length = n := ⟨_, rfl⟩
  rw [hn] at hi hlen ⊢
  have hown0 : w.ownsRow base 71 3 (.slice (some ⟨g, 0, none⟩) n c) n (flatL ps) := by rw [← hn]; exact hown
  obtain ⟨_, _, _, hnc, _⟩ := own_setRow w hown0
  obtain ⟨i0, hi0, hz, hsz, hby⟩ := Try.infoPairs
  obtain ⟨D, hD⟩ : ∃ D, n - (i + 2) = D := ⟨_, rfl⟩
  have hiK : i + D + 2 = n := by omega
  have hd : (flatL (ps.drop (i + 2))).length = D * 3 := by rw [flatL_len, List.length_drop, hn, hD]
  have hpre := own_shorter hown0 (show i ≤ n by omega)
  rw [flatL_take] at hpre
  obtain ⟨ad, cp, had, hsrc⟩ : ∃ (ad : Addr) (cp : Nat), ((c = i + 2 ∧ ad = ⟨g, 0, none⟩ ∧ cp = 0) ∨ (c ≠ i + 2 ∧ ad = ⟨g, (i + 2) * 3, none⟩ ∧ cp = c - (i + 2))) ∧ ∀ j u, (flatL (ps.drop (i + 2)))[j]? = some u → w.drew.cell? (ad.add j) = some u := by
    by_cases h : c = i + 2
    · refine ⟨_, _, .inl ⟨h, rfl, rfl⟩, fun j u hj => ?_⟩
      have h0 : flatL (ps.drop (i + 2)) = [] := List.eq_nil_of_length_eq_zero (by rw [hd]; omega)
      rw [h0] at hj
      cases hj
    · exact ⟨_, _, .inr ⟨h, rfl, rfl⟩, Own3.from hown0.drew (i + 2)⟩
  obtain ⟨w1, hr1, ho1, hg1⟩ := run_append_fits (P := Try.prog) w.drew base 23 23 71 i0 3 Try.underlyingRow hi0 hsz g i c _ hpre.drew ad D cp (flatL (ps.drop (i + 2))) hd hsrc flatL_one (by omega)
  rw [← flatL_append] at ho1
  have hzv : ∀ w, (zeroValue 71).run Try.prog w = .ok (.agg #[.int .u64 0, .int .i64 0, .int .i64 0]) w := fun w => by simp [zeroValue, typeInfo, hi0, hz]
  obtain ⟨w2, hr2, ho2, hg2⟩ := run_clear_spare (P := Try.prog) w1 base 23 0 71 3 _ Try.underlyingRow hzv rfl (by intro u hu; simp [Value.cells] at hu; rcases hu with rfl | rfl | rfl <;> rfl) g (i + D) c _ ho1 ((i + D) * 3) 2 (c - (i + D)) rfl (by omega) (by decide)
  have hlr : (ps.take i ++ ps.drop (i + 2)).length = i + D := by rw [List.length_append, List.length_take, List.length_drop, hn]; omega
  have HR : Hid (DelR base g c ps i w (.returned (.slice (some ⟨g, 0, none⟩) (i + D) c)) w2) := by
    refine ⟨by rw [hn, ← hiK, Nat.add_sub_cancel], ?_, (frame_some hg1).of_drew.trans (frame_some hg2)⟩
    unfold Own3
    rw [hlr]
    exact ho2
  have b1 : (i : Int) ≤ ((i + 2 : Nat) : Int) := by omega
  have b2 : ((i + 2 : Nat) : Int) ≤ n := by omega
  have b3 : i + 2 ≤ n := by omega
  have b4 : i ≤ n := by omega
  have b5 : i ≤ c := by omega
  have b6 : ¬ ((i : Int) = ((i + 2 : Nat) : Int)) := by omega
  have b7 : ((i : Int) == ((i + 2 : Nat) : Int)) = false := beq_eq_false_iff_ne.2 b6
  have b8 : i + 2 ≤ c := by omega
  replace hr1 := Lib.hid hr1
  replace hr2 := Lib.hid hr2
  have HK := Lib.hid hD
  clear hown hown0 hpre ho1 ho2 hd hsrc hg1 hg2 hlr hi0 hz hsz hby hzv hn
  go_enter Try.func47, Try.ntmps47
  go_wp2_with fail
  refine wp_region_noPanic ?_
  refine wp_region_until (S := fun _ => True) 8 (by kernel_rfl) ?_
  have hHeld : (fun _ : World => True) w.drew := trivial
  have hneF : Nonempty (Held fun _ => True) := ⟨⟨w, trivial⟩⟩
  have n1 : n - (i + D) = 2 := by omega
  have n2 : i + D ≤ n := by omega
  have n3 : ¬ (c = i + D) := by omega
  have n4 : n ≤ c := hnc
  have hD2 := HK.out
  rcases had with ⟨rfl, rfl, rfl⟩ | ⟨hc, rfl, rfl⟩
  · skip
    refine wpAnyU_run0F [true, true, true, true, true, true] 2 (by kernel_rfl) (by kernel_rfl) (fun _ _ _ _ h => h) (by kernel_rfl) hHeld ?_
    simp only [runOps_true, runOps_false, runOps_nil]
    repeat (first | go_big_quiet_skip | (go_big_quiet_want; go_big_quiet_op; go_big_quiet_on))
    refine wpQuiet_nil ?_
    simp only [Nat.sub_self, HK.out]
    refine wpAnyU_ready (rs := [6]) (by kernel_rfl) (by simp) ?_
    refine AllReadyU.cons rfl (fun K hK => ?_) (AllReadyU.nil)
    refine ite_of rfl ?_
    refine Lib.wp_append_run _ _ _ _ _ rfl _ _ rfl rfl _ _ hr1.out ?_
    refine hK.out _ _ (fun _ => trivial) ?_
    clear hK K hD2
    simp only [Act.put, List.setIfInBounds_toArray, List.set_cons_zero, List.set_cons_succ]
    refine wpAnyU_ready (rs := [7]) (by kernel_rfl) (by simp) ?_
    refine AllReadyU.cons rfl (fun K hK => ?_) (AllReadyU.nil)
    go_simp
    go_wp2
    refine hK.out _ _ (fun _ => trivial) ?_
    clear hK K
    refine wpAnyU_done (by kernel_rfl) ?_ _
    refine NoPanic.normal ?_
    clear hneF hHeld
    have hr2' := hr2.out
    go_wp2
    go_ret
    exact HR.out
  · skip
    refine wpAnyU_run0F [true, true, true, true, true, true] 2 (by kernel_rfl) (by kernel_rfl) (fun _ _ _ _ h => h) (by kernel_rfl) hHeld ?_
    simp only [runOps_true, runOps_false, runOps_nil]
    repeat (first | go_big_quiet_skip | (go_big_quiet_want; go_big_quiet_op; go_big_quiet_on))
    refine wpQuiet_nil ?_
    simp only [Nat.sub_self, HK.out]
    refine wpAnyU_ready (rs := [6]) (by kernel_rfl) (by simp) ?_
    refine AllReadyU.cons rfl (fun K hK => ?_) (AllReadyU.nil)
    refine ite_of rfl ?_
    refine Lib.wp_append_run _ _ _ _ _ rfl _ _ rfl rfl _ _ hr1.out ?_
    refine hK.out _ _ (fun _ => trivial) ?_
    clear hK K hD2
    simp only [Act.put, List.setIfInBounds_toArray, List.set_cons_zero, List.set_cons_succ]
    refine wpAnyU_ready (rs := [7]) (by kernel_rfl) (by simp) ?_
    refine AllReadyU.cons rfl (fun K hK => ?_) (AllReadyU.nil)
    go_simp
    go_wp2
    refine hK.out _ _ (fun _ => trivial) ?_
    clear hK K
    refine wpAnyU_done (by kernel_rfl) ?_ _
    refine NoPanic.normal ?_
    clear hneF hHeld
    have hr2' := hr2.out
    go_wp2
    go_ret
    exact HR.out
end Go.Proofs.Ytbmnebpjjghkpaa

