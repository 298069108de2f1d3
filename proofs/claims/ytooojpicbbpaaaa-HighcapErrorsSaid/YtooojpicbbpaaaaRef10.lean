/- Contracts of the document's highcap. -/
import Derived.Test.YtooojpicbbpaaaaProg
import Derived.Test.YtooojpicbbpaaaaHighPut
import Derived.Test.YtooojpicbbpaaaaCapFar
import Derived.BigQuiet
import Derived.Deep.QuietTactic
namespace Go.Proofs.Ytooojpicbbpaaaa
open Go.RowKit

structure DocB (w : World) (m : Nat) (A : Option Addr) (c : Nat) (most : Int) (ps : List (Int × Int)) : Prop where
  at' : At w m #[.int .i64 most, .slice A ps.length c] 31
  own : Own2 0 w A c ps
  ne : m ∉ blk A
/-- The document's, and the blocks that are its own. -/
def DocL (w : World) (m : Nat) (S : List Nat) (most : Int) (ps : List (Int × Int)) : Prop := ∃ A c, S = m :: blk A ∧ DocB w m A c most ps
section
variable {w w' : World} {b : Nat} {S T : List Nat} {most : Int} {ps : List (Int × Int)}
theorem DocL.frame (h : DocL w b S most ps) (hf : Frame T w w') (hn : Apart S T) : DocL w' b S most ps := by
  obtain ⟨A, c, rfl, h⟩ := h
  exact ⟨A, c, rfl, hf.at h.at' (hn b (by simp)), h.own.frame hf (fun k hk => hn k (by simp [hk])), h.ne⟩
theorem DocL.below (h : DocL w b S most ps) (hb : Below w.heap.size w w') : DocL w' b S most ps := h.frame (T := []) (Frame.of_below hb) (fun _ _ => by simp)
theorem DocL.lt (h : DocL w b S most ps) : ∀ k ∈ S, k < w.heap.size := by
  obtain ⟨A, c, rfl, h⟩ := h
  intro k hk
  rcases List.mem_cons.1 hk with rfl | hk
  · exact h.at'.lt
  · cases A with
    | none => simp [blk] at hk
    | some a => simp only [blk, List.mem_singleton] at hk; subst hk; exact (h.own.base_le a rfl).2
end

set_option maxRecDepth 100000 in
theorem dlend_any (m : Nat) (S : List Nat) (most : Int) (ps : List (Int × Int)) (w : World) (h : DocL w m S most ps) (h0 : ps ≠ []) (hln : ps.length ≤ 1048576) :
    Calls Try.prog 46 #[.pointer (some ⟨m, 0, none⟩)] w fun e w' => e = .returned (.int .i64 (endP sd ps)) ∧ Below w.heap.size w w' := by
  obtain ⟨A, c, _, h⟩ := h
  have f1 := h.at'.two
  have hlp := List.length_pos_iff.2 h0
  obtain ⟨g, o, rfl, hg, hc1, hc2⟩ := h.own.rd.at' 0 (by omega)
  obtain ⟨n, hn⟩ : ∃ n, ps.length = n := ⟨_, rfl⟩
  have HV : Hid (endP sd ps = (ps.getD 0 (0, 0)).1) := rfl
  rw [hn] at f1 hln hlp
  obtain ⟨y, hy⟩ : ∃ y, (ps.getD 0 (0, 0)).1 = y := ⟨_, rfl⟩
  rw [hy] at HV hc1
  rw [Nat.zero_mul, Nat.add_zero] at hc1
  have k1 : (0 : Int) < n := by omega
  clear hy hn h hc2 h0
  go_enter Try.func46, Try.ntmps46
  go_wp2
  go_ret
  exact ⟨by rw [HV.out]; rfl, Below.refl _ _⟩

theorem dlkeeps_any (m : Nat) (S : List Nat) (most q : Int) (ps : List (Int × Int)) (w : World) (h : DocL w m S most ps) (h0 : ps ≠ []) (hln : ps.length ≤ 1048576) (hok : okP ps) (hm : 1 ≤ most ∧ most ≤ 4096)
    (hq : -9223372036854775808 ≤ q ∧ q ≤ 9223372036854775807) (hg : 0 ≤ gap sd (endP sd ps) q) :
    Calls Try.prog 35 #[.pointer (some ⟨m, 0, none⟩), .int .i64 q] w fun e w' => e = .returned (.bool (decide (gap sd (endP sd ps) q < most))) ∧ Below w.heap.size w w' := by
  have HC := Lib.hid (fun (W : World) (hb : Below w.heap.size w W) => dlend_any m S most ps W (h.below hb) h0 hln)
  have he := hok.end' (s := sd) h0
  obtain ⟨A, c, _, hB⟩ := h
  have s1 := hB.at'
  have l1 := s1.lt
  obtain ⟨e, hee⟩ : ∃ e, endP sd ps = e := ⟨_, rfl⟩
  rw [hee] at HC he hg ⊢
  obtain ⟨x, hx⟩ : ∃ x, IntKind.u64.wrap e = x := ⟨_, rfl⟩
  obtain ⟨y, hy⟩ : ∃ y, IntKind.u64.wrap q = y := ⟨_, rfl⟩
  have hm' : IntKind.u64.wrap most = most := by simp only [IntKind.wrap_u64]; omega
  have hg' : gap sd e q = q - e := rfl
  rw [hg'] at hg ⊢
  have hd : IntKind.u64.wrap (y - x) = q - e := by subst hx hy; simp only [IntKind.wrap_u64]; omega
  clear hB hee h0 hln hok hm hq he hg hg'
  go_enter Try.func35, Try.ntmps35
  go_wp2
  have hfar1 := fun x : Far w => (x.at s1).two
  refine wp_region_far (by kernel_rfl) (by kernel_rfl) ?_
  repeat (first | go_big_quiet_skip | (go_big_quiet_want; go_big_quiet_op; first | go_big_quiet_on | (apply Exists.intro; refine ⟨fun _ => ?_, ?_⟩; (focus (first | (refine far_of (HC.out _ (Far.below _))))); go_big_quiet_on)))
  refine wpQuiet_nil ?_
  rintro _ ⟨xq, rfl⟩
  clear hfar1
  go_wp2
  go_ret
  exact ⟨rfl, Far.below _⟩

theorem keptP_take (s : Bool) (most e : Int) (ps : List (Int × Int)) (k : Nat) (hk : k < ps.length) : near s most e (ps.take (k + 1)) = near s most e (ps.take k) ++ (if gap s e (ps[k]'hk).1 < most then [ps[k]'hk] else []) := by
  unfold near
  rw [filter_take ps _ k hk]
  simp only [decide_eq_true_eq]
theorem kept_near (s : Bool) (most : Int) (ps : List (Int × Int)) : near s most (endP s ps) ps = keptP s most ps := rfl

set_option maxHeartbeats 1000000 in
theorem dlkept_any (m : Nat) (S : List Nat) (most : Int) (ps : List (Int × Int)) (w : World) (h : DocL w m S most ps) (hln : ps.length ≤ 1048576) (hgd : Gd ps) (hok : okP ps) (hm : 1 ≤ most ∧ most ≤ 4096) :
    Calls Try.prog 13 #[.pointer (some ⟨m, 0, none⟩)] w fun e w' => CloR (keptP sd most ps) w e w' := by
  have HK := Lib.hid (fun (W : World) (hb : Below w.heap.size w W) (j : Nat) (hj : j < ps.length) =>
    dlkeeps_any m S most (ps[j]'hj).1 ps W (h.below hb) (List.ne_nil_of_mem (List.getElem_mem hj)) hln hok hm (hok _ (List.getElem_mem hj)).1 (endP_gap hgd _ (List.getElem_mem hj)))
  obtain ⟨e, hee⟩ : ∃ e, endP sd ps = e := ⟨_, rfl⟩
  have HE : Hid (near sd most e ps = keptP sd most ps) := by show _ = _; rw [← hee]; rfl
  obtain ⟨A, c, _, hB⟩ := h
  have f1 := hB.at'.two
  have HR := Lib.hid hB.own.rd
  obtain ⟨len, hlen⟩ : ∃ len, ps.length = len := ⟨_, rfl⟩
  have HLN := Lib.hid hlen
  rw [hlen] at f1 hln
  rw [hee] at HK
  clear hB hgd hok hm hee hlen
  go_enter Try.func13, Try.ntmps13
  go_wp2
  go_loopw [3, 5, 11] (fun o _ i wr => ∃ k n : Nat, ∃ A' cap', k ≤ len ∧ n ≤ k ∧ i = .int .i64 k ∧ o = .slice A' n cap' ∧ Hid ((near sd most e (ps.take k)).length = n) ∧ Hid (Own2 w.heap.size wr A' cap' (near sd most e (ps.take k))) ∧ Below w.heap.size w wr) (fun _ _ i _ => len - (intOf i).toNat)
  case atStart => exact ⟨0, 0, none, 0, by omega, by omega, rfl, rfl, rfl, Own2.nil _ _, Below.refl _ _⟩
  case round =>
    obtain ⟨k, n, A', cap', hk, hn, rfl, rfl, HN, HW, hB⟩ := hrel
    have zB := hB.size
    by_cases hlt : k < len
    · obtain ⟨g, o, rfl, hg, c1, c2⟩ := (HR.out.below hB).at k (by have := HLN.out; omega)
      have HF := Lib.hid (keptP_take sd most e ps k (by have := HLN.out; omega))
      have HKK := Lib.hid (fun (W : World) (hb : Below w.heap.size w W) => HK.out W hb k (by have := HLN.out; omega))
      obtain ⟨⟨x, y⟩, hx⟩ : ∃ x, ps[k]'(by have := HLN.out; omega) = x := ⟨_, rfl⟩
      rw [hx] at c1 c2 HF HKK
      clear hx HR HK
      dsimp only at c1 c2 HF HKK
      have hbp : Below w.heap.size w (wr.alloc (.cells #[.int .i64 x, .int .u64 y] 34)) := (by repeat (first | with_reducible assumption | with_reducible exact Below.refl _ _ | with_reducible refine Below.drew ?_ | with_reducible refine Below.drewN ?_ _ | with_reducible refine Below.setCell ?_ (by first | omega | (simp; done) | (simp; omega)) _ | with_reducible refine Below.alloc ?_ (by first | omega | (simp; done) | (simp; omega) | (simp [World.setCell]; omega)) _))
      have sP := At.new wr #[.int .i64 x, .int .u64 y] 34
      go_wp2_with fail
      refine (HKK.out _ hbp).mono ?_
      rintro r w2 ⟨rfl, hb⟩
      have hb2 := keep1 hbp hb
      have z2 := hb2.size
      replace sP := sP.below hb
      have HW2 : Hid (Own2 w.heap.size w2 A' cap' (near sd most e (ps.take k))) := (HW.out.below ((Below.refl _ _).alloc (Nat.le_refl _) _)).below hb
      have fP := sP.two
      have lP := sP.lt
      clear hb hbp HW hB
      by_cases hkp : gap sd e x < most
      · rw [if_pos hkp] at HF
        rw [decide_eq_true hkp]
        clear hkp
        go_wp2_with (at_builtin; refine wpList_append_pair rfl _ _ rfl w.heap.size A' cap' n _ rfl HN.out (HW2.out.below (by repeat (first | with_reducible assumption | with_reducible exact Below.refl _ _ | with_reducible refine Below.drew ?_ | with_reducible refine Below.drewN ?_ _ | with_reducible refine Below.setCell ?_ (by first | omega | (simp; done) | (simp; omega)) _ | with_reducible refine Below.alloc ?_ (by first | omega | (simp; done) | (simp; omega) | (simp [World.setCell]; omega)) _))) _ _ (x, y) rfl (new_two0 (by simp)) (new_two1 (by simp)) (by omega) w (by repeat (first | with_reducible assumption | with_reducible exact Below.refl _ _ | with_reducible refine Below.drew ?_ | with_reducible refine Below.drewN ?_ _ | with_reducible refine Below.setCell ?_ (by first | omega | (simp; done) | (simp; omega)) _ | with_reducible refine Below.alloc ?_ (by first | omega | (simp; done) | (simp; omega) | (simp [World.setCell]; omega)) _)) (by first | omega | (simp; done) | (simp; omega) | (simp [World.setCell]; omega)) ?_; intro A2 cap2 w2 HW2 hB2)
        go_roundw
        case rel =>
          refine ⟨k + 1, n + 1, A2, cap2, by omega, by omega, by simp, rfl, ?_, ?_, hB2⟩
          · show _ = _
            rw [HF.out, List.length_append, HN.out]
            rfl
          · show Own2 _ _ _ _ _
            rw [HF.out]
            exact HW2.out
        case measure => simp [intOf]; omega
      · rw [if_neg hkp] at HF
        rw [decide_eq_false hkp]
        clear hkp
        go_wp2
        go_roundw
        case rel =>
          refine ⟨k + 1, n, A', cap', by omega, by omega, by simp, rfl, ?_, ?_, hb2⟩
          · show _ = _
            rw [HF.out, List.append_nil, HN.out]
          · show Own2 _ _ _ _ _
            rw [HF.out, List.append_nil]
            exact HW2.out
        case measure => simp [intOf]; omega
    · obtain rfl : k = len := by omega
      have hl1 : ps.take k = ps := List.take_of_length_le (by have := HLN.out; omega)
      rw [hl1, HE.out] at HN HW
      clear hl1 HR HK
      go_wp2
      go_ret
      exact ⟨A', cap', by rw [HN.out]; rfl, HW.out, hB⟩

theorem sumP_kept_take (ps : List (Int × Int)) (s : Bool) (most e : Int) (k : Nat) (hk : k < ps.length) :
    sumP (ps.take (k + 1)) - sumP (near s most e (ps.take (k + 1))) = sumP (ps.take k) - sumP (near s most e (ps.take k)) + (if gap s e (ps[k]'hk).1 < most then 0 else (ps[k]'hk).2) := by
  rw [sumP_take ps k hk, keptP_take s most e ps k hk, sumP_append]
  split
  · rw [sumP_cons, sumP_nil]; omega
  · rw [sumP_nil]; omega

set_option maxHeartbeats 1000000 in
theorem dllost_any (m : Nat) (S : List Nat) (most : Int) (ps : List (Int × Int)) (w : World) (h : DocL w m S most ps) (hln : ps.length ≤ 1048576) (hgd : Gd ps) (hok : okP ps) (hs : sumP ps ≤ 9223372036854775807) (hm : 1 ≤ most ∧ most ≤ 4096) :
    Calls Try.prog 17 #[.pointer (some ⟨m, 0, none⟩)] w fun e w' => e = .returned (.int .u64 (sumP ps - sumP (keptP sd most ps))) ∧ Below w.heap.size w w' := by
  have HK := Lib.hid (fun (W : World) (hb : Below w.heap.size w W) (j : Nat) (hj : j < ps.length) =>
    dlkeeps_any m S most (ps[j]'hj).1 ps W (h.below hb) (List.ne_nil_of_mem (List.getElem_mem hj)) hln hok hm (hok _ (List.getElem_mem hj)).1 (endP_gap hgd _ (List.getElem_mem hj)))
  have HG := Lib.hid hgd
  have HS0 := Lib.hid hs
  obtain ⟨e, hee⟩ : ∃ e, endP sd ps = e := ⟨_, rfl⟩
  have HE : Hid (near sd most e ps = keptP sd most ps) := by show _ = _; rw [← hee]; rfl
  obtain ⟨A, c, _, hB⟩ := h
  have f1 := hB.at'.two
  have HR := Lib.hid hB.own.rd
  obtain ⟨len, hlen⟩ : ∃ len, ps.length = len := ⟨_, rfl⟩
  have HLN := Lib.hid hlen
  rw [hlen] at f1 hln
  rw [hee] at HK
  clear hB hgd hok hm hee hlen hs
  go_enter Try.func17, Try.ntmps17
  go_wp2
  go_loopw [3, 5, 11] (fun v _ i wr => ∃ k : Nat, ∃ n : Int, k ≤ len ∧ i = .int .i64 k ∧ v = .int .u64 n ∧ 0 ≤ n ∧ n ≤ 9223372036854775807 ∧ Hid (n = sumP (ps.take k) - sumP (near sd most e (ps.take k))) ∧ Below w.heap.size w wr) (fun _ _ i _ => len - (intOf i).toNat)
  case atStart => exact ⟨0, 0, by omega, rfl, rfl, by omega, by omega, rfl, Below.refl _ _⟩
  case round =>
    obtain ⟨k, n, hk, rfl, rfl, hn0, hn1, HN, hB⟩ := hrel
    have zB := hB.size
    by_cases hlt : k < len
    · obtain ⟨g, o, rfl, hg, c1, c2⟩ := (HR.out.below hB).at k (by have := HLN.out; omega)
      have HF := Lib.hid (sumP_kept_take ps sd most e k (by have := HLN.out; omega))
      have HX := Lib.hid (HG.out.pos _ (List.getElem_mem (show k < ps.length by have := HLN.out; omega)))
      have HL : Hid (sumP (ps.take (k + 1)) - sumP (near sd most e (ps.take (k + 1))) ≤ 9223372036854775807) := by
        have e1 := congrArg sumP (List.take_append_drop (k + 1) ps)
        rw [sumP_append] at e1
        have := sumP_nonneg (ps := ps.drop (k + 1)) (fun x hx => HG.out.pos x (List.mem_of_mem_drop hx))
        have := (sumP_filter_le (ps := ps.take (k + 1)) (fun x hx => HG.out.pos x (List.mem_of_mem_take hx)) (fun x => decide (gap sd e x.1 < most))).1
        have := HS0.out
        show _ ≤ _
        unfold near
        omega
      have HKK := Lib.hid (fun (W : World) (hb : Below w.heap.size w W) => HK.out W hb k (by have := HLN.out; omega))
      obtain ⟨⟨x, y⟩, hx⟩ : ∃ x, ps[k]'(by have := HLN.out; omega) = x := ⟨_, rfl⟩
      rw [hx] at c1 c2 HF HKK HX
      clear hx HR HK
      dsimp only at c1 c2 HF HKK HX
      have hbp : Below w.heap.size w (wr.alloc (.cells #[.int .i64 x, .int .u64 y] 34)) := (by repeat (first | with_reducible assumption | with_reducible exact Below.refl _ _ | with_reducible refine Below.drew ?_ | with_reducible refine Below.drewN ?_ _ | with_reducible refine Below.setCell ?_ (by first | omega | (simp; done) | (simp; omega)) _ | with_reducible refine Below.alloc ?_ (by first | omega | (simp; done) | (simp; omega) | (simp [World.setCell]; omega)) _))
      have sP := At.new wr #[.int .i64 x, .int .u64 y] 34
      go_wp2_with fail
      refine (HKK.out _ hbp).mono ?_
      rintro r w2 ⟨rfl, hb⟩
      have hb2 := keep1 hbp hb
      have z2 := hb2.size
      replace sP := sP.below hb
      have fP := sP.two
      have lP := sP.lt
      clear hb hbp hB
      by_cases hkp : gap sd e x < most
      · rw [if_pos hkp] at HF
        rw [decide_eq_true hkp]
        clear hkp
        go_wp2
        go_roundw
        case rel => exact ⟨k + 1, n, by omega, by simp, rfl, hn0, hn1, Lib.hid (by have := HF.out; have := HN.out; omega), hb2⟩
        case measure => simp [intOf]; omega
      · rw [if_neg hkp] at HF
        rw [decide_eq_false hkp]
        have hw : IntKind.u64.wrap (n + y) = n + y := by have := HF.out; have := HN.out; have := HL.out; have := HX.out; simp only [IntKind.wrap_u64]; omega
        clear hkp
        go_wp2
        go_roundw
        case rel => exact ⟨k + 1, n + y, by omega, by simp, rfl, by have := HX.out; omega, by have := HF.out; have := HN.out; have := HL.out; omega, Lib.hid (by have := HF.out; have := HN.out; omega), hb2⟩
        case measure => simp [intOf]; omega
    · obtain rfl : k = len := by omega
      have hl1 : ps.take k = ps := List.take_of_length_le (by have := HLN.out; omega)
      rw [hl1, HE.out] at HN
      clear hl1 HR HK
      go_wp2
      go_ret
      exact ⟨by rw [← HN.out]; rfl, hB⟩

theorem findP_mem {t : Int} : ∀ {ps : List (Int × Int)} {s i : Int}, findP t s ps = some i → ∃ x ∈ ps, x.1 = i
  | [], _, _, h => by cases h
  | y :: ps, s, i, h => by
    unfold findP at h
    split at h
    · cases h; exact ⟨y, by simp, rfl⟩
    · obtain ⟨x, hx, e⟩ := findP_mem h
      exact ⟨x, by simp [hx], e⟩
/-- The document's answer. -/
def keepO (most e : Int) (o : Option Int) : Option Int := match o with
  | some i => if gap sd e i < most then some i else none
  | none => none
def docFind (most : Int) (ps : List (Int × Int)) (t : Int) : Option Int := keepO most (endP sd ps) (findP t 0 ps)
theorem dlfind_any (m : Nat) (S : List Nat) (most t : Int) (ps : List (Int × Int)) (w : World) (h : DocL w m S most ps) (hln : ps.length ≤ 1048576) (hgd : Gd ps) (hok : okP ps) (hm : 1 ≤ most ∧ most ≤ 4096) (ht : 0 ≤ t ∧ t < 18446744073709551616) :
    Calls Try.prog 28 #[.pointer (some ⟨m, 0, none⟩), .int .u64 t] w fun e w' => e = .returned (optI (docFind most ps t)) ∧ Below w.heap.size w w' := by
  have HK : Hid (∀ W : World, Below w.heap.size w W → ∀ i : Int, (∃ x ∈ ps, x.1 = i) → Calls Try.prog 35 #[.pointer (some ⟨m, 0, none⟩), .int .i64 i] W fun e w' => e = .returned (.bool (decide (gap sd (endP sd ps) i < most))) ∧ Below W.heap.size W w') := fun W hb i hi => by
    obtain ⟨x, hx, e⟩ := hi
    subst e
    exact dlkeeps_any m S most x.1 ps W (h.below hb) (List.ne_nil_of_mem hx) hln hok hm (hok x hx).1 (endP_gap hgd x hx)
  obtain ⟨A, c, _, hB⟩ := h
  have f1 := hB.at'.two
  have HF := Lib.hid (rfind_any A ps.length c ps t w rfl (by omega) hB.own.rd hok ht)
  obtain ⟨len, hlen⟩ : ∃ len, ps.length = len := ⟨_, rfl⟩
  rw [hlen] at f1 HF
  clear hB hgd hok hm hlen hln ht
  cases hf : findP t 0 ps with
  | none =>
    have HV : Hid (docFind most ps t = none) := by show _ = _; unfold docFind; rw [hf]; rfl
    rw [hf] at HF
    clear hf
    go_enter Try.func28, Try.ntmps28
    go_wp2_with fail
    refine HF.out.mono ?_
    rintro e w1 ⟨rfl, hb⟩
    rw [show optI none = .tuple #[.int .i64 0, .bool false] from rfl]
    go_wp2
    go_ret2
    exact ⟨by rw [HV.out]; rfl, hb⟩
  | some i =>
    have HI := Lib.hid (findP_mem hf)
    rw [hf] at HF
    by_cases hk : gap sd (endP sd ps) i < most
    · have HV : Hid (docFind most ps t = some i) := by show _ = _; unfold docFind keepO; rw [hf]; dsimp only; rw [if_pos hk]
      have HD := Lib.hid (decide_eq_true hk)
      clear hf hk
      go_enter Try.func28, Try.ntmps28
      go_wp2_with fail
      refine HF.out.mono ?_
      rintro e w1 ⟨rfl, hb⟩
      rw [show optI (some i) = .tuple #[.int .i64 i, .bool true] from rfl]
      go_wp2_with fail
      refine (HK.out w1 hb i HI.out).mono ?_
      rintro e w2 ⟨rfl, hb2⟩
      rw [HD.out]
      go_wp2
      go_ret2
      exact ⟨by rw [HV.out]; rfl, keep1 hb hb2⟩
    · have HV : Hid (docFind most ps t = none) := by show _ = _; unfold docFind keepO; rw [hf]; dsimp only; rw [if_neg hk]
      have HD := Lib.hid (decide_eq_false hk)
      clear hf hk
      go_enter Try.func28, Try.ntmps28
      go_wp2_with fail
      refine HF.out.mono ?_
      rintro e w1 ⟨rfl, hb⟩
      rw [show optI (some i) = .tuple #[.int .i64 i, .bool true] from rfl]
      go_wp2_with fail
      refine (HK.out w1 hb i HI.out).mono ?_
      rintro e w2 ⟨rfl, hb2⟩
      rw [HD.out]
      go_wp2
      go_ret2
      exact ⟨by rw [HV.out]; rfl, keep1 hb hb2⟩
end Go.Proofs.Ytooojpicbbpaaaa

