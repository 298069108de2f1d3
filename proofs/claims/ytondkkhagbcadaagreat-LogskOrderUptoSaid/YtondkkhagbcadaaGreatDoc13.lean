/- The document's bins by a closeness or by digits: New. -/
import Derived.Test.YtondkkhagbcadaaGreatProg
import Derived.Test.YtondkkhagbcadaaGreatBnV
namespace Go.Proofs.YtondkkhagbcadaaGreat
open Go.RowKit

theorem partT_mono (L : List Nat) : PartMono (partT L) := fun x y hx hxy hy => by
  have : (L.filter fun z => decide (z ≤ x)).length ≤ (L.filter fun z => decide (z ≤ y)).length := by
    rw [← List.countP_eq_length_filter, ← List.countP_eq_length_filter]
    exact List.countP_mono_left fun z _ hz => by simp only [decide_eq_true_eq] at hz ⊢; omega
  unfold partT
  omega
/-- How a case's parts are told: a closeness, or digits. -/
def Cs (u v d : Int) (k : Bool) (part : Nat → Int) (rep stand : Int → Int) : Prop :=
  (k = true ∧ 1 ≤ d ∧ d ≤ 4 ∧ part = partD d ∧ rep = repD d ∧ stand = standV (repM (gOf d))) ∨ (k = false ∧ d = 0 ∧ ∃ (un vn : Nat) (L : List Nat), u = un ∧ v = vn ∧ TabOk un vn L ∧ part = partT L ∧ rep = repT un vn L ∧ stand = standV (repTN un vn L))
/-- It can't be. -/
def CsNo (u v d : Int) : Prop := d = 0 ∧ (goodC u v = false ∨ ∃ un vn : Nat, u = un ∧ v = vn ∧ 0 < un ∧ un < vn ∧ vn ≤ 2147483648 ∧ cellsF un vn 4096 1 = none)
theorem cs_cases {u v d : Int} (hu : 0 ≤ u) (hv : 0 ≤ v) (h0 : 0 ≤ d) (h4 : d ≤ 4) : (∃ k part rep stand, Cs u v d k part rep stand) ∨ CsNo u v d := by
  by_cases hd : d = 0
  · cases hg : goodC u v with
    | false => exact .inr ⟨hd, .inl hg⟩
    | true =>
      obtain ⟨g1, g2, g3⟩ := goodC_iff.1 hg
      obtain ⟨un, rfl⟩ := Int.eq_ofNat_of_zero_le hu
      obtain ⟨vn, rfl⟩ := Int.eq_ofNat_of_zero_le hv
      cases hc : cellsF un vn 4096 1 with
      | none => exact .inr ⟨hd, .inr ⟨un, vn, rfl, rfl, by omega, by omega, by omega, hc⟩⟩
      | some L => exact .inl ⟨false, _, _, _, .inr ⟨rfl, hd, un, vn, L, rfl, rfl, ⟨hc, by omega, by omega, by omega⟩, rfl, rfl, rfl⟩⟩
  · exact .inl ⟨true, _, _, _, .inl ⟨rfl, by omega, h4, rfl, rfl, rfl⟩⟩
theorem standV_val {rep' : Nat → Nat} {rep : Int → Int} {part : Nat → Int} {x : Int} (hx : x ≠ 0) (h : rep (part x.natAbs) = (rep' x.natAbs : Nat)) : standV rep' x = valZ rep (part x.natAbs) (decide (x < 0)) := by
  unfold standV valZ
  rw [if_neg hx, h]
  by_cases h1 : 0 < x
  · rw [if_pos h1, decide_eq_false (by omega), if_neg (by simp)]
  · rw [if_neg h1, decide_eq_true (by omega), if_pos rfl]
section
variable {u v d : Int} {k : Bool} {part : Nat → Int} {rep stand : Int → Int}
theorem Cs.ps (h : Cs u v d k part rep stand) : PS part rep stand := by
  rcases h with ⟨_, h1, h4, rfl, rfl, rfl⟩ | ⟨_, _, un, vn, L, _, _, ht, rfl, rfl, rfl⟩
  · exact ⟨partD_mono d, fun m a b => by have := partD_rng (d := d) a b; omega, fun x hx a b => standV_val hx (repD_part (by omega) (by omega)), rfl⟩
  · exact ⟨partT_mono L, fun m a b => by have := ht.part (m := m) a; have := ht.len; omega, fun x hx a b => standV_val hx (repT_part un vn L _), rfl⟩
end
/-- The document's bins; all its blocks are in TB. -/
def DocAt (w : World) (m : Nat) (TB : List Nat) (u v d side most : Int) (A : Option Addr) (len cap : Nat) : Prop :=
  (1 ≤ d ∧ BinsAt w m (.slice none 0 0) (.slice none 0 0) d side most A len cap ∧ TB = [m]) ∨
  (d = 0 ∧ ∃ (un vn : Nat) (L : List Nat) (A1 : Option Addr) (c1 : Nat) (A2 : Option Addr) (c2 : Nat), u = un ∧ v = vn ∧ TabOk un vn L ∧ BinsAt w m (.slice A1 L.length c1) (.slice A2 L.length c2) 0 side most A len cap ∧ RdU w A1 (castL L) ∧ RdU w A2 (castL (L.map (repN un vn))) ∧ TB = m :: (blk A1 ++ blk A2))
theorem rdU_ne {w : World} {m : Nat} {A A' A'' : Option Addr} {n1 c1 n2 c2 n3 c3 : Nat} {d side most : Int} {A0 : Option Addr} {xs : List Int} (h : BinsAt w m (.slice A n1 c1) (.slice A' n2 c2) d side most A'' n3 c3) (hr : RdU w A0 xs) (hx : xs ≠ []) : ∀ g, A0 = some g → g.block ≠ m := by
  rintro g hg rfl
  obtain ⟨b, o, e, hb, hc⟩ := hr.at 0 (List.length_pos_iff.2 hx)
  rw [hg] at e
  simp only [Option.some.injEq] at e
  subst e
  have h' : w.heap[b]? = some (.cells #[.slice A n1 c1, .slice A' n2 c2, .int .i64 d, .int .i64 side, .int .i64 most, .slice A'' n3 c3] 41) := h
  unfold World.cell? at hc
  simp [h'] at hc
  match o, hc with
  | 0, hc => simp at hc
  | 1, hc => simp at hc
  | 2, hc => simp at hc
  | 3, hc => simp at hc
  | 4, hc => simp at hc
  | 5, hc => simp at hc
  | n + 6, hc => simp at hc
theorem castL_ne {L : List Nat} (h : 0 < L.length) : castL L ≠ [] := fun e => by
  have := congrArg List.length e
  rw [castL_length, List.length_nil] at this
  omega
section
variable {w w' : World} {m : Nat} {TB S : List Nat} {u v d side most : Int} {A : Option Addr} {len cap : Nat} {k : Bool} {part : Nat → Int} {rep stand : Int → Int}
theorem DocAt.frame (h : DocAt w m TB u v d side most A len cap) (hf : Frame S w w') (hn : Apart TB S) : DocAt w' m TB u v d side most A len cap := by
  rcases h with ⟨h1, h2, rfl⟩ | ⟨h1, un, vn, L, A1, c1, A2, c2, e1, e2, ht, h2, h3, h4, rfl⟩
  · exact .inl ⟨h1, hf.at h2 (hn m (by simp)), rfl⟩
  · exact .inr ⟨h1, un, vn, L, A1, c1, A2, c2, e1, e2, ht, hf.at h2 (hn m (by simp)), Frame.rd hf h3 (fun x e => hn _ (by subst e; simp [blk])), Frame.rd hf h4 (fun x e => hn _ (by subst e; simp [blk])), rfl⟩
theorem DocAt.below (h : DocAt w m TB u v d side most A len cap) (hb : Below w.heap.size w w') : DocAt w' m TB u v d side most A len cap := h.frame (S := []) (Frame.of_below hb) (fun _ _ => by simp)
theorem DocAt.lt (h : DocAt w m TB u v d side most A len cap) : m < w.heap.size := by
  rcases h with ⟨h1, h2, _⟩ | ⟨h1, un, vn, L, A1, c1, A2, c2, e1, e2, ht, h2, h3, h4, _⟩
  · exact At.lt h2
  · exact At.lt h2
theorem DocAt.lts (h : DocAt w m TB u v d side most A len cap) : ∀ j ∈ TB, j < w.heap.size := by
  rcases h with ⟨h1, h2, rfl⟩ | ⟨h1, un, vn, L, A1, c1, A2, c2, e1, e2, ht, h2, h3, h4, rfl⟩
  · intro j hj
    simp only [List.mem_singleton] at hj
    subst hj
    exact At.lt h2
  · intro j hj
    simp only [List.mem_cons, List.mem_append] at hj
    rcases hj with rfl | hj | hj
    · exact At.lt h2
    · exact Rd.blk_lt h3 (castL_ne ht.pos) j hj
    · exact Rd.blk_lt h4 (castL_ne (by rw [List.length_map]; exact ht.pos)) j hj
theorem DocAt.get (h : DocAt w m TB u v d side most A len cap) (hc : Cs u v d k part rep stand) : ∃ lows reps, BinsAt w m lows reps d side most A len cap ∧ PartOk w m part ∧ StandOk w m stand := by
  rcases h with ⟨h1, h2, _⟩ | ⟨rfl, un, vn, L, A1, c1, A2, c2, rfl, rfl, ht, h2, h3, h4, _⟩
  · rcases hc with ⟨_, _, d4, rfl, _, rfl⟩ | ⟨_, d0, _⟩
    · exact ⟨_, _, h2, partD_ok w m _ _ d side most A len cap h2 h1 d4, standD_ok w m _ _ d side most A len cap h2 h1 d4⟩
    · omega
  · rcases hc with ⟨_, d1, _⟩ | ⟨_, _, un', vn', L', e1, e2, ht', rfl, _, rfl⟩
    · omega
    · obtain rfl : un = un' := by omega
      obtain rfl : vn = vn' := by omega
      obtain rfl : L = L' := Option.some.inj (ht.h.symm.trans ht'.h)
      exact ⟨_, _, h2, partT_ok w m un vn L A2 A1 c1 c2 side most A len cap ht h2 h3, standT_ok w m un vn L A2 A1 c1 c2 side most A len cap ht h2 h3 h4⟩
theorem DocAt.vals (h : DocAt w m TB u v d side most A len cap) (A' : Option Addr) (len' cap' : Nat) : DocAt (w.setCell ⟨m, 5, none⟩ (.slice A' len' cap')) m TB u v d side most A' len' cap' := by
  have hF := Frame.set [m] w m 5 (.slice A' len' cap') (by simp)
  rcases h with ⟨h1, h2, rfl⟩ | ⟨h1, un, vn, L, A1, c1, A2, c2, e1, e2, ht, h2, h3, h4, rfl⟩
  · exact .inl ⟨h1, At.set_any h2 5 _ rfl, rfl⟩
  · refine .inr ⟨h1, un, vn, L, A1, c1, A2, c2, e1, e2, ht, At.set_any h2 5 _ rfl, Frame.rd hF h3 fun g e => ?_, Frame.rd hF h4 fun g e => ?_, rfl⟩
    · have := rdU_ne h2 h3 (castL_ne ht.pos) g e
      simpa using this
    · have := rdU_ne h2 h4 (castL_ne (by rw [List.length_map]; exact ht.pos)) g e
      simpa using this
end
/-- A case's parts are one. -/
theorem Cs.one {u v d : Int} {k k' : Bool} {part part' : Nat → Int} {rep stand rep' stand' : Int → Int} (h : Cs u v d k part rep stand) (h' : Cs u v d k' part' rep' stand') : k = k' ∧ part = part' ∧ rep = rep' ∧ stand = stand' := by
  rcases h with ⟨rfl, h1, h4, rfl, rfl, rfl⟩ | ⟨rfl, hd, un, vn, L, e1, e2, ht, rfl, rfl, rfl⟩
  · rcases h' with ⟨rfl, _, _, rfl, rfl, rfl⟩ | ⟨_, hd, _⟩
    · exact ⟨rfl, rfl, rfl, rfl⟩
    · omega
  · rcases h' with ⟨_, hd', _⟩ | ⟨rfl, _, un', vn', L', e1', e2', ht', rfl, rfl, rfl⟩
    · omega
    · obtain rfl : un = un' := by omega
      obtain rfl : vn = vn' := by omega
      obtain rfl : L = L' := Option.some.inj (ht.h.symm.trans ht'.h)
      exact ⟨rfl, rfl, rfl, rfl⟩
set_option maxRecDepth 100000 in
set_option maxHeartbeats 1000000 in
theorem dnew_yes (u v d side most : Int) (k : Bool) (part : Nat → Int) (rep stand : Int → Int) (w : World) (hc : Cs u v d k part rep stand) :
    Calls Tryz.prog 35 #[.agg #[.int .u64 u, .int .u64 v], .int .i64 d, .int .i64 side, .int .i64 most] w fun e w' => (∃ m, e = .returned (.tuple #[.pointer (some ⟨m, 0, none⟩), .bool true]) ∧ (∃ TB, (∀ j ∈ m :: TB, w.heap.size ≤ j) ∧ DocAt w' m TB u v d side most none 0 0)) ∧ Below w.heap.size w w' := by
  rcases hc with ⟨_, h1, _⟩ | ⟨_, rfl, un, vn, L, rfl, rfl, ht, _⟩
  · have hd0 : (d == 0) = false := beq_eq_false_iff_ne.2 (by omega)
    have hba : Below w.heap.size w ((w.alloc (.cells #[.int .u64 u, .int .u64 v] 24)).alloc (.cells #[.slice none 0 0, .slice none 0 0, .int .i64 d, .int .i64 side, .int .i64 most, .slice none 0 0] 41)) := (by repeat (first | with_reducible assumption | with_reducible exact Below.refl _ _ | with_reducible refine Below.drew ?_ | with_reducible refine Below.drewN ?_ _ | with_reducible refine Below.setCell ?_ (by first | omega | (simp; done) | (simp; omega)) _ | with_reducible refine Below.alloc ?_ (by first | omega | (simp; done) | (simp; omega) | (simp [World.setCell]; omega)) _))
    have am : At ((w.alloc (.cells #[.int .u64 u, .int .u64 v] 24)).alloc (.cells #[.slice none 0 0, .slice none 0 0, .int .i64 d, .int .i64 side, .int .i64 most, .slice none 0 0] 41)) (w.heap.size + 1) #[.slice none 0 0, .slice none 0 0, .int .i64 d, .int .i64 side, .int .i64 most, .slice none 0 0] 41 := At.new' _ _ _ (by simp)
    have HF : Hid ((∃ m, Ending.returned (.tuple #[.pointer (some ⟨w.heap.size + 1, 0, none⟩), .bool true]) = .returned (.tuple #[.pointer (some ⟨m, 0, none⟩), .bool true]) ∧ (∃ TB, (∀ j ∈ m :: TB, w.heap.size ≤ j) ∧ DocAt ((w.alloc (.cells #[.int .u64 u, .int .u64 v] 24)).alloc (.cells #[.slice none 0 0, .slice none 0 0, .int .i64 d, .int .i64 side, .int .i64 most, .slice none 0 0] 41)) m TB u v d side most none 0 0)) ∧ Below w.heap.size w ((w.alloc (.cells #[.int .u64 u, .int .u64 v] 24)).alloc (.cells #[.slice none 0 0, .slice none 0 0, .int .i64 d, .int .i64 side, .int .i64 most, .slice none 0 0] 41))) :=
      ⟨⟨_, rfl, [w.heap.size + 1], fun j hj => by simp at hj; omega, .inl ⟨h1, am, rfl⟩⟩, hba⟩
    clear h1 hba am
    go_enter Tryz.func35, Tryz.ntmps35
    go_wp2
    go_ret2
    exact HF.out
  · have HG := Lib.hid fun W => rgoodC_any un vn W (by omega) (by have := ht.uv; have := ht.v1; omega) (by omega) (by have := ht.v1; omega)
    rw [goodC_iff.2 ⟨by have := ht.u0; omega, by have := ht.uv; omega, by have := ht.v1; omega⟩] at HG
    have HC := Lib.hid fun W => rcells_own un vn W ht.u0 ht.uv ht.v1
    have HT := Lib.hid ht
    have s0 := At.new' w #[.int .u64 un, .int .u64 vn] 24 rfl
    have hba : Below w.heap.size w ((w.alloc (.cells #[.int .u64 un, .int .u64 vn] 24)).alloc (.cells #[.slice none 0 0, .slice none 0 0, .int .i64 0, .int .i64 side, .int .i64 most, .slice none 0 0] 41)) := (by repeat (first | with_reducible assumption | with_reducible exact Below.refl _ _ | with_reducible refine Below.drew ?_ | with_reducible refine Below.drewN ?_ _ | with_reducible refine Below.setCell ?_ (by first | omega | (simp; done) | (simp; omega)) _ | with_reducible refine Below.alloc ?_ (by first | omega | (simp; done) | (simp; omega) | (simp [World.setCell]; omega)) _))
    have am : At ((w.alloc (.cells #[.int .u64 un, .int .u64 vn] 24)).alloc (.cells #[.slice none 0 0, .slice none 0 0, .int .i64 0, .int .i64 side, .int .i64 most, .slice none 0 0] 41)) (w.heap.size + 1) #[.slice none 0 0, .slice none 0 0, .int .i64 0, .int .i64 side, .int .i64 most, .slice none 0 0] 41 := At.new' _ _ _ (by simp)
    have s1 := s0.alloc (.cells #[.slice none 0 0, .slice none 0 0, .int .i64 0, .int .i64 side, .int .i64 most, .slice none 0 0] 41)
    clear ht s0
    go_enter Tryz.func35, Tryz.ntmps35
    go_wp2_with fail
    obtain ⟨W1, hW1⟩ : ∃ W, (w.alloc (.cells #[.int .u64 un, .int .u64 vn] 24)).alloc (.cells #[.slice none 0 0, .slice none 0 0, .int .i64 0, .int .i64 side, .int .i64 most, .slice none 0 0] 41) = W := ⟨_, rfl⟩
    obtain ⟨rb, hrb⟩ : ∃ r, w.heap.size = r := ⟨_, rfl⟩
    obtain ⟨m, hm⟩ : ∃ m, rb + 1 = m := ⟨_, rfl⟩
    have HM : Hid (w.heap.size ≤ m) := by show _ ≤ _; omega
    rw [hW1] at hba am s1
    rw [hrb] at s1 am
    rw [hm] at am
    simp only [hW1, hrb, hm]
    clear hW1 hrb hm
    refine (HG.out W1).mono ?_
    rintro e w2 ⟨rfl, hb⟩
    have HB2 := Lib.hid (keep1 hba hb)
    have s2 := s1.below hb
    have m2 := am.below hb
    have f2 := s2.two
    have l2 := s2.lt
    clear hb hba s1 am HG
    go_wp2_with fail
    refine (HC.out w2).mono ?_
    rintro e w3 ⟨hR, hb⟩
    have HB3 := Lib.hid (keep1 HB2.out hb)
    have m3 := m2.below hb
    unfold RcN at hR
    rw [HT.out.h] at hR
    obtain ⟨A, c, A2, c2, rfl, hr1, hr2, ho1, ho2⟩ := hR
    have HZ : Hid (w.heap.size ≤ w2.heap.size) := HB2.out.size
    clear hb HB2 m2 s2 f2 l2 HC
    obtain ⟨n, hn⟩ : ∃ n, L.length = n := ⟨_, rfl⟩
    have HNL := Lib.hid hn
    have hF : Frame [m] w3 ((w3.setCell ⟨m, 0, none⟩ (.slice A n c)).setCell ⟨m, 1, none⟩ (.slice A2 n c2)) := ((Frame.refl [m] w3).setc (.inl (by simp)) 0 _).setc (.inl (by simp)) 1 _
    have h5 : At ((w3.setCell ⟨m, 0, none⟩ (.slice A n c)).setCell ⟨m, 1, none⟩ (.slice A2 n c2)) m #[.slice A n c, .slice A2 n c2, .int .i64 0, .int .i64 side, .int .i64 most, .slice none 0 0] 41 := (m3.set_any 0 (.slice A n c) rfl).set_any 1 (.slice A2 n c2) rfl
    have HF : Hid ((∃ m', Ending.returned (.tuple #[.pointer (some ⟨m, 0, none⟩), .bool true]) = .returned (.tuple #[.pointer (some ⟨m', 0, none⟩), .bool true]) ∧ (∃ TB, (∀ j ∈ m' :: TB, w.heap.size ≤ j) ∧ DocAt ((w3.setCell ⟨m, 0, none⟩ (.slice A n c)).setCell ⟨m, 1, none⟩ (.slice A2 n c2)) m' TB un vn 0 side most none 0 0)) ∧ Below w.heap.size w ((w3.setCell ⟨m, 0, none⟩ (.slice A n c)).setCell ⟨m, 1, none⟩ (.slice A2 n c2))) := by
      refine ⟨⟨m, rfl, m :: (blk A ++ blk A2), fun j hj => ?_, .inr ⟨rfl, un, vn, L, A, c, A2, c2, rfl, rfl, HT.out, by rw [hn]; exact h5, Frame.rd hF hr1 fun g e => ?_, Frame.rd hF hr2 fun g e => ?_, rfl⟩⟩, (HB3.out.setCell HM.out _).setCell HM.out _⟩
      · have hz := HZ.out
        have hm := HM.out
        simp only [List.mem_cons, List.mem_append] at hj
        rcases hj with rfl | rfl | hj | hj
        · exact hm
        · exact hm
        · cases A with
          | none => simp [blk] at hj
          | some g => simp only [blk, List.mem_singleton] at hj; subst hj; exact Nat.le_trans hz (ho1 g rfl)
        · cases A2 with
          | none => simp [blk] at hj
          | some g => simp only [blk, List.mem_singleton] at hj; subst hj; exact Nat.le_trans hz (ho2 g rfl)
      · have := rdU_ne (A := none) (A' := none) (A'' := none) m3 hr1 (castL_ne HT.out.pos) g e
        simpa using this
      · have := rdU_ne (A := none) (A' := none) (A'' := none) m3 hr2 (castL_ne (by rw [List.length_map]; exact HT.out.pos)) g e
        simpa using this
    have f3 := At.six m3
    have l3 := m3.lt
    rw [hn]
    clear hF h5 hr1 hr2 ho1 ho2 hn m3 HB3
    go_wp2
    go_ret2
    exact HF.out
set_option maxRecDepth 100000 in
set_option maxHeartbeats 1000000 in
theorem dnew_no (u v d side most : Int) (w : World) (hu : 0 ≤ u ∧ u < 18446744073709551616) (hv : 0 ≤ v ∧ v < 18446744073709551616) (hc : CsNo u v d) :
    Calls Tryz.prog 35 #[.agg #[.int .u64 u, .int .u64 v], .int .i64 d, .int .i64 side, .int .i64 most] w fun e w' => e = .returned (.tuple #[.pointer none, .bool false]) ∧ Below w.heap.size w w' := by
  obtain ⟨rfl, hc⟩ := hc
  have s0 := At.new' w #[.int .u64 u, .int .u64 v] 24 rfl
  have hba : Below w.heap.size w ((w.alloc (.cells #[.int .u64 u, .int .u64 v] 24)).alloc (.cells #[.slice none 0 0, .slice none 0 0, .int .i64 0, .int .i64 side, .int .i64 most, .slice none 0 0] 41)) := (by repeat (first | with_reducible assumption | with_reducible exact Below.refl _ _ | with_reducible refine Below.drew ?_ | with_reducible refine Below.drewN ?_ _ | with_reducible refine Below.setCell ?_ (by first | omega | (simp; done) | (simp; omega)) _ | with_reducible refine Below.alloc ?_ (by first | omega | (simp; done) | (simp; omega) | (simp [World.setCell]; omega)) _))
  have s1 := s0.alloc (.cells #[.slice none 0 0, .slice none 0 0, .int .i64 0, .int .i64 side, .int .i64 most, .slice none 0 0] 41)
  have HG := Lib.hid fun W => rgoodC_any u v W hu.1 hu.2 hv.1 hv.2
  rcases hc with hg | ⟨un, vn, rfl, rfl, h1, h2, h3, h4⟩
  · rw [hg] at HG
    clear hg hu hv s0
    go_enter Tryz.func35, Tryz.ntmps35
    go_wp2_with fail
    refine (HG.out _).mono ?_
    rintro e w2 ⟨rfl, hb⟩
    have HB2 := Lib.hid (keep1 hba hb)
    clear hb hba s1 HG
    go_wp2
    go_ret2
    exact ⟨rfl, HB2.out⟩
  · rw [goodC_iff.2 ⟨by omega, by omega, by omega⟩] at HG
    have HC := Lib.hid fun W => rcells_own un vn W h1 h2 h3
    have H4 := Lib.hid h4
    clear h1 h2 h3 h4 hu hv s0
    go_enter Tryz.func35, Tryz.ntmps35
    go_wp2_with fail
    obtain ⟨W1, hW1⟩ : ∃ W, (w.alloc (.cells #[.int .u64 un, .int .u64 vn] 24)).alloc (.cells #[.slice none 0 0, .slice none 0 0, .int .i64 0, .int .i64 side, .int .i64 most, .slice none 0 0] 41) = W := ⟨_, rfl⟩
    obtain ⟨rb, hrb⟩ : ∃ r, w.heap.size = r := ⟨_, rfl⟩
    have HRB := Lib.hid hrb
    rw [hW1] at hba s1
    rw [hrb] at s1
    simp only [hW1, hrb]
    clear hW1 hrb
    refine (HG.out W1).mono ?_
    rintro e w2 ⟨rfl, hb⟩
    have HB2 := Lib.hid (keep1 hba hb)
    have s2 := s1.below hb
    have f2 := s2.two
    have l2 := s2.lt
    clear hb hba s1 HG
    go_wp2_with fail
    refine (HC.out w2).mono ?_
    rintro e w3 ⟨hR, hb⟩
    have HB3 := Lib.hid (keep1 HB2.out hb)
    unfold RcN at hR
    rw [H4.out] at hR
    obtain rfl := hR
    clear hb HB2 s2 f2 l2 HC
    go_wp2
    go_ret2
    exact ⟨rfl, HB3.out⟩
end Go.Proofs.YtondkkhagbcadaaGreat
