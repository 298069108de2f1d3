/- Contracts of package lumps: Load. -/
import Derived.Test.YtbmnebpjjghkpaaProg
import Derived.Test.YtbmnebpjjghkpaaLumpJoin
import Derived.Test.YtbmnebpjjghkpaaUntil
namespace Go.Proofs.Ytbmnebpjjghkpaa
open Go.RowKit

theorem opwp_append_lump {o : Oper} {a : Act} {K : Act → World → Prop} {Q : Exit → Act → World → Prop} {w : World} (s x : Operand)
    (ho : o.op = .call { callee := .builtin .append, args := #[s, x], argTypes := #[23, 23] })
    (base : Nat) (A : Option Addr) (cap n : Nat) (ls : List Lu) (hs : a.eval s = .slice A n cap) (hn : ls.length = n) (hown : Own3 base w A cap ls)
    (ad : Addr) (c : Nat) (p : Lu) (hx : a.eval x = .slice (some ad) 1 c) (h0 : w.cell? (ad.add 0) = some (.int .u64 p.1)) (h1 : w.cell? (ad.add 1) = some (.int .i64 p.2.1)) (h2 : w.cell? (ad.add 2) = some (.int .i64 p.2.2))
    (hlen : n ≤ 1099511627775) (hbase : base ≤ w.heap.size)
    (h : ∀ A' cap' w', Hid (Own3 base w' A' cap' (ls ++ [p])) → Hid (w.grownBy w' (Value.slice A n cap).ownBlock) → K (a.put o.dst (.slice A' (n + 1) cap')) w') :
    Oper.wp Try.prog o a w K Q := by
  subst hn
  obtain ⟨i, hi, hz, hsz, hby⟩ := Try.infoLump
  have hnews : ∀ j u, (flatL [p])[j]? = some u → w.cell? (ad.add j) = some u := by
    intro j u hj
    match j, hj with
    | 0, hj => simp [flatL] at hj; subst hj; exact h0
    | 1, hj => simp [flatL] at hj; subst hj; exact h1
    | 2, hj => simp [flatL] at hj; subst hj; exact h2
  obtain ⟨v', w', hr, hown', hg, _, hblk⟩ := run_append_own_at (P := Try.prog) w base 23 o.type _ i _ 3 24 Try.underlyingRow hi hz hsz hby rfl (by decide) _ ls.length (flatL ls) hown ad 1 c (flatL [p]) (flatL_len _) hnews
    flatL_one' (by simp only [maxLen]; omega) (by omega) hbase
  unfold Oper.wp execOp
  simp only [ho, resolve, invoke, builtin, Sem.run_bind, Sem.run_pure, Result.andThen_ok, List.map_toArray, List.map_cons, List.map_nil, hs, hx, hr]
  have hl : (ls ++ [p]).length = ls.length + 1 := by simp
  rw [← flatL_append] at hown'
  rcases hown'.2 with ⟨e, hn⟩ | ⟨g, cp, cur, rfl, r⟩
  · omega
  · exact h _ _ _ (by show Own3 _ _ _ _ _; unfold Own3; rw [hl]; exact hown') hg

/-- Can it be loaded? -/
structure OkK (most : Int) (rs : List Lu) : Prop where
  gd : GdL rs
  sm : sumN rs ≤ 9223372036854775807
  ln : (rs.length : Int) ≤ most
theorem gdL_snoc {ls : List Lu} (k : Nat) (hk : k < ls.length) (h : GdL (ls.take k)) (h1 : 0 < (ls[k]'hk).1) (h2 : (ls[k]'hk).2.1 ≤ (ls[k]'hk).2.2) (h3 : k = 0 ∨ lless (ls[k - 1]'(by omega)) (ls[k]'hk)) : GdL (ls.take (k + 1)) := by
  rw [List.take_succ_eq_append_getElem hk]
  refine ⟨?_, fun x hx => ?_, fun x hx => ?_⟩
  · refine List.pairwise_append.2 ⟨h.srt, by simp, fun x hx y hy => ?_⟩
    rw [List.mem_singleton] at hy
    subst hy
    obtain ⟨i, hi, rfl⟩ := List.getElem_of_mem hx
    rw [List.length_take] at hi
    rw [List.getElem_take]
    rcases h3 with h3 | h3
    · omega
    · rcases Nat.lt_or_ge i (k - 1) with hlt | hge
      · have := List.pairwise_iff_getElem.1 h.srt i (k - 1) (by rw [List.length_take]; omega) (by rw [List.length_take]; omega) hlt
        rw [List.getElem_take, List.getElem_take] at this
        exact lless_trans this h3
      · have : i = k - 1 := by omega
        subst this; exact h3
  · rcases List.mem_append.1 hx with hx | hx
    · exact h.pos x hx
    · rw [List.mem_singleton] at hx; subst hx; exact h1
  · rcases List.mem_append.1 hx with hx | hx
    · exact h.rng x hx
    · rw [List.mem_singleton] at hx; subst hx; exact h2
theorem gdL_next {ls : List Lu} (h : GdL ls) (k : Nat) (hk : k < ls.length) (h0 : k ≠ 0) : lless (ls[k - 1]'(by omega)) (ls[k]'hk) := List.pairwise_iff_getElem.1 h.srt (k - 1) k (by omega) hk (by omega)

/-- What Load answers. -/
def LoadK (most : Int) (rs : List Lu) (w : World) (e : Ending) (w' : World) : Prop :=
  (OkK most rs ∧ ∃ b S, e = .returned (.tuple #[.pointer (some ⟨b, 0, none⟩), .int .i64 0]) ∧ Sk w' b S most rs ∧ Within S w.heap.size w'.heap.size) ∨ (¬ OkK most rs ∧ e = .returned (.tuple #[.pointer none, .int .i64 1]))
theorem LoadK.bad {most : Int} {rs : List Lu} {w w' : World} (h : ¬ OkK most rs) : LoadK most rs w (.returned (.tuple #[.pointer none, .int .i64 1])) w' := .inr ⟨h, rfl⟩

/-- A sketch that is being loaded. -/
structure LdT (w0 W : World) (b : Nat) (most : Int) (fa : Value) (tot : Int) (A : Option Addr) (c : Nat) (ks : List Lu) : Prop where
  tab : At W b #[.int .i64 most, fa, .int .u64 tot] 75
  own : Own3 (b + 1) W A c ks
  below : Below w0.heap.size w0 W
  le : w0.heap.size ≤ b
theorem own3_ne {W : World} {base n c : Nat} {A : Option Addr} {xs : List Lu} (h : Own3 base W A c xs) {k : Nat} (hk : k < base) : some k ≠ (Value.slice A n c).ownBlock := by
  intro e
  cases A with
  | none => simp [Value.ownBlock] at e
  | some g => simp only [Value.ownBlock, Option.some.injEq] at e; have := (h.base_le g rfl).1; omega
theorem Own3.setlow {W : World} {base k i c : Nat} {A : Option Addr} {xs : List Lu} (h : Own3 base W A c xs) (hk : k < base) (x : Value) : Own3 base (W.setCell ⟨k, i, none⟩ x) A c xs := by
  obtain ⟨h1, h2⟩ := h
  refine ⟨h1, ?_⟩
  rcases h2 with h2 | ⟨g, cp, cur, e, hg, hc, r⟩
  · exact .inl h2
  · exact .inr ⟨g, cp, cur, e, hg, (Below.heap_setCell W ⟨k, i, none⟩ x g (by show g ≠ k; omega)).trans hc, r⟩
theorem At.app {W W' : World} {A : Option Addr} {n c k : Nat} {cs : Array Value} {T : TypeId} (h : At W k cs T) (hg : W.grownBy W' (Value.slice A n c).ownBlock) (hn : some k ≠ (Value.slice A n c).ownBlock) : At W' k cs T := (hg.block k h.lt hn).trans h
section
variable {w0 W W' : World} {b : Nat} {most tot : Int} {fa : Value} {A : Option Addr} {c : Nat} {ks : List Lu}
theorem LdT.belowW (h : LdT w0 W b most fa tot A c ks) (hb : Below W.heap.size W W') : LdT w0 W' b most fa tot A c ks :=
  ⟨h.tab.below hb, h.own.below hb, h.below.trans (hb.mono h.below.size), h.le⟩
theorem LdT.alloc (h : LdT w0 W b most fa tot A c ks) (o : Obj) : LdT w0 (W.alloc o) b most fa tot A c ks := h.belowW ((Below.refl _ _).alloc (Nat.le_refl _) o)
theorem LdT.drew (h : LdT w0 W b most fa tot A c ks) : LdT w0 W.drew b most fa tot A c ks := h.belowW (Below.refl _ _).drew
theorem LdT.base (h : LdT w0 W b most fa tot A c ks) : b + 1 ≤ W.heap.size := h.tab.lt
theorem LdT.app {n : Nat} {A' : Option Addr} {c' : Nat} {ks' : List Lu} (h : LdT w0 W b most fa tot A c ks) (ho : Own3 (b + 1) W' A' c' ks') (hg : W.grownBy W' (Value.slice A n c).ownBlock) : LdT w0 W' b most fa tot A' c' ks' :=
  ⟨h.tab.app hg (own3_ne h.own (by omega)), ho, h.below.grown hg h.below.size (fun k hk => by
    cases A with
    | none => simp [Value.ownBlock] at hk
    | some g => simp only [Value.ownBlock, Option.some.injEq] at hk; have := (h.own.base_le g rfl).1; have := h.le; omega), h.le⟩
theorem LdT.set1 (h : LdT w0 W b most fa tot A c ks) (x : Value) : LdT w0 (W.setCell ⟨b, 1, none⟩ x) b most x tot A c ks :=
  ⟨h.tab.set_any 1 x rfl, h.own.setlow (by omega) x, h.below.setCell (p := ⟨b, 1, none⟩) h.le x, h.le⟩
theorem LdT.set2 (h : LdT w0 W b most fa tot A c ks) (x : Int) : LdT w0 (W.setCell ⟨b, 2, none⟩ (.int .u64 x)) b most fa x A c ks :=
  ⟨h.tab.set_any 2 _ rfl, h.own.setlow (by omega) _, h.below.setCell (p := ⟨b, 2, none⟩) h.le _, h.le⟩
theorem LdT.sk {rs : List Lu} {n : Nat} (h : LdT w0 W b most (.slice A n c) (sumN rs) A c rs) (hn : rs.length = n) (hg : GdL rs) (hok : okL rs) (hs : sumN rs ≤ 9223372036854775807) : Sk W b (b :: blk A) most rs ∧ Within (b :: blk A) w0.heap.size W.heap.size := by
  subst hn
  have hb : ∀ k ∈ blk A, b + 1 ≤ k ∧ k < W.heap.size := fun k hk => by
    cases A with
    | none => simp [blk] at hk
    | some g => simp only [blk, List.mem_singleton] at hk; subst hk; exact h.own.base_le g rfl
  refine ⟨⟨⟨A, c, rfl, h.tab, h.own.mono (Nat.zero_le _), fun hk => by have := hb b hk; omega⟩, hg, hok, hs⟩, fun k hk => ?_⟩
  rcases List.mem_cons.1 hk with rfl | hk
  · have := h.le; have := h.base; omega
  · have := hb k hk; have := h.le; omega
end
theorem kload_most (A : Option Addr) (len cap : Nat) (most : Int) (w : World) (h : most < 2 ∨ 64 < most) :
    Calls Try.prog 11 #[.int .i64 most, .slice A len cap] w fun e w' => e = .returned (.tuple #[.pointer none, .int .i64 1]) ∧ w = w' := by
  have HN := Lib.hid (knew_bad most w h)
  clear h
  go_enter Try.func11, Try.ntmps11
  go_wp2_with fail
  refine HN.out.mono ?_
  rintro e w1 ⟨rfl, rfl⟩
  go_wp2
  go_ret2
  exact ⟨rfl, rfl⟩
def SkAt (b : Nat) (most tot : Int) (fa : Value) (lB : Nat) (x : Lu) (W : World) : Prop := At W b #[.int .i64 most, fa, .int .u64 tot] 75 ∧ At W lB #[.int .u64 x.1, .int .i64 x.2.1, .int .i64 x.2.2] 71
set_option maxRecDepth 100000 in
set_option maxHeartbeats 4000000 in
theorem kload_any (A : Option Addr) (len cap : Nat) (rs : List Lu) (most : Int) (w : World) (h1 : 2 ≤ most) (h2 : most ≤ 64) (hl : rs.length = len) (hm : len ≤ 1048576) (hR : RdL w A rs) (hok : okL rs) :
    Calls Try.prog 11 #[.int .i64 most, .slice A len cap] w fun e w' => LoadK most rs w e w' ∧ Below w.heap.size w w' := by
  have HR := Lib.hid hR
  have HO := Lib.hid hok
  have HN := Lib.hid (knew_any most w h1 h2)
  have HLN := Lib.hid hl
  clear hR hok h1 h2 hl
  go_enter Try.func11, Try.ntmps11
  go_wp2_with fail
  refine HN.out.mono ?_
  rintro e w1 ⟨⟨b, rfl, hbw, hSk⟩, hb1⟩
  have HT : Hid (LdT w w1 b most (.slice none 0 0) 0 none 0 []) := by
    obtain ⟨A0, c0, hS, hB⟩ := hSk.r
    have hA : A0 = none := by
      cases A0 with
      | none => rfl
      | some g => simp [blk] at hS
    subst hA
    have hc : c0 = 0 := by
      rcases hB.own.2 with ⟨e, _⟩ | ⟨g, _, _, e, _⟩
      · simpa using e
      · cases e
    subst hc
    exact ⟨hB.at', Own3.nil _ _, hb1, by omega⟩
  clear hSk hb1 hbw HN
  go_wp2
  go_loopw [8, 9, 10, 11, 22] (fun _ _ _ _ i wr => ∃ k : Nat, ∃ A' c' tot, k ≤ len ∧ i = .int .i64 k ∧ 0 ≤ tot ∧ tot ≤ 9223372036854775807 ∧ Hid (LdT w wr b most (.slice A' k c') tot A' c' (rs.take k) ∧ GdL (rs.take k) ∧ tot = sumN (rs.take k))) (fun _ _ _ _ i _ => len - (intOf i).toNat)
  case atStart => exact ⟨0, none, 0, 0, by omega, rfl, by omega, by omega, HT.out, GdL.nil, rfl⟩
  case round =>
    obtain ⟨k, A', c', tot, hk, rfl, ht0, ht1, H⟩ := hrel
    clear HT
    by_cases hlt : k < len
    · have HRw := Lib.hid (HR.out.below H.out.1.below)
      obtain ⟨g, o, rfl, hg, d1, d2, d3⟩ := HRw.out.at k (by have := HLN.out; omega)
      have HX := Lib.hid (HO.out _ (List.getElem_mem (show k < rs.length by have := HLN.out; omega)))
      have HS2 := Lib.hid (sumN_take rs k (by have := HLN.out; omega))
      have HGS := Lib.hid (gdL_snoc k (show k < rs.length by have := HLN.out; omega) H.out.2.1)
      have HNX := Lib.hid (fun (h : GdL rs) h0 => gdL_next h k (show k < rs.length by have := HLN.out; omega) h0)
      have HPO := Lib.hid (fun (h : GdL rs) => And.intro (h.pos _ (List.getElem_mem (show k < rs.length by have := HLN.out; omega))) (h.rng _ (List.getElem_mem (show k < rs.length by have := HLN.out; omega))))
      have HTL := Lib.hid (fun (h : GdL rs) => sumN_take_le h (k + 1))
      have HTK : Hid (rs.take (k + 1) = rs.take k ++ [rs[k]'(by have := HLN.out; omega)]) := List.take_succ_eq_append_getElem _
      obtain ⟨⟨x, y, z⟩, hx⟩ : ∃ x, rs[k]'(by have := HLN.out; omega) = x := ⟨_, rfl⟩
      rw [hx] at d1 d2 d3 HX HS2 HGS HNX HPO HTK
      clear hx
      dsimp only at d1 d2 d3 HX HS2 HGS HPO
      have fT := H.out.1.tab.three
      have zT := H.out.1.base
      go_wp2
      have hba : Below wr.heap.size wr (wr.alloc (.cells #[.int .u64 x, .int .i64 y, .int .i64 z] 71)) := (Below.refl _ _).alloc (Nat.le_refl _) _
      have HT := Lib.hid ((H.out.1.belowW hba).drew)
      have aL := (At.new wr #[.int .u64 x, .int .i64 y, .int .i64 z] 71).drew
      have HR2 := Lib.hid (((HRw.out.below hba)).below (Below.refl _ _).drew)
      obtain ⟨lB, hlB⟩ : ∃ l, wr.heap.size = l := ⟨_, rfl⟩
      have hlB2 : b + 1 ≤ lB := by omega
      have hlB3 : w.heap.size ≤ lB := by have := H.out.1.below.size; omega
      simp only [hlB] at aL ⊢
      have HNE : Hid (some lB ≠ (Value.slice A' k c').ownBlock) := by
        intro e
        cases A' with
        | none => simp [Value.ownBlock] at e
        | some g => simp only [Value.ownBlock, Option.some.injEq] at e; have := (H.out.1.own.base_le g rfl).2; omega
      have HGT := Lib.hid H.out.2.1
      have HSM := Lib.hid H.out.2.2
      obtain ⟨W1, hW1⟩ : ∃ W1, (wr.alloc (.cells #[.int .u64 x, .int .i64 y, .int .i64 z] 71)).drew = W1 := ⟨_, rfl⟩
      simp only [hW1] at HT aL HR2
      haveI : Nonempty (Held (SkAt b most tot (.slice A' k c') lB (x, y, z))) := ⟨⟨W1, HT.out.tab, aL⟩⟩
      have hfar1 := fun z : Held (SkAt b most tot (.slice A' k c') lB (x, y, z)) => z.held.1.three
      have hfar2 := fun z : Held (SkAt b most tot (.slice A' k c') lB (x, y, z)) => z.held.2.three
      refine wp_region_noPanic ?_
      refine wp_region_held_drew (S := HeldS (SkAt b most tot (.slice A' k c') lB (x, y, z))) (by kernel_rfl) (HeldS.mk' (hW1 ▸ ⟨HT.out.tab, aL⟩)) (fun hHeld => ?_)
      rw [hW1] at hHeld ⊢
      clear hW1 hba H HRw d1 d2 d3 fT zT hlB
      refine wpAnyH_run0 [true, true, true, true, true, true] 7 (by kernel_rfl) (by kernel_rfl) (fun _ _ _ _ h => h) (by kernel_rfl) hHeld ?_
      simp only [runOps_true, runOps_false, runOps_nil]
      repeat (first | go_big_quiet_skip | (go_big_quiet_want; go_big_quiet_op; go_big_quiet_on))
      refine wpQuiet_nil ?_
      clear hfar1 hfar2
      have hbV : Below W1.heap.size W1 (W1.alloc (.cells #[.int .u64 tot, .int .u64 x] 39)) := (Below.refl _ _).alloc (Nat.le_refl _) _
      have aV := At.new W1 #[.int .u64 tot, .int .u64 x] 39
      have HT2 := Lib.hid (HT.out.belowW hbV)
      replace HR2 := Lib.hid (HR2.out.below hbV)
      replace aL := aL.below hbV
      refine wpAnyH_ready (rs := [6]) (by kernel_rfl) (by simp) ?_
      refine AllReadyH.cons rfl (fun K hK => ?_) (AllReadyH.nil)
      go_simp
      refine hK.out _ _ (HeldS.mk' ⟨HT2.out.tab, aL⟩) (fun hHeld => ?_)
      clear hK K
      refine wpAnyH_ready (rs := [7]) (by kernel_rfl) (by simp) ?_
      refine AllReadyH.cons rfl (fun K hK => ?_) AllReadyH.nil
      go_simp
      go_wp2_with (go_at_call 32; refine (plus2_any W1.heap.size tot x _ ht0 (by omega) HX.out.1.1 HX.out.1.2 (aV.cell rfl) (aV.cell rfl)).mono ?_; rintro e w2 ⟨rfl, rfl⟩)
      refine hK.out _ _ ?_ (fun hHeld => ?_)
      clear hK K
      · exact HeldS.mk' ⟨HT2.out.tab, aL⟩
      refine wpAnyH_run0 [false, false, false, false, false, false, false, false, true, true, true, true, true] 0 (by kernel_rfl) (by kernel_rfl) (fun _ _ _ _ h => h) (by kernel_rfl) hHeld ?_
      simp only [runOps_true, runOps_false, runOps_nil]
      repeat (first | go_big_quiet_skip | (go_big_quiet_want; go_big_quiet_op; go_big_quiet_on))
      refine wpQuiet_nil ?_
      refine wpAnyH_done (by kernel_rfl) ?_ _
      replace HT := HT2
      clear HT2
      obtain ⟨W2, hW2⟩ : ∃ W2, W1.alloc (.cells #[.int .u64 tot, .int .u64 x] 39) = W2 := ⟨_, rfl⟩
      rw [hW2] at HT aL HR2 ⊢
      refine NoPanic.normal ?_
      clear hW2 hbV aV
      have HB2 := Lib.hid HT.out.below
      by_cases hp : tot + x ≤ 9223372036854775807
      · obtain ⟨p1, p2⟩ := plus2_yes (a := tot) (b := x) hp
        rw [p1, p2]
        clear p1 p2
        have HPP := Lib.hid hp
        clear hp
        by_cases hx0 : x = 0
        · have HBAD : Hid (¬ OkK most rs) := fun k' => by have h1 : 0 < x := (HPO.out k'.gd).1; omega
          subst hx0
          have l3 := aL.three
          go_wp2
          have hfar1 := fun x : Far W2 => (x.at aL).three
          refine wp_region_far (by kernel_rfl) (by kernel_rfl) ?_
          repeat (first | go_big_quiet_skip | (go_big_quiet_want; go_big_quiet_op; first | go_big_quiet_on | (apply Exists.intro; refine ⟨fun _ => ?_, ?_⟩; (focus (first | fail)); go_big_quiet_on)))
          refine wpQuiet_nil ?_
          rintro _ ⟨xq, rfl⟩
          clear hfar1
          go_wp2
          go_ret2
          exact ⟨LoadK.bad HBAD.out, keep1 HB2.out xq.below⟩
        · have x0 : (x == 0) = false := beq_eq_false_iff_ne.2 hx0
          have HX0 := Lib.hid hx0
          clear hx0
          by_cases hyz : z < y
          · have HBAD : Hid (¬ OkK most rs) := fun k' => by have h1 : y ≤ z := (HPO.out k'.gd).2; omega
            have l3 := aL.three
            go_wp2
            have hfar1 := fun x : Far W2 => (x.at aL).three
            refine wp_region_far (by kernel_rfl) (by kernel_rfl) ?_
            repeat (first | go_big_quiet_skip | (go_big_quiet_want; go_big_quiet_op; first | go_big_quiet_on | (apply Exists.intro; refine ⟨fun _ => ?_, ?_⟩; (focus (first | fail)); go_big_quiet_on)))
            refine wpQuiet_nil ?_
            rintro _ ⟨xq, rfl⟩
            clear hfar1
            go_wp2
            go_ret2
            exact ⟨LoadK.bad HBAD.out, keep1 HB2.out xq.below⟩
          · have hyd : decide (z < y) = false := decide_eq_false hyz
            by_cases hk0 : k = 0
            · have l3 := aL.three
              have k2 : decide (0 < k) = false := decide_eq_false (by omega)
              have HK0 := Lib.hid hk0
              clear hk0
              go_wp2
              have hfar1 := fun x : Far W2 => (x.at aL).three
              refine wp_region_far (by kernel_rfl) (by kernel_rfl) ?_
              repeat (first | go_big_quiet_skip | (go_big_quiet_want; go_big_quiet_op; first | go_big_quiet_on | (apply Exists.intro; refine ⟨fun _ => ?_, ?_⟩; (focus (first | fail)); go_big_quiet_on)))
              refine wpQuiet_nil ?_
              rintro _ ⟨xq, rfl⟩
              clear hfar1
              go_wp2
              have HF := Lib.hid xq.below
              obtain ⟨W3, hW3⟩ : ∃ W3, xq.far = W3 := ⟨_, rfl⟩
              rw [hW3] at HF ⊢
              replace HT := Lib.hid ((HT.out.belowW HF.out).drew)
              replace aL := (aL.below HF.out).drew
              obtain ⟨W4, hW4⟩ : ∃ W4, W3.drew = W4 := ⟨_, rfl⟩
              have HK : Hid (GdL (rs.take (k + 1))) := HGS.out (by have := HX.out.1.1; have := HX0.out; omega) (by omega) (.inl HK0.out)
              clear hW3
              go_wp2
              refine wp_region_noPanic ?_
              refine wp_region_until (S := HeldS (SkAt b most tot (.slice A' k c') lB (x, y, z))) 12 (by kernel_rfl) ?_
              rw [hW4] at HT aL ⊢
              have hHeld : HeldS (SkAt b most tot (.slice A' k c') lB (x, y, z)) W4 := HeldS.mk' ⟨HT.out.tab, aL⟩
              have hne : Nonempty (Held (SkAt b most tot (.slice A' k c') lB (x, y, z))) := ⟨⟨W4, HT.out.tab, aL⟩⟩
              have hneF : Nonempty (Held fun _ => True) := ⟨⟨W4, trivial⟩⟩
              clear hW4
              refine wpAnyU_run0F [true, true, true, true, true, false, false, false, false, true] 10 (by kernel_rfl) (by kernel_rfl) (fun _ _ _ _ h => h) (by kernel_rfl) hHeld ?_
              simp only [runOps_true, runOps_false, runOps_nil]
              repeat (first | go_big_quiet_skip | (go_big_quiet_want; go_big_quiet_op; go_big_quiet_on))
              refine wpQuiet_nil ?_
              have hfar1 := fun z : Held (SkAt b most tot (.slice A' k c') lB (x, y, z)) => z.held.1.three
              have hfar2 := fun z : Held (SkAt b most tot (.slice A' k c') lB (x, y, z)) => z.held.2.three
              refine wpAnyU_run0 [false, false, false, false, false, true, true] 8 (by kernel_rfl) (by kernel_rfl) (fun _ _ _ _ h => h) (by kernel_rfl) hHeld ?_
              simp only [runOps_true, runOps_false, runOps_nil]
              repeat (first | go_big_quiet_skip | (go_big_quiet_want; go_big_quiet_op; go_big_quiet_on))
              refine wpQuiet_nil ?_
              clear hfar1 hfar2 hne hneF
              have HRD := Lib.hid (HR2.out.below (HF.out.drew))
              refine wpAnyU_ready (rs := [7]) (by kernel_rfl) (by simp) ?_
              refine AllReadyU.cons rfl (fun K hK => ?_) (AllReadyU.nil)
              go_simp
              go_wp2
              have hba : Below W4.heap.size W4 (W4.alloc (.cells #[.int .u64 x, .int .i64 y, .int .i64 z] 71)) := (Below.refl _ _).alloc (Nat.le_refl _) _
              have HT2 := Lib.hid (HT.out.belowW hba)
              have aL2 := aL.below hba
              have aN := At.new W4 #[.int .u64 x, .int .i64 y, .int .i64 z] 71
              refine hK.out _ _ (fun _ => HeldS.mk' ⟨HT2.out.tab, aL2⟩) ?_
              clear hK K HT aL
              obtain ⟨nB, hnB⟩ : ∃ e, W4.heap.size = e := ⟨_, rfl⟩
              generalize W4.alloc (.cells #[.int .u64 x, .int .i64 y, .int .i64 z] 71) = W5 at HT2 aL2 aN ⊢
              simp only [hnB] at aN ⊢
              clear hnB hba
              have hbs := HT2.out.base
              refine wpAnyU_ready (rs := [8]) (by kernel_rfl) (by simp) ?_
              refine AllReadyU.cons rfl (fun K hK => ?_) (AllReadyU.nil)
              refine ite_of rfl ?_
              refine opwp_append_lump _ _ rfl (b + 1) A' c' k (rs.take k) rfl (by rw [List.length_take]; have := HLN.out; omega) HT2.out.own ⟨nB, 0, none⟩ 1 (x, y, z) rfl (by rw [Addr.add_lit]; exact aN.cell rfl) (by rw [Addr.add_lit]; exact aN.cell rfl) (by rw [Addr.add_lit]; exact aN.cell rfl) (by omega) hbs ?_
              intro A1 c1 W6 HO1 HG
              simp only [Act.put, List.setIfInBounds_toArray, List.set_cons_zero, List.set_cons_succ]
              have aL3 : At W6 lB #[.int .u64 x, .int .i64 y, .int .i64 z] 71 := aL2.app HG.out HNE.out
              have HT3 := Lib.hid (HT2.out.app HO1.out HG.out)
              refine hK.out _ _ (fun _ => HeldS.mk' ⟨HT3.out.tab, aL3⟩) ?_
              clear hK K HO1 HG HT2 aL2 aN
              refine wpAnyU_ready (rs := [10]) (by kernel_rfl) (by simp) ?_
              refine AllReadyU.cons rfl (fun K hK => ?_) (AllReadyU.nil)
              go_simp
              go_wp2
              refine hK.out _ _ (fun _ => HeldS.mk' ⟨HT3.out.tab, aL3⟩) ?_
              clear hK K
              refine wpAnyU_ready (rs := [11]) (by kernel_rfl) (by simp) ?_
              refine AllReadyU.cons rfl (fun K hK => ?_) (AllReadyU.nil)
              go_simp
              go_wp2
              refine hK.out _ _ (fun _ => HeldS.mk' ⟨HT3.out.tab, aL3⟩) ?_
              clear hK K
              refine wpAnyU_ready (rs := [12]) (by kernel_rfl) (by simp) ?_
              refine AllReadyU.cons rfl (fun K hK => ?_) (AllReadyU.nil)
              have fT := HT3.out.tab.three
              go_simp
              go_wp2
              refine hK.out _ _ (fun h => late_no h (by kernel_rfl)) ?_
              clear hK K fT
              replace HT := Lib.hid (HT3.out.set1 (.slice A1 (k + 1) c1))
              refine wpAnyU_ready (rs := [13]) (by kernel_rfl) (by simp) ?_
              refine AllReadyU.cons rfl (fun K hK => ?_) (AllReadyU.nil)
              go_simp
              go_wp2
              refine hK.out _ _ (fun h => late_no h (by kernel_rfl)) ?_
              clear hK K
              refine wpAnyU_ready (rs := [14]) (by kernel_rfl) (by simp) ?_
              refine AllReadyU.cons rfl (fun K hK => ?_) (AllReadyU.nil)
              go_simp
              go_wp2
              refine hK.out _ _ (fun h => late_no h (by kernel_rfl)) ?_
              clear hK K
              refine wpAnyU_ready (rs := [15]) (by kernel_rfl) (by simp) ?_
              refine AllReadyU.cons rfl (fun K hK => ?_) (AllReadyU.nil)
              have fT := HT.out.tab.three
              go_simp
              go_wp2
              refine hK.out _ _ (fun h => late_no h (by kernel_rfl)) ?_
              clear hK K fT
              replace HT := Lib.hid (HT.out.set2 (tot + x))
              rw [← HTK.out] at HT
              refine wpAnyU_done (by kernel_rfl) ?_ _
              refine NoPanic.normal ?_
              go_wp2
              go_roundw
              case rel => exact ⟨k + 1, A1, c1, tot + x, by omega, by go_num, by have := HX.out.1.1; omega, HPP.out, HT.out, HK.out, by have := HS2.out; have := HSM.out; omega⟩
              case measure => simp [intOf]; omega
            · have hk1 : 0 < k := by omega
              obtain ⟨g', o', e, hg', e1, e2, e3⟩ := HR2.out.at (k - 1) (by have := HLN.out; omega)
              cases e
              have HC := Lib.hid fun w' => order_any (rs[k - 1]'(by have := HLN.out; omega)).1 (rs[k - 1]'(by have := HLN.out; omega)).2.1 (rs[k - 1]'(by have := HLN.out; omega)).2.2 x y z w'
              have HNX2 := Lib.hid fun h => HNX.out h (by omega)
              obtain ⟨⟨p1, p2, p3⟩, hpv⟩ : ∃ z, rs[k - 1]'(by have := HLN.out; omega) = z := ⟨_, rfl⟩
              rw [hpv] at e1 e2 e3 HC HNX2
              have HPV := Lib.hid hpv
              dsimp only at e1 e2 e3 HC
              clear hpv
              have hsub : ((k : Int) - 1) = ((k - 1 : Nat) : Int) := by omega
              have l3 := aL.three
              have k2 : decide (0 < k) = true := decide_eq_true hk1
              have q1 := fun x : Far W2 => x.cell hg' e1
              have q2 := fun x : Far W2 => x.cell hg' e2
              have q3 := fun x : Far W2 => x.cell hg' e3
              clear e1 e2 e3
              by_cases hle : lless (p1, p2, p3) (x, y, z)
              · have HLS : Hid (lless (rs[k - 1]'(by have := HLN.out; omega)) (x, y, z)) := by rw [HPV.out]; exact hle
                have o1 := ordV_neg.2 hle
                obtain ⟨ov, hov⟩ : ∃ v, ordV (p1, p2, p3) (x, y, z) = v := ⟨_, rfl⟩
                rw [hov] at o1 HC
                have o2 : decide (0 ≤ ov) = false := decide_eq_false (by omega)
                clear hle hov HNX2
                go_wp2
                have hfar1 := fun x : Far W2 => (x.at aL).three
                refine wp_region_far (by kernel_rfl) (by kernel_rfl) ?_
                repeat (first | go_big_quiet_skip | (go_big_quiet_want; go_big_quiet_op; first | go_big_quiet_on | (apply Exists.intro; refine ⟨fun _ => ?_, ?_⟩; (focus (first | (go_at_call 33; exact far_of (HC.out _)))); go_big_quiet_on)))
                refine wpQuiet_nil ?_
                rintro _ ⟨xq, rfl⟩
                clear hfar1
                clear q1 q2 q3
                go_wp2
                have HF := Lib.hid xq.below
                obtain ⟨W3, hW3⟩ : ∃ W3, xq.far = W3 := ⟨_, rfl⟩
                rw [hW3] at HF ⊢
                replace HT := Lib.hid ((HT.out.belowW HF.out).drew)
                replace aL := (aL.below HF.out).drew
                obtain ⟨W4, hW4⟩ : ∃ W4, W3.drew = W4 := ⟨_, rfl⟩
                have HK : Hid (GdL (rs.take (k + 1))) := HGS.out (by have := HX.out.1.1; have := HX0.out; omega) (by omega) (.inr HLS.out)
                clear hW3
                go_wp2
                refine wp_region_noPanic ?_
                refine wp_region_until (S := HeldS (SkAt b most tot (.slice A' k c') lB (x, y, z))) 12 (by kernel_rfl) ?_
                rw [hW4] at HT aL ⊢
                have hHeld : HeldS (SkAt b most tot (.slice A' k c') lB (x, y, z)) W4 := HeldS.mk' ⟨HT.out.tab, aL⟩
                have hne : Nonempty (Held (SkAt b most tot (.slice A' k c') lB (x, y, z))) := ⟨⟨W4, HT.out.tab, aL⟩⟩
                have hneF : Nonempty (Held fun _ => True) := ⟨⟨W4, trivial⟩⟩
                clear hW4
                refine wpAnyU_run0F [true, true, true, true, true, false, false, false, false, true] 10 (by kernel_rfl) (by kernel_rfl) (fun _ _ _ _ h => h) (by kernel_rfl) hHeld ?_
                simp only [runOps_true, runOps_false, runOps_nil]
                repeat (first | go_big_quiet_skip | (go_big_quiet_want; go_big_quiet_op; go_big_quiet_on))
                refine wpQuiet_nil ?_
                have hfar1 := fun z : Held (SkAt b most tot (.slice A' k c') lB (x, y, z)) => z.held.1.three
                have hfar2 := fun z : Held (SkAt b most tot (.slice A' k c') lB (x, y, z)) => z.held.2.three
                refine wpAnyU_run0 [false, false, false, false, false, true, true] 8 (by kernel_rfl) (by kernel_rfl) (fun _ _ _ _ h => h) (by kernel_rfl) hHeld ?_
                simp only [runOps_true, runOps_false, runOps_nil]
                repeat (first | go_big_quiet_skip | (go_big_quiet_want; go_big_quiet_op; go_big_quiet_on))
                refine wpQuiet_nil ?_
                clear hfar1 hfar2 hne hneF
                have HRD := Lib.hid (HR2.out.below (HF.out.drew))
                refine wpAnyU_ready (rs := [7]) (by kernel_rfl) (by simp) ?_
                refine AllReadyU.cons rfl (fun K hK => ?_) (AllReadyU.nil)
                go_simp
                go_wp2
                have hba : Below W4.heap.size W4 (W4.alloc (.cells #[.int .u64 x, .int .i64 y, .int .i64 z] 71)) := (Below.refl _ _).alloc (Nat.le_refl _) _
                have HT2 := Lib.hid (HT.out.belowW hba)
                have aL2 := aL.below hba
                have aN := At.new W4 #[.int .u64 x, .int .i64 y, .int .i64 z] 71
                refine hK.out _ _ (fun _ => HeldS.mk' ⟨HT2.out.tab, aL2⟩) ?_
                clear hK K HT aL
                obtain ⟨nB, hnB⟩ : ∃ e, W4.heap.size = e := ⟨_, rfl⟩
                generalize W4.alloc (.cells #[.int .u64 x, .int .i64 y, .int .i64 z] 71) = W5 at HT2 aL2 aN ⊢
                simp only [hnB] at aN ⊢
                clear hnB hba
                have hbs := HT2.out.base
                refine wpAnyU_ready (rs := [8]) (by kernel_rfl) (by simp) ?_
                refine AllReadyU.cons rfl (fun K hK => ?_) (AllReadyU.nil)
                refine ite_of rfl ?_
                refine opwp_append_lump _ _ rfl (b + 1) A' c' k (rs.take k) rfl (by rw [List.length_take]; have := HLN.out; omega) HT2.out.own ⟨nB, 0, none⟩ 1 (x, y, z) rfl (by rw [Addr.add_lit]; exact aN.cell rfl) (by rw [Addr.add_lit]; exact aN.cell rfl) (by rw [Addr.add_lit]; exact aN.cell rfl) (by omega) hbs ?_
                intro A1 c1 W6 HO1 HG
                simp only [Act.put, List.setIfInBounds_toArray, List.set_cons_zero, List.set_cons_succ]
                have aL3 : At W6 lB #[.int .u64 x, .int .i64 y, .int .i64 z] 71 := aL2.app HG.out HNE.out
                have HT3 := Lib.hid (HT2.out.app HO1.out HG.out)
                refine hK.out _ _ (fun _ => HeldS.mk' ⟨HT3.out.tab, aL3⟩) ?_
                clear hK K HO1 HG HT2 aL2 aN
                refine wpAnyU_ready (rs := [10]) (by kernel_rfl) (by simp) ?_
                refine AllReadyU.cons rfl (fun K hK => ?_) (AllReadyU.nil)
                go_simp
                go_wp2
                refine hK.out _ _ (fun _ => HeldS.mk' ⟨HT3.out.tab, aL3⟩) ?_
                clear hK K
                refine wpAnyU_ready (rs := [11]) (by kernel_rfl) (by simp) ?_
                refine AllReadyU.cons rfl (fun K hK => ?_) (AllReadyU.nil)
                go_simp
                go_wp2
                refine hK.out _ _ (fun _ => HeldS.mk' ⟨HT3.out.tab, aL3⟩) ?_
                clear hK K
                refine wpAnyU_ready (rs := [12]) (by kernel_rfl) (by simp) ?_
                refine AllReadyU.cons rfl (fun K hK => ?_) (AllReadyU.nil)
                have fT := HT3.out.tab.three
                go_simp
                go_wp2
                refine hK.out _ _ (fun h => late_no h (by kernel_rfl)) ?_
                clear hK K fT
                replace HT := Lib.hid (HT3.out.set1 (.slice A1 (k + 1) c1))
                refine wpAnyU_ready (rs := [13]) (by kernel_rfl) (by simp) ?_
                refine AllReadyU.cons rfl (fun K hK => ?_) (AllReadyU.nil)
                go_simp
                go_wp2
                refine hK.out _ _ (fun h => late_no h (by kernel_rfl)) ?_
                clear hK K
                refine wpAnyU_ready (rs := [14]) (by kernel_rfl) (by simp) ?_
                refine AllReadyU.cons rfl (fun K hK => ?_) (AllReadyU.nil)
                go_simp
                go_wp2
                refine hK.out _ _ (fun h => late_no h (by kernel_rfl)) ?_
                clear hK K
                refine wpAnyU_ready (rs := [15]) (by kernel_rfl) (by simp) ?_
                refine AllReadyU.cons rfl (fun K hK => ?_) (AllReadyU.nil)
                have fT := HT.out.tab.three
                go_simp
                go_wp2
                refine hK.out _ _ (fun h => late_no h (by kernel_rfl)) ?_
                clear hK K fT
                replace HT := Lib.hid (HT.out.set2 (tot + x))
                rw [← HTK.out] at HT
                refine wpAnyU_done (by kernel_rfl) ?_ _
                refine NoPanic.normal ?_
                go_wp2
                go_roundw
                case rel => exact ⟨k + 1, A1, c1, tot + x, by omega, by go_num, by have := HX.out.1.1; omega, HPP.out, HT.out, HK.out, by have := HS2.out; have := HSM.out; omega⟩
                case measure => simp [intOf]; omega
              · have HBAD : Hid (¬ OkK most rs) := fun k' => hle (HNX2.out k'.gd)
                have o1 : 0 ≤ ordV (p1, p2, p3) (x, y, z) := Int.not_lt.1 fun h => hle (ordV_neg.1 h)
                obtain ⟨ov, hov⟩ : ∃ v, ordV (p1, p2, p3) (x, y, z) = v := ⟨_, rfl⟩
                rw [hov] at o1 HC
                have o2 : decide (0 ≤ ov) = true := decide_eq_true o1
                clear hle hov HNX2
                go_wp2
                have hfar1 := fun x : Far W2 => (x.at aL).three
                refine wp_region_far (by kernel_rfl) (by kernel_rfl) ?_
                repeat (first | go_big_quiet_skip | (go_big_quiet_want; go_big_quiet_op; first | go_big_quiet_on | (apply Exists.intro; refine ⟨fun _ => ?_, ?_⟩; (focus (first | (go_at_call 33; exact far_of (HC.out _)))); go_big_quiet_on)))
                refine wpQuiet_nil ?_
                rintro _ ⟨xq, rfl⟩
                clear hfar1
                clear q1 q2 q3
                go_wp2
                go_ret2
                exact ⟨LoadK.bad HBAD.out, keep1 HB2.out xq.below⟩
      · obtain ⟨p1, p2⟩ := plus2_no (a := tot) (b := x) (by omega)
        have HBAD : Hid (¬ OkK most rs) := fun k' => by have h1 := k'.sm; have h2 := HTL.out k'.gd; have h3 := HS2.out; have h4 := HSM.out; omega
        rw [p1, p2]
        clear p1 p2
        have l3 := aL.three
        go_wp2
        have hfar1 := fun x : Far W2 => (x.at aL).three
        refine wp_region_far (by kernel_rfl) (by kernel_rfl) ?_
        repeat (first | go_big_quiet_skip | (go_big_quiet_want; go_big_quiet_op; first | go_big_quiet_on | (apply Exists.intro; refine ⟨fun _ => ?_, ?_⟩; (focus (first | fail)); go_big_quiet_on)))
        refine wpQuiet_nil ?_
        rintro _ ⟨xq, rfl⟩
        clear hfar1
        go_wp2
        go_ret2
        exact ⟨LoadK.bad HBAD.out, keep1 HB2.out xq.below⟩
    · obtain rfl : k = len := by omega
      have h1 := H.out
      rw [List.take_of_length_le (by have := HLN.out; omega)] at h1
      obtain ⟨hT, hG, rfl⟩ := h1
      have HB := Lib.hid hT.below
      have HSKW := Lib.hid (hT.sk HLN.out hG HO.out ht1)
      have HG := Lib.hid hG
      clear H hT hG
      by_cases hmo : most < (k : Int)
      · have HBAD : Hid (¬ OkK most rs) := fun k' => by have h1 := k'.ln; have := HLN.out; omega
        go_wp2
        go_ret2
        exact ⟨LoadK.bad HBAD.out, HB.out⟩
      · have HOK : Hid (OkK most rs) := ⟨HG.out, ht1, by have := HLN.out; omega⟩
        go_wp2
        go_ret2
        exact ⟨.inl ⟨HOK.out, b, _, rfl, HSKW.out.1, HSKW.out.2⟩, HB.out⟩
end Go.Proofs.Ytbmnebpjjghkpaa

