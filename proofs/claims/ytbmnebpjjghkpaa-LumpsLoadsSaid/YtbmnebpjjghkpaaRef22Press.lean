/- Contract of the document's lumps: Press. -/
import Derived.Test.YtbmnebpjjghkpaaProg
import Derived.Test.YtbmnebpjjghkpaaRef22Cost
import Derived.Test.YtbmnebpjjghkpaaRef22Lay
import Derived.Test.YtbmnebpjjghkpaaFewer
import Derived.Test.YtbmnebpjjghkpaaUntil
namespace Go.Proofs.Ytbmnebpjjghkpaa
open Go.RowKit

theorem opwp_append_lumpsD {o : Oper} {a : Act} {K : Act → World → Prop} {Q : Exit → Act → World → Prop} {w : World} (s x : Operand)
    (ho : o.op = .call { callee := .builtin .append, args := #[s, x], argTypes := #[34, 34] })
    (base : Nat) (A : Option Addr) (cap n : Nat) (ls : List Lu) (hs : a.eval s = .slice A n cap) (hn : ls.length = n) (hown : Own3D base w A cap ls)
    (ad : Addr) (m c : Nat) (ks : List Lu) (hx : a.eval x = .slice (some ad) m c) (hm : ks.length = m) (hR : RdL w (some ad) ks)
    (hlen : n + m ≤ 1099511627775) (hbase : base ≤ w.heap.size) (d : Nat) (hd : o.dst = some d)
    (h : ∀ A' cap' w', Hid (Own3D base w' A' cap' (ls ++ ks)) → Hid (w.grownBy w' (Value.slice A n cap).ownBlock) → K ⟨a.tmps.setIfInBounds d (.slice A' (n + m) cap'), a.defers⟩ w') :
    Oper.wp Try.prog o a w K Q := by
  subst hn hm
  have hput : ∀ v, a.put o.dst v = ⟨a.tmps.setIfInBounds d v, a.defers⟩ := fun v => by rw [hd]; rfl
  simp only [← hput] at h
  obtain ⟨i, hi, hz, hsz, hby⟩ := Try.infoLumpD
  have hnews : ∀ j u, (flatL ks)[j]? = some u → w.cell? (ad.add j) = some u := by
    intro j u hj
    obtain ⟨g, o', e, _, hc⟩ := hR j u hj
    cases e
    rw [Addr.add_lit]
    exact hc
  obtain ⟨v', w', hr, hown', hg, _, hblk⟩ := run_append_own_at (P := Try.prog) w base 34 o.type _ i _ 3 24 Try.underlyingRowD hi hz hsz hby rfl (by decide) _ ls.length (flatL ls) hown ad ks.length c (flatL ks) (flatL_len _) hnews
    flatL_one' (by simp only [maxLen]; omega) (by omega) hbase
  unfold Oper.wp execOp
  simp only [ho, resolve, invoke, builtin, Sem.run_bind, Sem.run_pure, Result.andThen_ok, List.map_toArray, List.map_cons, List.map_nil, hs, hx, hr]
  have hl : (ls ++ ks).length = ls.length + ks.length := by simp
  rw [← flatL_append] at hown'
  rcases hown'.2 with ⟨e, hn⟩ | ⟨g, cp, cur, rfl, r⟩
  · have := h none 0 w' (by show Own3D _ _ _ _ _; unfold Own3D; rw [hl, hn]; rw [e, hn] at hown'; exact hown') hg
    rw [hn] at this
    rw [e]
    exact this
  · exact h _ _ _ (by show Own3D _ _ _ _ _; unfold Own3D; rw [hl]; exact hown') hg

theorem RdL.take {w : World} {A : Option Addr} {ls : List Lu} (h : RdL w A ls) (k : Nat) : RdL w A (ls.take k) := by
  intro j u hj
  refine h j u ?_
  rw [← List.take_append_drop k ls, flatL_append]
  rw [List.getElem?_append_left]
  · exact hj
  · exact (List.getElem?_eq_some_iff.1 hj).1
theorem RdL.drop {w : World} {g o : Nat} {ls : List Lu} (h : RdL w (some ⟨g, o, none⟩) ls) (k : Nat) (hk : k ≤ ls.length) : RdL w (some ⟨g, o + k * 3, none⟩) (ls.drop k) := by
  intro j u hj
  have e : (flatL ls)[k * 3 + j]? = some u := by
    rw [← List.take_append_drop k ls, flatL_append, List.getElem?_append_right (by rw [flatL_len, List.length_take]; omega), flatL_len, List.length_take, show k * 3 + j - min k ls.length * 3 = j by rw [show min k ls.length = k by omega]; omega]
    exact hj
  obtain ⟨g', o', e', hg, hc⟩ := h _ u e
  cases e'
  exact ⟨g, _, rfl, hg, by rw [Nat.add_assoc]; exact hc⟩

def lenD (w : World) (b : Nat) : Nat := match w.cell? ⟨b, 1, none⟩ with
  | some (.slice _ n _) => n
  | _ => 0
theorem DocK.lenD {w : World} {b : Nat} {S : List Nat} {most : Int} {ls : List Lu} (h : DocK w b S most ls) : lenD w b = ls.length := by
  obtain ⟨A, k, _, h⟩ := h
  have := h.at'.two
  unfold Go.Proofs.Ytbmnebpjjghkpaa.lenD
  rw [this.2.1]
/-- What holds at each round. -/
structure PrsD (w wr : World) (m : Nat) (S S' : List Nat) (most : Int) (ls ks : List Lu) : Prop where
  doc : DocK wr m S' most ks
  gd : GdL ks
  eq : press most ks = press most ls
  sum : sumN ks = sumN ls
  gr : GrownS S S' w.heap.size
  fr : Frame S w wr
  le : ks.length ≤ ls.length
theorem PrsD.belowW {w wr w' : World} {m : Nat} {S S' : List Nat} {most : Int} {ls ks : List Lu} (h : PrsD w wr m S S' most ls ks) (hb : Below wr.heap.size wr w') : PrsD w w' m S S' most ls ks :=
  ⟨h.doc.below hb, h.gd, h.eq, h.sum, h.gr, h.fr.trans (Frame.of_below hb), h.le⟩
theorem grown_two {S T U : List Nat} {n k : Nat} (h : GrownS S T n) (h2 : GrownS T U k) (hk : n ≤ k) : GrownS S U n := fun j hj => by
  rcases h2 j hj with h3 | h3
  · exact h j h3
  · exact .inr (Nat.le_trans hk h3)
/-- The document's row goes on as another one. -/
theorem docK_set {w w' : World} {m : Nat} {T : List Nat} {most : Int} {ps qs : List Lu} {A : Option Addr} {c n : Nat} (h : DocK w m T most ps) (hb : Below w.heap.size w w') (ho : Own3D w.heap.size w' A c qs) (hn : qs.length = n) :
    DocK (w'.setCell ⟨m, 1, none⟩ (.slice A n c)) m (m :: blk A) most qs ∧ GrownS T (m :: blk A) w.heap.size ∧ Frame T w (w'.setCell ⟨m, 1, none⟩ (.slice A n c)) := by
  obtain ⟨A0, c0, rfl, h⟩ := h
  have hk : ∀ k ∈ blk A, w.heap.size ≤ k ∧ k < w'.heap.size := ho.mem
  have hm := h.at'.lt
  have hmn : m ∉ blk A := fun hm' => by have := (hk m hm').1; omega
  have hD : DocK (w'.setCell ⟨m, 1, none⟩ (.slice A n c)) m (m :: blk A) most qs := by
    subst hn
    exact ⟨A, c, rfl, (h.at'.below hb).set_any 1 _ rfl, (ho.setlow hm _).mono (Nat.zero_le _), hmn⟩
  refine ⟨hD, fun k hk' => ?_, (Frame.of_below hb).setc (.inl (by simp)) 1 _⟩
  rcases List.mem_cons.1 hk' with rfl | hk'
  · exact .inl (by simp)
  · exact .inr (hk k hk').1

set_option maxRecDepth 100000 in
set_option maxHeartbeats 4000000 in
theorem dkpress_any (m : Nat) (S : List Nat) (most : Int) (ls : List Lu) (w : World) (h : DocK w m S most ls) (hg : GdL ls) (hs : sumN ls ≤ 9223372036854775807) (hm : 2 ≤ most) (hl : ls.length ≤ 1000000) :
    Calls Try.prog 38 #[.pointer (some ⟨m, 0, none⟩)] w fun e w' => e = .returned (.tuple #[]) ∧ DocKR m S most (press most ls) w w' := by
  have HP0 : Hid (PrsD w w m S S most ls ls) := ⟨h, hg, rfl, rfl, GrownS.refl _ _, Frame.refl _ _, Nat.le_refl _⟩
  have HS0 := Lib.hid hs
  have HL0 := Lib.hid hl
  clear h hg hs hl
  go_enter Try.func38, Try.ntmps38
  go_wp2
  go_loopw [2] (fun _ wr => ∃ ks S', Hid (PrsD w wr m S S' most ls ks)) (fun _ wr => lenD wr m)
  case atStart => exact ⟨ls, S, HP0⟩
  case round =>
    obtain ⟨ks, S1, HP⟩ := hrel
    clear HP0
    obtain ⟨wo, hwo⟩ : ∃ wo, wr = wo := ⟨_, rfl⟩
    rw [hwo] at HP ⊢
    obtain ⟨A, c, hS1, hB⟩ := HP.out.doc
    have s1 := hB.at'
    obtain ⟨n, hn⟩ : ∃ n, ks.length = n := ⟨_, rfl⟩
    have HKN := Lib.hid hn
    have HLD : Hid (lenD wo m = n) := by rw [← hn]; exact HP.out.doc.lenD
    have hkl : n ≤ 1000000 := by have := HP.out.le; have := HL0.out; omega
    rw [hn] at s1
    have f1 := s1.two
    have l1 := s1.lt
    by_cases hgt : ¬ (n : Int) ≤ most
    rotate_left
    · have hle' : (n : Int) ≤ most := by omega
      have hld : decide (most < (n : Int)) = false := decide_eq_false (by omega)
      have HR : Hid (∀ j, DocKR m S most (press most ls) w (wo.drewN j)) := fun j => by
        refine ⟨S1, HP.out.gr, ?_, HP.out.fr.drewN j⟩
        rw [← HP.out.eq, press_stop (by rw [HKN.out]; exact hle')]
        exact HP.out.doc.below ((Below.refl _ _).drewN j)
      clear hgt hB hS1 hn
      go_wp2
      go_quiet (fail)
      go_wp2
      exact bodyPost_end (results_none rfl _ _ _) rfl ⟨rfl, HR.out _⟩
    · have hld : decide (most < (n : Int)) = true := decide_eq_true (by omega)
      have hn3 : 3 ≤ n := by omega
      obtain ⟨g, rfl⟩ : ∃ g, A = some ⟨g, 0, none⟩ := by
        rcases hB.own.2 with ⟨_, h0⟩ | ⟨g, cp, cur, h, _⟩
        · omega
        · simp only [Value.slice.injEq] at h; exact ⟨g, h.1⟩
      have HGT := Lib.hid hgt
      have HNC : Hid (n ≤ c ∧ c ≤ 9223372036854775807) := by
        have h1 := hn
        rcases hB.own.2 with ⟨h, h0⟩ | ⟨g', cp, cur, h, _, _, h3, h4, _⟩
        · simp at h
        · simp only [Value.slice.injEq] at h
          obtain ⟨_, _, rfl⟩ := h
          simp only [maxLen] at h4
          exact ⟨by omega, by omega⟩
      clear hgt
      go_wp2
      go_quiet (fail)
      have hbD : Below wo.heap.size wo (wo.drewN nq) := (Below.refl _ _).drewN _
      obtain ⟨W1, hW1⟩ : ∃ W1, wo.drewN nq = W1 := ⟨_, rfl⟩
      rw [hW1] at hbD ⊢
      clear hW1 hld f1 l1
      have HP1 := Lib.hid (HP.out.belowW hbD)
      have HLD1 : Hid (lenD W1 m = n) := by rw [← HKN.out]; exact HP1.out.doc.lenD
      have s2 := s1.below hbD
      have HBB := Lib.hid hbD
      clear hbD hB hn
      go_wp2
      go_loopw [2, 3] (fun at' i wr => ∃ j : Nat, j ≤ n - 1 ∧ i = .int .i64 j ∧ at' = .int .i64 (pickTo ks j) ∧ Hid (Below W1.heap.size W1 wr)) (fun _ i _ => n - 1 - (intOf i).toNat)
      case atStart => exact ⟨0, by omega, rfl, rfl, Below.refl _ _⟩
      case round =>
        obtain ⟨j, hj, rfl, rfl, HI⟩ := hrel
        by_cases hjt : j < n - 1
        · have v1 : IntKind.i64.wrap ((j : Int) + 1) = ((j + 1 : Nat) : Int) := by simp only [IntKind.wrap_i64]; omega
          have hj1 : ((j + 1 : Nat) : Int) < (n : Int) := by omega
          have s3 := s2.below HI.out
          have f3 := s3.two
          have l3 := s3.lt
          have HPI := Lib.hid (HP1.out.belowW HI.out)
          have HTM : Hid (sumN ks ≤ 9223372036854775807) := by have := HP1.out.sum; have := HS0.out; show _ ≤ _; omega
          have hpl : pickTo ks j ≤ j := by
            rcases Nat.eq_zero_or_pos j with h0 | h0
            · subst h0; exact Nat.le_refl _
            · exact Nat.le_of_lt (pickTo_lt ks j h0)
          have HCA := Lib.hid (cost_bnd HP1.out.gd HTM.out (i := j) (by rw [HKN.out]; omega))
          have HCB := Lib.hid (cost_bnd HP1.out.gd HTM.out (i := pickTo ks j) (by rw [HKN.out]; omega))
          have HLF := Lib.hid (lessF_fless (a := costL ks j) (b := costL ks (pickTo ks j)) HCA.out.2.2.1 HCB.out.2.2.1)
          have HPS := Lib.hid (pickTo_succ ks j)
          have HC1 := Lib.hid (fun W hb => dkcost_any m S1 most ks j W (HP1.out.doc.below (w' := W) hb) HP1.out.gd HTM.out (by rw [HKN.out]; omega) (by rw [HKN.out]; omega))
          have HC2 := Lib.hid (fun W hb => dkcost_any m S1 most ks (pickTo ks j) W (HP1.out.doc.below (w' := W) hb) HP1.out.gd HTM.out (by rw [HKN.out]; omega) (by rw [HKN.out]; omega))
          obtain ⟨pj, hpj⟩ : ∃ p, pickTo ks j = p := ⟨_, rfl⟩
          rw [hpj] at HCB HLF HPS HC2 hpl
          simp only [hpj]
          clear hpj s3
          go_wp2_with fail
          refine (HC1.out _ HI.out).mono ?_
          rintro e w3 ⟨rfl, hb3⟩
          have HI3 := Lib.hid (keep1 HI.out hb3)
          obtain ⟨an, han⟩ : ∃ c, (costL ks j).1 = c := ⟨_, rfl⟩
          obtain ⟨ad, had⟩ : ∃ c, (costL ks j).2 = c := ⟨_, rfl⟩
          rw [han, had] at HCA HLF ⊢
          clear han had hb3 f3 l3
          go_wp2_with fail
          refine (HC2.out _ HI3.out).mono ?_
          rintro e w4 ⟨rfl, hb4⟩
          have HI4 := Lib.hid (keep1 HI3.out hb4)
          obtain ⟨bn, hbn⟩ : ∃ c, (costL ks pj).1 = c := ⟨_, rfl⟩
          obtain ⟨bd, hbd⟩ : ∃ c, (costL ks pj).2 = c := ⟨_, rfl⟩
          rw [hbn, hbd] at HCB HLF ⊢
          clear hbn hbd hb4 HI3 HC1 HC2
          go_wp2_with fail
          refine (fewer_any an ad bn bd w4 HCA.out.1 HCA.out.2.1 (Int.le_of_lt HCA.out.2.2.1) HCA.out.2.2.2 HCB.out.1 HCB.out.2.1 (Int.le_of_lt HCB.out.2.2.1) HCB.out.2.2.2).mono ?_
          rintro e w5 ⟨rfl, hb5⟩
          have HI5 := Lib.hid (keep1 HI4.out hb5)
          rw [HLF.out]
          clear hb5 HI4
          by_cases hfl : fless (costL ks j) (costL ks pj)
          · have HN : Hid (pickTo ks (j + 1) = j) := by show _ = _; rw [HPS.out, if_pos hfl]
            rw [decide_eq_true hfl]
            clear hfl HPS HLF
            go_wp2
            go_roundw
            case rel => exact ⟨j + 1, by omega, by simp, by rw [HN.out], HI5⟩
            case measure => simp [intOf]; omega
          · have HN : Hid (pickTo ks (j + 1) = pj) := by show _ = _; rw [HPS.out, if_neg hfl]
            rw [decide_eq_false hfl]
            clear hfl HPS HLF
            go_wp2
            go_roundw
            case rel => exact ⟨j + 1, by omega, by simp, by rw [HN.out], HI5⟩
            case measure => simp [intOf]; omega
        · obtain rfl : j = n - 1 := by omega
          have HPK : Hid (pickTo ks (n - 1) = pick ks) := by show _ = _; unfold pick; rw [HKN.out]
          rw [HPK.out]
          have HPL := Lib.hid (pick_lt (ls := ks) (by rw [HKN.out]; omega))
          have HP2 := Lib.hid (HP1.out.belowW HI.out)
          have v1 : IntKind.i64.wrap (((n - 1 : Nat) : Int) + 1) = (n : Int) := by simp only [IntKind.wrap_i64]; omega
          have HPR : Hid (press1 ks = laid (out2 ks (pick ks)) (both ks (pick ks))) := rfl
          obtain ⟨p, hp⟩ : ∃ p, pick ks = p := ⟨_, rfl⟩
          rw [hp] at HPL HPR ⊢
          have hpl : p + 1 < n := by rw [← HKN.out]; exact HPL.out
          have HRW := Lib.hid (show RdL wr (some ⟨g, 0, none⟩) ks by
            obtain ⟨A', c', e', hB'⟩ := HP2.out.doc
            rw [hS1] at e'
            cases A' with
            | none => simp [blk] at e'
            | some a' =>
              have hr := hB'.own.rd
              rcases hB'.own.2 with ⟨h, _⟩ | ⟨g', cp, cur, h, _⟩
              · simp at h
              · simp only [Value.slice.injEq, Option.some.injEq] at h
                rw [h.1] at e' hr
                simp [blk] at e'
                rw [e']
                exact hr)
          have s3 := s2.below HI.out
          have f3 := s3.two
          have l3 := s3.lt
          obtain ⟨g1, o1, e1, hg1, c1, c2, c3⟩ := HRW.out.at' p (by rw [HKN.out]; omega)
          cases e1
          obtain ⟨g2, o2, e2, hg2, d1, d2, d3⟩ := HRW.out.at' (p + 1) (by rw [HKN.out]; omega)
          cases e2
          have HLA : Hid (lget ks p = lget ks p ∧ both ks p = ((lget ks p).1 + (lget ks (p + 1)).1, (lget ks p).2.1, max (lget ks p).2.2 (lget ks (p + 1)).2.2)) := ⟨rfl, rfl⟩
          have hpa := HP2.out.gd.pos _ (mem_lget (by rw [HKN.out]; omega : p < ks.length))
          have hpb := HP2.out.gd.pos _ (mem_lget (by rw [HKN.out]; omega : p + 1 < ks.length))
          have hsp := sumN_split2 (ls := ks) (i := p) (by rw [HKN.out]; omega)
          have hs1 := sumN_nonneg (ls := ks.take p) fun x hx => HP2.out.gd.pos x (List.mem_of_mem_take hx)
          have hs2 := sumN_nonneg (ls := ks.drop (p + 2)) fun x hx => HP2.out.gd.pos x (List.mem_of_mem_drop hx)
          have hst := HP2.out.sum
          have HBO := Lib.hid (both_ok HP2.out.gd (i := p) (by rw [HKN.out]; omega))
          obtain ⟨⟨x1, x2, x3⟩, hx⟩ : ∃ x, lget ks p = x := ⟨_, rfl⟩
          obtain ⟨⟨y1, y2, y3⟩, hy⟩ : ∃ x, lget ks (p + 1) = x := ⟨_, rfl⟩
          rw [hx] at c1 c2 c3 HLA hpa hsp
          rw [hy] at d1 d2 d3 HLA hpb hsp
          dsimp only at c1 c2 c3 d1 d2 d3 HLA hpa hpb hsp
          rw [Nat.zero_add] at c1 c2 c3 d1 d2 d3
          have hxy : IntKind.u64.wrap (x1 + y1) = x1 + y1 := by have := HS0.out; simp only [IntKind.wrap_u64]; omega
          have k0 : (0 : Int) ≤ p := by omega
          have k1 : (p : Int) < n := by omega
          have v2 : IntKind.i64.wrap ((p : Int) + 1) = ((p + 1 : Nat) : Int) := by simp only [IntKind.wrap_i64]; omega
          have k2 : (0 : Int) ≤ ((p + 1 : Nat) : Int) := by omega
          have k3 : ((p + 1 : Nat) : Int) < n := by omega
          have v3 : IntKind.i64.wrap ((p : Int) + 2) = ((p + 2 : Nat) : Int) := by simp only [IntKind.wrap_i64]; omega
          have k4 : (0 : Int) ≤ ((p + 2 : Nat) : Int) := by omega
          have k5 : ((p + 2 : Nat) : Int) ≤ n := by omega
          have k6 : (p : Int) ≤ c := by have := HNC.out; omega
          have k7 : (n : Int) ≤ c := by have := HNC.out; omega
          have aA := At.new wr #[.int .u64 x1, .int .i64 x2, .int .i64 x3] 78
          have aA2 := aA.alloc (.cells #[.int .u64 y1, .int .i64 y2, .int .i64 y3] 78)
          have aE := At.new' (wr.alloc (.cells #[.int .u64 x1, .int .i64 x2, .int .i64 x3] 78)) #[.int .u64 y1, .int .i64 y2, .int .i64 y3] 78 (b := wr.heap.size + 1) (by simp)
          have hbAB : Below wr.heap.size wr ((wr.alloc (.cells #[.int .u64 x1, .int .i64 x2, .int .i64 x3] 78)).alloc (.cells #[.int .u64 y1, .int .i64 y2, .int .i64 y3] 78)) := ((Below.refl _ _).alloc (Nat.le_refl _) _).alloc (by simp) _
          have HSO : Hid (sumN (out2 ks p) + (x1 + y1) ≤ 9223372036854775807) := by
            have := HS0.out
            show _ ≤ _
            unfold out2
            rw [sumN_append]
            omega
          have HGO : Hid (GdL (out2 ks p)) := HP2.out.gd.sub (out2_sub ks p)
          have HBP := Lib.hid (And.intro hpa hpb)
          clear hx hy hpa hpb hsp hs1 hs2 hst s1 HLD1 HP HBB aA
          go_wp2
          have HP3 := Lib.hid (HP2.out.belowW hbAB)
          have HRW3 := Lib.hid (HRW.out.below hbAB)
          have s4 := s3.below hbAB
          obtain ⟨aB, haB⟩ : ∃ aB, wr.heap.size = aB := ⟨_, rfl⟩
          rw [haB] at aA2 aE
          simp only [haB]
          generalize ((wr.alloc (.cells #[.int .u64 x1, .int .i64 x2, .int .i64 x3] 78)).alloc (.cells #[.int .u64 y1, .int .i64 y2, .int .i64 y3] 78)) = W2 at HP3 HRW3 s4 aA2 aE ⊢
          have hmaB : m < aB := by rw [← haB]; exact l3
          clear haB hbAB f3 l3 c1 c2 c3 d1 d2 d3 hg1 hg2 HP2 HRW s3
          obtain ⟨W3, hW3⟩ : ∃ W3, W2.drew = W3 := ⟨_, rfl⟩
          replace HP3 := Lib.hid (HP3.out.belowW (Below.refl _ _).drew)
          replace HRW3 := Lib.hid (HRW3.out.below (Below.refl _ _).drew)
          replace s4 := s4.drew
          replace aA2 := aA2.drew
          replace aE := aE.drew
          rw [hW3] at HP3 HRW3 s4 aA2 aE
          have TK : At W3 m #[.int .i64 most, .slice (some ⟨g, 0, none⟩) n c] 37 := s4
          refine wp_region_noPanic ?_
          refine wp_region_until (S := HeldS fun W => At W m #[.int .i64 most, .slice (some ⟨g, 0, none⟩) n c] 37) 19 (by kernel_rfl) ?_
          rw [hW3]
          have hHeld : HeldS (fun W => At W m #[.int .i64 most, .slice (some ⟨g, 0, none⟩) n c] 37) W3 := HeldS.mk' TK
          have hne : Nonempty (Held fun W => At W m #[.int .i64 most, .slice (some ⟨g, 0, none⟩) n c] 37) := ⟨⟨W3, TK⟩⟩
          have hneF : Nonempty (Held fun _ => True) := ⟨⟨W3, trivial⟩⟩
          have hfar1 := fun z : Held (fun W => At W m #[.int .i64 most, .slice (some ⟨g, 0, none⟩) n c] 37) => z.held.two
          clear hW3
          refine wpAnyU_run0F [true, false, true, true, true, false, true, false, false, true, true, true, false, true, true] 10 (by kernel_rfl) (by kernel_rfl) (fun _ _ _ _ h => h) (by kernel_rfl) hHeld ?_
          simp only [runOps_true, runOps_false, runOps_nil]
          repeat (first | go_big_quiet_skip | (go_big_quiet_want; go_big_quiet_op; go_big_quiet_on))
          refine wpQuiet_nil ?_
          refine wpAnyU_run0 [false, false, false, false, false, true, false, true, false, false, false, false, true, false, false, true] 6 (by kernel_rfl) (by kernel_rfl) (fun _ _ _ _ h => h) (by kernel_rfl) hHeld ?_
          simp only [runOps_true, runOps_false, runOps_nil]
          repeat (first | go_big_quiet_skip | (go_big_quiet_want; go_big_quiet_op; go_big_quiet_on))
          refine wpQuiet_nil ?_
          clear hfar1
          obtain ⟨o2, ho2, hR2⟩ : ∃ o2, (if c = p + 2 then some (⟨g, 0, none⟩ : Addr) else some ⟨g, (p + 2) * 3, none⟩) = some ⟨g, o2, none⟩ ∧ RdL W3 (some ⟨g, o2, none⟩) (ks.drop (p + 2)) := by
            by_cases hc : c = p + 2
            · rw [if_pos hc]
              have hd : ks.drop (p + 2) = [] := List.drop_of_length_le (by have := HNC.out; have := HKN.out; omega)
              rw [hd]
              exact ⟨_, rfl, RdL.nil _ _⟩
            · rw [if_neg hc]
              have := HRW3.out.drop (p + 2) (by rw [HKN.out]; omega)
              rw [Nat.zero_add] at this
              exact ⟨_, rfl, this⟩
          have HR2 := Lib.hid hR2
          rw [ho2]
          clear ho2 hR2
          have HR1 := Lib.hid (HRW3.out.take p)
          refine wpAnyU_ready (rs := [1]) (by kernel_rfl) (by simp) ?_
          refine AllReadyU.cons rfl (fun K hK => ?_) (AllReadyU.nil)
          go_simp
          go_wp2
          have HOE := Lib.hid (Own3D.empty W3 W3.heap.size (Nat.le_refl _))
          have hbE : Below W3.heap.size W3 (W3.alloc (.cells #[] 78)) := (Below.refl _ _).alloc (Nat.le_refl _) _
          have HB4 := Lib.hid hbE
          obtain ⟨eB, heB⟩ : ∃ eB, W3.heap.size = eB := ⟨_, rfl⟩
          have HEB := Lib.hid heB
          have HZ4 : Hid ((W3.alloc (.cells #[] 78)).heap.size = eB + 1) := by show _ = _; simp [heB]
          simp only [heB] at HOE ⊢
          clear heB hbE
          generalize W3.alloc (.cells #[] 78) = W4 at HOE HB4 HZ4 ⊢
          refine hK.out _ _ (fun _ => HeldS.mk' (s4.below HB4.out)) ?_
          clear hK K
          refine wpAnyU_ready (rs := [8]) (by kernel_rfl) (by simp) ?_
          refine AllReadyU.cons rfl (fun K hK => ?_) (AllReadyU.nil)
          refine ite_of rfl ?_
          refine opwp_append_lumpsD _ _ rfl eB (some ⟨eB, 0, none⟩) 0 0 [] rfl rfl HOE.out ⟨g, 0, none⟩ p c (ks.take p) rfl (by rw [List.length_take, HKN.out]; omega) (HR1.out.below HB4.out) (by omega) (by rw [HZ4.out]; omega) 57 rfl ?_
          intro A5 c5 W5 HO5 HG5
          simp only [List.setIfInBounds_toArray, List.set_cons_zero, List.set_cons_succ]
          have HB5 : Hid (Below W3.heap.size W3 W5) := HB4.out.grown HG5.out (by rw [HZ4.out, HEB.out]; omega) (fun k hk => by simp [Value.ownBlock] at hk; rw [HEB.out]; omega)
          refine hK.out _ _ (fun _ => HeldS.mk' (s4.below HB5.out)) ?_
          clear hK K
          refine wpAnyU_ready (rs := [16]) (by kernel_rfl) (by simp) ?_
          refine AllReadyU.cons rfl (fun K hK => ?_) (AllReadyU.nil)
          refine ite_of rfl ?_
          refine opwp_append_lumpsD _ _ rfl eB A5 c5 (0 + p) ([] ++ ks.take p) rfl (by rw [List.nil_append, List.length_take, HKN.out]; omega) HO5.out ⟨g, o2, none⟩ (n - (p + 2)) (c - (p + 2)) (ks.drop (p + 2)) rfl (by rw [List.length_drop, HKN.out]) (HR2.out.below HB5.out) (by omega) (by rw [← HEB.out]; exact HB5.out.size) 65 rfl ?_
          intro A6 c6 W6 HO6 HG6
          simp only [List.setIfInBounds_toArray, List.set_cons_zero, List.set_cons_succ]
          have HB6 : Hid (Below W3.heap.size W3 W6) := HB5.out.grown HG6.out HB5.out.size (fun k hk => by
            cases A5 with
            | none => simp [Value.ownBlock] at hk
            | some a => simp only [Value.ownBlock, Option.some.injEq] at hk; have := (HO5.out.base_le a rfl).1; rw [HEB.out]; omega)
          refine hK.out _ _ (fun _ => HeldS.mk' (s4.below HB6.out)) ?_
          clear hK K
          replace hHeld : HeldS (fun W => At W m #[.int .i64 most, .slice (some ⟨g, 0, none⟩) n c] 37) W6 := HeldS.mk' (s4.below HB6.out)
          refine wpAnyU_run0F [false, false, false, false, false, false, false, false, false, false, false, false, false, false, false, false, false, true, true] 1 (by kernel_rfl) (by kernel_rfl) (fun _ _ _ _ h => h) (by kernel_rfl) hHeld ?_
          simp only [runOps_true, runOps_false, runOps_nil]
          repeat (first | go_big_quiet_skip | (go_big_quiet_want; go_big_quiet_op; go_big_quiet_on))
          refine wpQuiet_nil ?_
          clear hHeld hne hneF
          have s6 := s4.below HB6.out
          have f6 := s6.two
          have l6 := s6.lt
          refine wpAnyU_ready (rs := [19]) (by kernel_rfl) (by simp) ?_
          refine AllReadyU.cons rfl (fun K hK => ?_) (AllReadyU.nil)
          go_simp
          go_wp2
          refine hK.out _ _ (fun h => late_no h (by kernel_rfl)) ?_
          clear hK K
          refine wpAnyU_done (by kernel_rfl) ?_ _
          refine NoPanic.normal ?_
          have HO7 : Hid (Own3D W3.heap.size W6 A6 c6 (out2 ks p)) := by
            have := HO6.out
            rw [List.nil_append] at this
            rw [HEB.out]
            exact this
          have HD := Lib.hid (docK_set HP3.out.doc HB6.out HO7.out (n := p + (n - (p + 2))) (by rw [out2_len (by rw [HKN.out]; exact hpl), HKN.out]; omega))
          have a6 := (aA2.below HB6.out).set_other (p := ⟨m, 1, none⟩) (by show aB ≠ m; omega) (.slice A6 (p + (n - (p + 2))) c6)
          have e6 := (aE.below HB6.out).set_other (p := ⟨m, 1, none⟩) (by show aB + 1 ≠ m; omega) (.slice A6 (p + (n - (p + 2))) c6)
          have HOL : Hid ((out2 ks p).length ≤ 1048576) := by show _ ≤ _; rw [out2_len (by rw [HKN.out]; exact hpl), HKN.out]; omega
          generalize W6.setCell ⟨m, 1, none⟩ (.slice A6 (p + (n - (p + 2))) c6) = W7 at HD a6 e6 ⊢
          have fa := a6.three
          have la := a6.lt
          have fe := e6.three
          have le := e6.lt
          clear HO7 HO6 HG6 HB6 HO5 HG5 HB5 HOE HB4 HZ4 HR1 HR2 aA2 aE a6 e6 f6 l6 s6 TK s4 HRW3
          go_wp2_with fail
          refine (dklay_any m (m :: blk A6) most (out2 ks p) (x1 + y1) x2 (max x3 y3) W7 HD.out.1 HGO.out (by have := HBP.out; omega) HSO.out HOL.out).mono ?_
          rintro e w8 ⟨rfl, S8, hg8, hD8, hF8⟩
          have HP8 : Hid (PrsD w w8 m S S8 most ls (press1 ks)) := by
            have hpr := HPR.out
            rw [HLA.out.2] at hpr
            rw [← hpr] at hD8
            have hkl : ¬ (ks.length : Int) ≤ most := by have := HGT.out; rw [HKN.out]; omega
            have h2 : 2 ≤ ks.length := by rw [HKN.out]; omega
            have hle := press1_len h2
            refine ⟨hD8, press1_gd HP3.out.gd h2, ?_, ?_, ?_, ?_, ?_⟩
            · rw [← press_step (by omega) hkl]; exact HP3.out.eq
            · rw [press1_sum h2]; exact HP3.out.sum
            · intro k hk
              rcases hg8 k hk with h | h
              · rcases HD.out.2.1 k h with h | h
                · exact HP3.out.gr k h
                · exact .inr (Nat.le_trans HP3.out.fr.size h)
              · exact .inr (Nat.le_trans HP3.out.fr.size (Nat.le_trans HD.out.2.2.size h))
            · exact frame_two (grown_two HP3.out.gr HD.out.2.1 HP3.out.fr.size) (frame_two HP3.out.gr HP3.out.fr HD.out.2.2) hF8
            · have := HP3.out.le; omega
          have HME : Hid (lenD w8 m < n) := by
            rw [HP8.out.doc.lenD, ← HKN.out]
            exact press1_len (by rw [HKN.out]; omega)

          go_wp2
          go_roundw
          case rel => exact ⟨press1 ks, S8, HP8⟩
          case measure => rw [HLD.out]; exact HME.out
end Go.Proofs.Ytbmnebpjjghkpaa

