/- Texts of this claim, joined, indents halved: SuiteI, SuiteJ, SuiteE, SuiteK, Alive24. -/
import Derived.Test.YtlbnlmhcpephbaaGreatDoorProg
import Derived.Test.YtlbnlmhcpephbaaGreatDoorKc20
namespace Go.Proofs.YtlbnlmhcpephbaaGreatDoor
open Go.RowKit
theorem EyJ.owns {w W W' : World} {b : Nat} {l : List UInt8} {S : List Nat} (h : EyJ w W b l) (hF : Frame S W W') (hk : ∀ j ∈ S, w.heap.size ≤ j) : EyJ w W' b l :=
 ⟨h.eye.frame hF (fun hm => by have := h.lt; have := hk b hm; omega), ⟨hF.os.trans h.fr.os, hF.tape.trans h.fr.tape, hF.output.trans h.fr.output, Nat.le_trans h.fr.size hF.size, fun j hj hn => (hF.block j (Nat.lt_of_lt_of_le hj h.fr.size) (fun hm => by have := hk j hm; omega)).trans (h.fr.block j hj hn)⟩, h.lt⟩
theorem intsB_cons (x : Int) (xs : List Int) : intsB (x :: xs) = natB (zigN x) ++ intsB xs := by unfold intsB; rw [List.flatMap_cons]
structure IntJ (w W : World) (b : Nat) (A : Option Addr) (cap : Nat) (xs : List Int) (l : List UInt8) : Prop where
 ey : EyJ w W b l
 own : OwnW w.heap.size W A cap xs
theorem IntJ.read {w W W' : World} {b cap : Nat} {A : Option Addr} {xs : List Int} {l l' : List UInt8} (h : IntJ w W b A cap xs l) (hE : Eye W' b l') (hF : Frame [b] W W') : IntJ w W' b A cap xs l' :=
 ⟨h.ey.read hE hF, ownW_frame h.own hF fun k hk hm => by
  obtain ⟨a, ha, rfl⟩ := blk_mem hk
  have h1 := (h.own.base_le a ha).1
  have h2 := h.ey.lt
  simp only [List.mem_singleton] at hm
  omega⟩
theorem IntJ.below {w W W' : World} {b cap : Nat} {A : Option Addr} {xs : List Int} {l : List UInt8} (h : IntJ w W b A cap xs l) (hb : Below W.heap.size W W') : IntJ w W' b A cap xs l := ⟨h.ey.below hb, h.own.below hb⟩
set_option maxRecDepth 100000 in
set_option maxHeartbeats 2000000 in
theorem sints_any (eb n : Nat) (xs : List Int) (rest : List UInt8) (w : World) (hE : Eye w eb (intsB xs ++ rest)) (hn : xs.length = n) (hm : n ≤ 1000) (hx : ∀ x ∈ xs, -9223372036854775808 ≤ x ∧ x ≤ 9223372036854775807) (hl : rest.length ≤ 1000000) :
    Calls Tryz.prog 92 #[.pointer (some ⟨eb, 0, none⟩), .int .i64 n] w fun e w' => ∃ A c, e = .returned (.slice A n c) ∧ OwnW w.heap.size w' A c xs ∧ Eye w' eb rest ∧ Frame [eb] w w' := by
  have H0 : Hid (IntJ w w eb none 0 (xs.take 0) (intsB (xs.drop 0) ++ rest)) := ⟨EyJ.start hE, OwnW.nil _ _⟩
  have HN := Lib.hid hn
  have HX := Lib.hid hx
  have HIL : Hid (∀ k, (intsB (xs.drop k) ++ rest).length ≤ 1010000) := fun k => by
    have := intsB_len (l := xs.drop k) fun x hx' => hx x (List.mem_of_mem_drop hx')
    rw [List.length_drop] at this
    rw [List.length_append]; omega
  clear hE hn hx hl
  go_enter Tryz.func92, Tryz.ntmps92
  go_wp2
  go_loopw [5, 6, 8] (fun out _ i wr => ∃ k : Nat, k ≤ n ∧ i = .int .i64 k ∧ ∃ A cap, out = .slice A k cap ∧ Hid (IntJ w wr eb A cap (xs.take k) (intsB (xs.drop k) ++ rest))) (fun _ _ i _ => n - (intOf i).toNat)
  case atStart => exact ⟨0, by omega, rfl, none, 0, rfl, H0⟩
  case round =>
    obtain ⟨k, hk, rfl, A, cap, rfl, H⟩ := hrel
    clear H0
    by_cases hlt : k < n
    · have hkl : k < xs.length := by have := HN.out; omega
      have HTK : Hid (xs.take (k + 1) = xs.take k ++ [xs[k]'hkl]) := List.take_succ_eq_append_getElem hkl
      have HTL : Hid ((xs.take k).length = k) := by show _ = _; rw [List.length_take]; omega
      have HDR : Hid (intsB (xs.drop k) ++ rest = natB (zigN (xs[k]'hkl)) ++ (intsB (xs.drop (k + 1)) ++ rest)) := by
        show _ = _
        rw [List.drop_eq_getElem_cons hkl, intsB_cons, List.append_assoc]
      have HXB := Lib.hid (HX.out _ (List.getElem_mem hkl))
      obtain ⟨x, hx⟩ : ∃ x, xs[k]'hkl = x := ⟨_, rfl⟩
      rw [hx] at HTK HDR HXB
      rw [HDR.out] at H
      have k0 : (0 : Int) ≤ k := by omega
      have k1 : (k : Int) < n := by omega
      have k2 : IntKind.i64.wrap ((k : Int) + 1) = ((k + 1 : Nat) : Int) := by simp only [IntKind.wrap_i64]; omega
      clear hx hkl
      go_wp2_with fail
      refine (eint_any eb x _ wr H.out.ey.eye HXB.out.1 HXB.out.2 (by have := HIL.out (k + 1); omega)).mono ?_
      rintro e w1 ⟨rfl, hE, hF⟩
      have H1 := Lib.hid (H.out.read hE hF)
      clear hE hF H
      go_wp2_with fail
      refine (ebad_any eb _ w1 H1.out.ey.eye).mono ?_
      rintro e w2 ⟨rfl, rfl⟩
      have hba : Below w1.heap.size w1 (w1.alloc (.cells #[.int .i64 x] 2)) := (Below.refl _ _).alloc (Nat.le_refl _) _
      have H2 := Lib.hid (H1.out.below hba)
      have aX := At.new w1 #[.int .i64 x] 2
      have HSZ : Hid (w.heap.size ≤ (w1.alloc (.cells #[.int .i64 x] 2)).heap.size) := Nat.le_trans H1.out.ey.fr.size hba.size
      clear hba H1
      go_wp2_with (first
        | at_builtin
          refine wpList_append_i64 rfl _ _ rfl w.heap.size A cap k (xs.take k) rfl HTL.out H2.out.own ⟨w1.heap.size, 0, none⟩ 1 x rfl (aX.cell rfl) (by omega) HSZ.out ?_
          intro A' cap' w5 HO5 HG5 HS5
        | fail)
      have H5 : Hid (IntJ w w5 eb A' cap' (xs.take (k + 1)) (intsB (xs.drop (k + 1)) ++ rest)) := ⟨H2.out.ey.owns (frame_grown HG5.out) (fun j hj => by obtain ⟨a, ha, rfl⟩ := blk_mem hj; exact (H2.out.own.base_le a ha).1), by rw [HTK.out]; exact HO5.out⟩
      clear HO5 HG5 HS5 aX H2 HSZ
      go_wp2
      exact ⟨⟨k + 1, by omega, by simp, A', cap', rfl, H5⟩, by simp [intOf]; omega⟩
    · obtain rfl : k = n := by omega
      have HT : Hid (xs.take k = xs ∧ xs.drop k = []) := ⟨List.take_of_length_le (by have := HN.out; omega), List.drop_eq_nil_of_le (by have := HN.out; omega)⟩
      have HFIN : Hid (OwnW w.heap.size wr A cap xs ∧ Eye wr eb rest ∧ Frame [eb] w wr) := by
        have h1 := H.out.own
        have h2 := H.out.ey.eye
        rw [HT.out.1] at h1
        rw [HT.out.2] at h2
        exact ⟨h1, h2, H.out.ey.fr⟩
      go_wp2
      go_ret
      exact ⟨A, cap, rfl, HFIN.out⟩
end Go.Proofs.YtlbnlmhcpephbaaGreatDoor

namespace Go.Proofs.YtlbnlmhcpephbaaGreatDoor
open Go.RowKit
def RdF (eb : Nat) (cv : Value) (T : TypeId) (X : World → Nat → List Nat → Prop) (w : World) (e : Ending) (w' : World) : Prop :=
 RdR eb cv T X w e w' ∨ (∃ v, e = .returned (.tuple #[cv, v, .bool false]) ∧ Frame [eb] w w')
structure RgJ (w W3 W : World) (eb rb cb : Nat) (rv cv : Array Value) (A : Option Addr) (cap : Nat) (ps : List Tu) (l : List UInt8) : Prop where
 ey : EyJ w W eb l
 ra : At W rb rv 28
 ca : At W cb cv 28
 own : Tt.OwnT W3.heap.size W A cap ps
 sz : W3.heap.size ≤ W.heap.size
 ix : w.heap.size ≤ rb ∧ rb < W3.heap.size ∧ w.heap.size ≤ cb ∧ cb < W3.heap.size ∧ w.heap.size ≤ W3.heap.size
section
variable {w W3 W W' : World} {eb rb cb cap cap' : Nat} {rv cv : Array Value} {A A' : Option Addr} {ps ps' : List Tu} {l l' : List UInt8}
theorem RgJ.ge (h : RgJ w W3 W eb rb cb rv cv A cap ps l) : ∀ k ∈ blk A, W3.heap.size ≤ k := fun k hk => by
 obtain ⟨a, ha, rfl⟩ := blk_mem hk
 exact (h.own.base_le a ha).1
theorem RgJ.read (h : RgJ w W3 W eb rb cb rv cv A cap ps l) (hE : Eye W' eb l') (hF : Frame [eb] W W') : RgJ w W3 W' eb rb cb rv cv A cap ps l' := by
 have hi := h.ix
 have hlt := h.ey.lt
 refine ⟨h.ey.read hE hF, hF.at h.ra (fun hm => by simp only [List.mem_singleton] at hm; omega), hF.at h.ca (fun hm => by simp only [List.mem_singleton] at hm; omega), ownT_frame h.own hF fun k hk hm => ?_, Nat.le_trans h.sz hF.size, hi⟩
 have := h.ge k hk
 simp only [List.mem_singleton] at hm
 omega
theorem RgJ.below (h : RgJ w W3 W eb rb cb rv cv A cap ps l) (hb : Below W.heap.size W W') : RgJ w W3 W' eb rb cb rv cv A cap ps l :=
 ⟨h.ey.below hb, h.ra.below hb, h.ca.below hb, h.own.below hb, Nat.le_trans h.sz hb.size, h.ix⟩
theorem RgJ.app (h : RgJ w W3 W eb rb cb rv cv A cap ps l) (ho : Tt.OwnT W3.heap.size W' A' cap' ps') (hb : Below W3.heap.size W W') : RgJ w W3 W' eb rb cb rv cv A' cap' ps' l := by
 have hi := h.ix
 have hlt := h.ey.lt
 have hk : ∀ k, k < W3.heap.size → W'.heap[k]? = W.heap[k]? := fun k hk => hb.block k hk
 refine ⟨⟨(hk eb (by omega)).trans h.ey.eye, ⟨hb.os.trans h.ey.fr.os, hb.tape.trans h.ey.fr.tape, hb.output.trans h.ey.fr.output, Nat.le_trans h.ey.fr.size hb.size, fun j hj hn => (hk j (by omega)).trans (h.ey.fr.block j hj hn)⟩, hlt⟩, (hk rb (by omega)).trans h.ra, (hk cb (by omega)).trans h.ca, ho, Nat.le_trans h.sz hb.size, hi⟩
end
theorem GrP.small {u v : Int} {row : List Tu} {waits : List Int} {l : List (Int × Int)} (h : GrP u v row waits l) (ho : gwOk u v = true) (hs : sumP l ≤ 1000000) : ∀ t ∈ row, 1 ≤ t.2.1 ∧ 0 ≤ t.2.2 ∧ t.2.1 + t.2.2 ≤ 1000001 := by
 obtain ⟨V, hg, hl, hlen, hup, hr⟩ := h.ex
 have := limT_bd (n := V.length) ho (by omega) (by omega)
 intro t ht
 have h1 := hg.pos t ht
 have h2 := hl t ht
 omega
theorem sload_gr (u v : Int) (row : List Tu) (waits : List Int) (A B : Option Addr) (c d : Nat) (w : World) (hA : Tt.OwnT 0 w A c row) (hB : OwnW 0 w B d waits) (ho : gwOk u v = true) (hok : Tt.okT row) (hsg : 0 ≤ sg row ∧ sg row ≤ 1000000) (hl : row.length ≤ 1000000) (hw : waits.length ≤ 15) :
  Calls Tryz.prog 91 #[.agg #[.int .u64 u, .int .u64 v], .slice A row.length c, .slice B waits.length d] w fun e w' => ∃ (p : Option Addr) (f : Int), e = .returned (.tuple #[.pointer p, .int .i64 f]) ∧ Below w.heap.size w w' ∧
   ((f = 0 ∧ ∃ b R W rc wc, p = some ⟨b, 0, none⟩ ∧ w.heap.size ≤ b ∧ (∀ k ∈ blk R ++ blk W, w.heap.size ≤ k) ∧ GrAt w' b u v row waits R W rc wc (sg row + waits.length)) ∨ f ≠ 0) := by
 refine (gload_any u v row waits A B c d w hA hB ho hok hsg hl hw).mono ?_
 rintro e w' ⟨hb, ⟨b, R, W, rc, wc, rfl, h⟩ | ⟨f, hf, rfl⟩⟩
 ·exact ⟨_, _, rfl, hb, .inl ⟨rfl, b, R, W, rc, wc, rfl, h⟩⟩
 ·exact ⟨_, _, rfl, hb, .inr hf⟩
def RcW (cb : Nat) (cv : Array Value) (W : World) : Prop := At W cb cv 28
theorem RcW.at {cb : Nat} {cv : Array Value} {W : World} (h : RcW cb cv W) : At W cb cv 28 := h
set_option maxRecDepth 100000 in
set_option maxHeartbeats 4000000 in
theorem sread_gr (eb un vn : Nat) (row : List Tu) (waits : List Int) (l : List (Int × Int)) (w : World) (hE : Eye w eb (grB un vn row waits)) (hlen : (grB un vn row waits).length ≤ 400000) (hP : GrP un vn row waits l) (ho : gwOk un vn = true) (hs : sumP l ≤ 1000000) (hl : row.length ≤ 10000) (hw : waits.length ≤ 15) (hu : un ≤ 4294967296 ∧ vn ≤ 4294967296) :
    Calls Tryz.prog 70 #[.pointer (some ⟨eb, 0, none⟩)] w fun e w' => RdF eb (.agg #[.int .i64 4, .int .u64 (un : Int), .int .u64 (vn : Int), .int .i64 0, .int .i64 0, .int .i64 0, .int .u64 0, .int .i64 0, .int .i64 0, .int .i64 0, .int .u64 0]) 124 (fun W q Q => GrV 15 W q Q un vn l) w e w' := by
  have hok := hP.okT ho hs
  have hbd := hP.bdS ho hs
  have hln := hP.len hs
  have HOK := Lib.hid hok
  have HP := Lib.hid (And.intro hP (And.intro ho hs))
  have HU := Lib.hid hu
  have HBD := Lib.hid (hP.small ho hs)
  have HWR := Lib.hid hP.wr
  obtain ⟨n0, hn0⟩ : ∃ n0, waits.length = n0 := ⟨_, rfl⟩
  obtain ⟨n1, hn1⟩ : ∃ n1, row.length = n1 := ⟨_, rfl⟩
  have HN := Lib.hid (And.intro hn0 hn1)
  have hsg : sg row + (waits.length : Int) = sumP l := by
    obtain ⟨V, hg, _, hv, _⟩ := hP.ex
    have := hg.sum
    omega
  have HSG := Lib.hid hsg
  have hs0 : 0 ≤ sg row ∧ sg row ≤ 1000000 := by
    have := sg_nn hbd.pos
    omega
  have HS0 := Lib.hid hs0
  have HLD := Lib.hid fun W A B c d (h1 : Tt.OwnT 0 W A c row) (h2 : OwnW 0 W B d waits) => sload_gr un vn row waits A B c d W h1 h2 ho hok hs0 (by omega) hw
  rw [hn1, hn0] at HLD
  have hsp : grB un vn row waits = natB un ++ (natB vn ++ (natB n1 ++ (tupsB (row.drop 0) ++ (natB n0 ++ (intsB waits ++ []))))) := by
    unfold grB
    rw [hn0, hn1]
    simp [natsB]
  rw [hsp] at hE hlen
  have HTL := Lib.hid (tupsB_len hok)
  obtain ⟨r5, hr5⟩ : ∃ r, natB n0 ++ (intsB waits ++ []) = r := ⟨_, rfl⟩
  have HR5 := Lib.hid hr5
  rw [hr5] at hE hlen
  have HLEN : Hid ((tupsB (row.drop 0) ++ r5).length ≤ 400000 ∧ (natB n1 ++ (tupsB (row.drop 0) ++ r5)).length ≤ 400000 ∧ r5.length ≤ 400000) := by
    simp only [List.length_append] at hlen ⊢
    refine ⟨?_, ?_, ?_⟩ <;> omega
  have HDL : Hid (∀ k, (tupsB (row.drop k) ++ r5).length ≤ 800000) := fun k => by
    have h1 := tupsB_len (row := row.drop k) fun x hx => hok x (List.mem_of_mem_drop hx)
    have := HLEN.out.2.2
    rw [List.length_drop] at h1
    rw [List.length_append]
    omega
  have hba : Below w.heap.size w (w.alloc (.cells #[.int .i64 0, .int .u64 0, .int .u64 0, .int .i64 0, .int .i64 0, .int .i64 0, .int .u64 0, .int .i64 0, .int .i64 0, .int .i64 0, .int .u64 0] 28)) := (Below.refl _ _).alloc (Nat.le_refl _) _
  have ar := At.new w #[.int .i64 0, .int .u64 0, .int .u64 0, .int .i64 0, .int .i64 0, .int .i64 0, .int .u64 0, .int .i64 0, .int .i64 0, .int .i64 0, .int .u64 0] 28
  have J0 := (EyJ.start hE).below hba
  have hl1 : n1 ≤ 10000 := by omega
  have hl0 : n0 ≤ 15 := by omega
  clear hE hlen hsp hr5 hP ho hs hok hbd hln hsg hs0 hu hl hw hn0 hn1
  go_enter Tryz.func70, Tryz.ntmps70
  go_wp2_with fail
  obtain ⟨W0, hW0⟩ : ∃ W, w.alloc (.cells #[.int .i64 0, .int .u64 0, .int .u64 0, .int .i64 0, .int .i64 0, .int .i64 0, .int .u64 0, .int .i64 0, .int .i64 0, .int .i64 0, .int .u64 0] 28) = W := ⟨_, rfl⟩
  obtain ⟨rb, hrb⟩ : ∃ r, w.heap.size = r := ⟨_, rfl⟩
  have HRB : Hid (w.heap.size = rb) := hrb
  rw [hW0] at J0 ar
  rw [hrb] at ar
  simp only [hW0, hrb]
  have HJ0 := Lib.hid J0
  have HA0 := Lib.hid ar
  clear hW0 hrb J0 ar hba
  refine (spart_any eb un vn _ W0 HJ0.out.eye HU.out.1 HU.out.2 (by have := HLEN.out; omega)).mono ?_
  rintro e w1 ⟨rfl, hE, hF⟩
  have HJ1 := Lib.hid (HJ0.out.read hE hF)
  have HA1 := Lib.hid (HJ0.out.at HA0.out hF (by have := HRB.out; omega))
  clear hE hF HJ0 HA0
  have hbe : Below w1.heap.size w1 (w1.alloc (.cells #[.int .i64 4, .int .u64 (un : Int), .int .u64 (vn : Int), .int .i64 0, .int .i64 0, .int .i64 0, .int .u64 0, .int .i64 0, .int .i64 0, .int .i64 0, .int .u64 0] 28)) := (Below.refl _ _).alloc (Nat.le_refl _) _
  have HC2 := Lib.hid (At.new w1 #[.int .i64 4, .int .u64 (un : Int), .int .u64 (vn : Int), .int .i64 0, .int .i64 0, .int .i64 0, .int .u64 0, .int .i64 0, .int .i64 0, .int .i64 0, .int .u64 0] 28)
  have HJ2 := Lib.hid (HJ1.out.below hbe)
  have HA2 := Lib.hid (HA1.out.below hbe)
  have HZ1 : Hid (w.heap.size ≤ w1.heap.size) := HJ1.out.fr.size
  have HCA : Hid (rb < w1.heap.size) := HA1.out.lt
  clear hbe HJ1 HA1
  go_wp2_with fail
  obtain ⟨W2, hW2⟩ : ∃ W, w1.alloc (.cells #[.int .i64 4, .int .u64 (un : Int), .int .u64 (vn : Int), .int .i64 0, .int .i64 0, .int .i64 0, .int .u64 0, .int .i64 0, .int .i64 0, .int .i64 0, .int .u64 0] 28) = W := ⟨_, rfl⟩
  obtain ⟨cb, hcb⟩ : ∃ r, w1.heap.size = r := ⟨_, rfl⟩
  rw [hW2] at HJ2 HA2 HC2
  rw [hcb] at HC2 HZ1 HCA
  simp only [hW2, hcb]
  have HRG2 : Hid (RgJ w W2 W2 eb rb cb #[.int .i64 0, .int .u64 0, .int .u64 0, .int .i64 0, .int .i64 0, .int .i64 0, .int .u64 0, .int .i64 0, .int .i64 0, .int .i64 0, .int .u64 0] #[.int .i64 4, .int .u64 (un : Int), .int .u64 (vn : Int), .int .i64 0, .int .i64 0, .int .i64 0, .int .u64 0, .int .i64 0, .int .i64 0, .int .i64 0, .int .u64 0] none 0 (row.take 0) (natB n1 ++ (tupsB (row.drop 0) ++ r5))) :=
    ⟨HJ2.out, HA2.out, HC2.out, Tt.OwnT.nil _ _, Nat.le_refl _, by have := HRB.out; omega, HA2.out.lt, HZ1.out, HC2.out.lt, HJ2.out.fr.size⟩
  clear hW2 hcb HJ2 HA2 HC2
  refine (esmall_any eb n1 262144 _ W2 HRG2.out.ey.eye (by omega) (by omega) (by have := HLEN.out; omega)).mono ?_
  rintro e w3 ⟨rfl, hE, hF⟩
  have HRG3 := Lib.hid (HRG2.out.read hE hF)
  clear hE hF HRG2
  go_wp2
  go_loopw [6, 7, 15] (fun out _ i wr => ∃ k : Nat, k ≤ n1 ∧ i = .int .i64 k ∧ ∃ A cap, out = .slice A k cap ∧ Hid (RgJ w W2 wr eb rb cb #[.int .i64 0, .int .u64 0, .int .u64 0, .int .i64 0, .int .i64 0, .int .i64 0, .int .u64 0, .int .i64 0, .int .i64 0, .int .i64 0, .int .u64 0] #[.int .i64 4, .int .u64 (un : Int), .int .u64 (vn : Int), .int .i64 0, .int .i64 0, .int .i64 0, .int .u64 0, .int .i64 0, .int .i64 0, .int .i64 0, .int .u64 0] A cap (row.take k) (tupsB (row.drop k) ++ r5))) (fun _ _ i _ => n1 - (intOf i).toNat)
  case atStart => exact ⟨0, by omega, rfl, none, 0, rfl, HRG3⟩
  case round =>
    obtain ⟨k, hk, rfl, A, cap, rfl, H⟩ := hrel
    clear HRG3
    by_cases hlt : k < n1
    · have hkl : k < row.length := by have := HN.out; omega
      have HTK : Hid (row.take (k + 1) = row.take k ++ [row[k]'hkl]) := List.take_succ_eq_append_getElem hkl
      have HTLN : Hid ((row.take k).length = k) := by show _ = _; rw [List.length_take]; omega
      have HX := Lib.hid (HOK.out _ (List.getElem_mem hkl))
      have HX1 := Lib.hid (HBD.out _ (List.getElem_mem hkl))
      have HDR : Hid (tupsB (row.drop k) ++ r5 = tupB (row[k]'hkl) ++ (tupsB (row.drop (k + 1)) ++ r5)) := by
        show _ = _
        rw [List.drop_eq_getElem_cons hkl, tupsB_cons, List.append_assoc]
      obtain ⟨⟨x, s, l'⟩, hx⟩ : ∃ z, row[k]'hkl = z := ⟨_, rfl⟩
      rw [hx] at HTK HX HX1 HDR
      dsimp only at HX HX1
      obtain ⟨sn, rfl⟩ : ∃ n : Nat, s = n := ⟨s.toNat, by have := HX.out; omega⟩
      obtain ⟨ln, rfl⟩ : ∃ n : Nat, l' = n := ⟨l'.toNat, by have := HX.out; omega⟩
      have HSL : Hid (0 < sn ∧ sn ≤ 1000001 ∧ ln ≤ 1000001) := by have := HX1.out; show _ ∧ _; omega
      have HTB : tupB (x, (sn : Int), (ln : Int)) ++ (tupsB (row.drop (k + 1)) ++ r5) = natB (zigN x) ++ (natB sn ++ (natB ln ++ (tupsB (row.drop (k + 1)) ++ r5))) := by simp [tupB]
      have HXB : Hid (-9223372036854775808 ≤ x ∧ x ≤ 9223372036854775807) := HX.out.1
      rw [HDR.out, HTB] at H
      have HLR : Hid ((natB sn ++ (natB ln ++ (tupsB (row.drop (k + 1)) ++ r5))).length ≤ 800020 ∧ (natB ln ++ (tupsB (row.drop (k + 1)) ++ r5)).length ≤ 800020 ∧ (tupsB (row.drop (k + 1)) ++ r5).length ≤ 800000) := by
        have h1 := HDL.out (k + 1)
        have h2 := natB_len (u := sn) (by have := HSL.out; omega)
        have h3 := natB_len (u := ln) (by have := HSL.out; omega)
        simp only [List.length_append] at h1 ⊢
        refine ⟨?_, ?_, ?_⟩ <;> omega
      have k0 : (0 : Int) ≤ k := by omega
      have k1 : (k : Int) < n1 := by omega
      have k2 : IntKind.i64.wrap ((k : Int) + 1) = ((k + 1 : Nat) : Int) := by simp only [IntKind.wrap_i64]; omega
      clear hx hkl HX HX1 HDR HTB
      go_wp2_with fail
      refine (eint_any eb x _ wr H.out.ey.eye HXB.out.1 HXB.out.2 (by have := HLR.out; omega)).mono ?_
      rintro e w4 ⟨rfl, hE, hF⟩
      have H4 := Lib.hid (H.out.read hE hF)
      clear hE hF H
      go_wp2_with fail
      refine (ecount_any eb sn _ w4 H4.out.ey.eye HSL.out.1 (by have := HSL.out; omega) (by have := HLR.out; omega)).mono ?_
      rintro e w5 ⟨rfl, hE, hF⟩
      have H5 := Lib.hid (H4.out.read hE hF)
      clear hE hF H4
      go_wp2_with fail
      refine (enat_any eb ln 9223372036854775807 _ w5 H5.out.ey.eye (by have := HSL.out; omega) (by have := HSL.out; omega) (by have := HLR.out; omega)).mono ?_
      rintro e w6 ⟨rfl, hE, hF⟩
      have H6 := Lib.hid (H5.out.read hE hF)
      clear hE hF H5
      have hbp : Below w6.heap.size w6 (w6.alloc (.cells #[.int .i64 x, .int .u64 (sn : Int), .int .u64 (ln : Int)] 230)) := (Below.refl _ _).alloc (Nat.le_refl _) _
      have aP := At.new w6 #[.int .i64 x, .int .u64 (sn : Int), .int .u64 (ln : Int)] 230
      have H7 := Lib.hid (H6.out.below hbp)
      clear hbp H6
      go_wp2_with fail
      obtain ⟨W7, hW7⟩ : ∃ W, w6.alloc (.cells #[.int .i64 x, .int .u64 (sn : Int), .int .u64 (ln : Int)] 230) = W := ⟨_, rfl⟩
      obtain ⟨pb, hpb⟩ : ∃ r, w6.heap.size = r := ⟨_, rfl⟩
      rw [hW7] at H7 aP
      rw [hpb] at aP
      simp only [hW7, hpb]
      clear hW7 hpb
      refine (ebad_any eb _ W7 H7.out.ey.eye).mono ?_
      rintro e w8 ⟨rfl, rfl⟩
      have fP := aP.three
      have lP := aP.lt
      have hba : Below W7.heap.size W7 (W7.alloc (.cells #[.int .i64 x, .int .u64 (sn : Int), .int .u64 (ln : Int)] 230)) := (Below.refl _ _).alloc (Nat.le_refl _) _
      have H8 := Lib.hid (H7.out.below hba)
      have HN0 := Lib.hid (Tt.new_three0 (w := W7) (u0 := .int .i64 x) (u1 := .int .u64 (sn : Int)) (u2 := .int .u64 (ln : Int)) (T := 230) rfl)
      have HN1 := Lib.hid (Tt.new_three1 (w := W7) (u0 := .int .i64 x) (u1 := .int .u64 (sn : Int)) (u2 := .int .u64 (ln : Int)) (T := 230) rfl)
      have HN2 := Lib.hid (Tt.new_three2 (w := W7) (u0 := .int .i64 x) (u1 := .int .u64 (sn : Int)) (u2 := .int .u64 (ln : Int)) (T := 230) rfl)
      clear hba H7 aP
      go_wp2_with (first
        | at_builtin
          refine Tt.wpList_append_tup rfl _ _ rfl W2.heap.size A cap k (row.take k) rfl HTLN.out H8.out.own ⟨W7.heap.size, 0, none⟩ 1 (x, (sn : Int), (ln : Int)) rfl HN0.out HN1.out HN2.out (by omega) _ (Below.refl _ _) H8.out.sz ?_
          intro A' cap' w9 HO hb9
        | fail)
      have H9 : Hid (RgJ w W2 w9 eb rb cb #[.int .i64 0, .int .u64 0, .int .u64 0, .int .i64 0, .int .i64 0, .int .i64 0, .int .u64 0, .int .i64 0, .int .i64 0, .int .i64 0, .int .u64 0] #[.int .i64 4, .int .u64 (un : Int), .int .u64 (vn : Int), .int .i64 0, .int .i64 0, .int .i64 0, .int .u64 0, .int .i64 0, .int .i64 0, .int .i64 0, .int .u64 0] A' cap' (row.take (k + 1)) (tupsB (row.drop (k + 1)) ++ r5)) := by
        have h1 := HO.out
        rw [← HTK.out] at h1
        exact H8.out.app h1 hb9
      clear HO hb9 H8 HN0 HN1 HN2 fP lP
      go_wp2
      exact ⟨⟨k + 1, by omega, by simp, A', cap', rfl, H9⟩, by simp [intOf]; omega⟩
    · obtain rfl : k = n1 := by omega
      have HT : Hid (row.take k = row ∧ tupsB (row.drop k) ++ r5 = natB n0 ++ (intsB waits ++ [])) := ⟨List.take_of_length_le (by have := HN.out; omega), by rw [List.drop_eq_nil_of_le (by have := HN.out; omega), tupsB_nil, List.nil_append, HR5.out]⟩
      rw [HT.out.1, HT.out.2] at H
      have f3 := H.out.ca.el
      have l3 := H.out.ca.lt
      go_wp2
      have hbd : Below wr.heap.size wr wr.drew := (Below.refl _ _).drew
      obtain ⟨W4, hW4⟩ : ∃ W, wr.drew = W := ⟨_, rfl⟩
      rw [hW4] at hbd
      have H4 := Lib.hid (H.out.below hbd)
      have hK4 : RcW cb #[.int .i64 4, .int .u64 (un : Int), .int .u64 (vn : Int), .int .i64 0, .int .i64 0, .int .i64 0, .int .u64 0, .int .i64 0, .int .i64 0, .int .i64 0, .int .u64 0] W4 := H4.out.ca
      haveI hne : Nonempty (Held (RcW cb #[.int .i64 4, .int .u64 (un : Int), .int .u64 (vn : Int), .int .i64 0, .int .i64 0, .int .i64 0, .int .u64 0, .int .i64 0, .int .i64 0, .int .i64 0, .int .u64 0])) := ⟨⟨W4, hK4⟩⟩
      have hfar1 := fun z : Held (RcW cb #[.int .i64 4, .int .u64 (un : Int), .int .u64 (vn : Int), .int .i64 0, .int .i64 0, .int .i64 0, .int .u64 0, .int .i64 0, .int .i64 0, .int .i64 0, .int .u64 0]) => z.held.at.el
      refine wp_region_noPanic ?_
      refine wp_region_held_drew (S := HeldS (RcW cb #[.int .i64 4, .int .u64 (un : Int), .int .u64 (vn : Int), .int .i64 0, .int .i64 0, .int .i64 0, .int .u64 0, .int .i64 0, .int .i64 0, .int .i64 0, .int .u64 0])) (by kernel_rfl) (by rw [hW4]; exact HeldS.mk' hK4) (fun hHeld => ?_)
      rw [hW4] at hHeld ⊢
      clear hW4 hK4 hbd H f3 l3
      refine wpAnyH_run0 [true, true, true, true, true] 8 (by kernel_rfl) (by kernel_rfl) (fun _ _ _ _ h => h) (by kernel_rfl) hHeld ?_
      simp only [runOps_true, runOps_false, runOps_nil]
      repeat (first | go_big_quiet_skip | (go_big_quiet_want; go_big_quiet_op; go_big_quiet_on))
      refine wpQuiet_nil ?_
      clear hfar1
      refine wpAnyH_ready (rs := [5]) (by kernel_rfl) (by simp) ?_
      refine AllReadyH.cons rfl (fun K hK => ?_) AllReadyH.nil
      go_simp
      go_wp2_with (go_at_call 64; refine (esmall_any eb n0 16 _ W4 H4.out.ey.eye (by omega) (by omega) (by have h1 := HLEN.out.2.2; rw [← HR5.out, List.length_append] at h1; omega)).mono ?_; rintro e w5 ⟨rfl, hE, hF⟩)
      refine hK.out _ _ ?_ (fun hHeld => ?_)
      clear hK K
      · exact HeldS.mk' (H4.out.read hE hF).ca
      have H5 := Lib.hid (H4.out.read hE hF)
      clear hE hF H4
      refine wpAnyH_ready (rs := [6]) (by kernel_rfl) (by simp) ?_
      refine AllReadyH.cons rfl (fun K hK => ?_) AllReadyH.nil
      go_simp
      go_wp2_with (go_at_call 92; refine (sints_any eb n0 waits [] w5 H5.out.ey.eye HN.out.1 (by omega) HWR.out (by simp)).mono ?_; rintro e w6 ⟨A6, c6, rfl, hO6, hE, hF⟩)
      refine hK.out _ _ ?_ (fun hHeld => ?_)
      clear hK K
      · exact HeldS.mk' (H5.out.read hE hF).ca
      have H6 := Lib.hid (H5.out.read hE hF)
      have HO6 := Lib.hid (ownW_mono hO6 (Nat.zero_le _))
      clear hE hF H5 hO6
      refine wpAnyH_ready (rs := [7]) (by kernel_rfl) (by simp) ?_
      refine AllReadyH.cons rfl (fun K hK => ?_) AllReadyH.nil
      go_simp
      go_wp2_with (go_at_call 91; refine (HLD.out w6 A A6 cap c6 (Tt.OwnT.mono H6.out.own (Nat.zero_le _)) HO6.out).mono ?_; rintro e w7 ⟨ptr, f, rfl, hb, hcase⟩)
      refine hK.out _ _ ?_ (fun hHeld => ?_)
      clear hK K
      · exact HeldS.mk' (H6.out.below hb).ca
      have H7 := Lib.hid (H6.out.below hb)
      have HZ6 : Hid (W2.heap.size ≤ w6.heap.size) := H6.out.sz
      have HCASE := Lib.hid hcase
      clear hb hcase H6 HO6 HLD
      refine wpAnyH_run0 [false, false, false, false, false, false, false, false, true, true, true, true, true] 0 (by kernel_rfl) (by kernel_rfl) (fun _ _ _ _ h => h) (by kernel_rfl) hHeld ?_
      simp only [runOps_true, runOps_false, runOps_nil]
      repeat (first | go_big_quiet_skip | (go_big_quiet_want; go_big_quiet_op; go_big_quiet_on))
      refine wpQuiet_nil ?_
      refine wpAnyH_done (by kernel_rfl) ?_ _
      refine NoPanic.normal ?_
      clear hne hHeld
      have f7 := H7.out.ca.el
      have l7 := H7.out.ca.lt
      have g7 := H7.out.ra.el
      have m7 := H7.out.ra.lt
      have hne : rb ≠ cb := by have := HCA.out; omega
      have a10 := At.set11 H7.out.ra (.int .i64 4) (.int .u64 (un : Int)) (.int .u64 (vn : Int)) (.int .i64 0) (.int .i64 0) (.int .i64 0) (.int .u64 0) (.int .i64 0) (.int .i64 0) (.int .i64 0) (.int .u64 0)
      have hF10 := Frame.set11 w7 rb (.int .i64 4) (.int .u64 (un : Int)) (.int .u64 (vn : Int)) (.int .i64 0) (.int .i64 0) (.int .i64 0) (.int .u64 0) (.int .i64 0) (.int .i64 0) (.int .i64 0) (.int .u64 0)
      rcases HCASE.out with ⟨rfl, b, R, Wa, rc, wc, rfl, hb1, hb2, hat⟩ | hf
      · have HAT := Lib.hid hat
        have HBB := Lib.hid (And.intro hb1 hb2)
        clear hat hb1 hb2 HCASE
        go_wp2
        generalize (((((((((((w7.setCell ⟨rb, 0, none⟩ (.int .i64 4)).setCell ⟨rb, 1, none⟩ (.int .u64 (un : Int))).setCell ⟨rb, 2, none⟩ (.int .u64 (vn : Int))).setCell ⟨rb, 3, none⟩ (.int .i64 0)).setCell ⟨rb, 4, none⟩ (.int .i64 0)).setCell ⟨rb, 5, none⟩ (.int .i64 0)).setCell ⟨rb, 6, none⟩ (.int .u64 0)).setCell ⟨rb, 7, none⟩ (.int .i64 0)).setCell ⟨rb, 8, none⟩ (.int .i64 0)).setCell ⟨rb, 9, none⟩ (.int .i64 0)).setCell ⟨rb, 10, none⟩ (.int .u64 0)) = W10 at a10 hF10 ⊢
        have d2 := a10.el
        have HJF := Lib.hid (H7.out.ey.own hF10 (by have := HRB.out; omega))
        have HFIN : Hid (RdF eb (.agg #[.int .i64 4, .int .u64 (un : Int), .int .u64 (vn : Int), .int .i64 0, .int .i64 0, .int .i64 0, .int .u64 0, .int .i64 0, .int .i64 0, .int .i64 0, .int .u64 0]) 124 (fun W q Q => GrV 15 W q Q un vn l) w (.returned (.tuple #[.agg #[.int .i64 4, .int .u64 (un : Int), .int .u64 (vn : Int), .int .i64 0, .int .i64 0, .int .i64 0, .int .u64 0, .int .i64 0, .int .i64 0, .int .i64 0, .int .u64 0], .iface 124 (.agg #[.pointer (some ⟨b, 0, none⟩)]), .bool true])) W10) := by
          have hix := H7.out.ix
          have hge : ∀ j ∈ b :: (blk R ++ blk Wa), W2.heap.size ≤ j := fun j hj => by
            have h6 := HZ6.out
            have hbb := HBB.out
            rcases List.mem_cons.1 hj with rfl | h1
            · omega
            · have := hbb.2 j h1; omega
          have hV : GrV 15 w7 b (b :: (blk R ++ blk Wa)) un vn l := ⟨row, waits, R, Wa, rc, wc, rfl, by rw [← HSG.out, HN.out.1]; exact HAT.out, HP.out.1, by rw [HN.out.1]; exact hl0, HP.out.2.1⟩
          refine .inl ⟨b, b :: (blk R ++ blk Wa), rfl, fun j hj => ⟨?_, Nat.lt_of_lt_of_le (hV.lt.1 j hj) hF10.size⟩, hV.frame hF10 fun j hj hm => ?_, HJF.out.eye, HJF.out.fr⟩
          · have := hge j hj; omega
          · rw [List.mem_singleton] at hm
            have := hge j hj; omega
        exact bodyPost_ret (v := .tuple #[.agg #[.int .i64 4, .int .u64 (un : Int), .int .u64 (vn : Int), .int .i64 0, .int .i64 0, .int .i64 0, .int .u64 0, .int .i64 0, .int .i64 0, .int .i64 0, .int .u64 0], .iface 124 (.agg #[.pointer (some ⟨b, 0, none⟩)]), .bool true]) (by simp only [results, Tryz.f70]; simp [go_sem, d2]) rfl HFIN.out
      · have hfz : (f == 0) = false := beq_eq_false_iff_ne.2 hf
        clear hf HCASE
        go_wp2
        generalize (((((((((((w7.setCell ⟨rb, 0, none⟩ (.int .i64 4)).setCell ⟨rb, 1, none⟩ (.int .u64 (un : Int))).setCell ⟨rb, 2, none⟩ (.int .u64 (vn : Int))).setCell ⟨rb, 3, none⟩ (.int .i64 0)).setCell ⟨rb, 4, none⟩ (.int .i64 0)).setCell ⟨rb, 5, none⟩ (.int .i64 0)).setCell ⟨rb, 6, none⟩ (.int .u64 0)).setCell ⟨rb, 7, none⟩ (.int .i64 0)).setCell ⟨rb, 8, none⟩ (.int .i64 0)).setCell ⟨rb, 9, none⟩ (.int .i64 0)).setCell ⟨rb, 10, none⟩ (.int .u64 0)) = W10 at a10 hF10 ⊢
        have d2 := a10.el
        have HJF := Lib.hid (H7.out.ey.own hF10 (by have := HRB.out; omega))
        exact bodyPost_ret (v := .tuple #[.agg #[.int .i64 4, .int .u64 (un : Int), .int .u64 (vn : Int), .int .i64 0, .int .i64 0, .int .i64 0, .int .u64 0, .int .i64 0, .int .i64 0, .int .i64 0, .int .u64 0], .iface 124 (.agg #[.pointer ptr]), .bool false]) (by simp only [results, Tryz.f70]; simp [go_sem, d2]) rfl (.inr ⟨_, rfl, HJF.out.fr⟩)
end Go.Proofs.YtlbnlmhcpephbaaGreatDoor

namespace Go.Proofs.YtlbnlmhcpephbaaGreatDoor
open Go.RowKit
theorem nats_ne (a : Nat) (l : List Nat) (r : List UInt8) : natsB (a :: l) ++ r ≠ [] := by
 intro h
 have h1 : (natsB (a :: l)).length = 0 := by
  have := congrArg List.length h
  rw [List.length_append] at this
  simp only [List.length_nil] at this
  omega
 have h2 : natB a = [] := by
  unfold natsB at h1
  simp only [List.flatMap_cons, List.length_append] at h1
  exact List.eq_nil_of_length_eq_zero (by omega)
 obtain ⟨c, hc, _, hcase⟩ := natB_cons a
 rcases hcase with ⟨_, _, _, h⟩ | ⟨_, _, h⟩ <;> (rw [h] at h2; simp at h2)
section
variable {c : Cfg}
end
def CodeR (Sk : SkT) (l : List (Int × Int)) (w : World) (e : Ending) (w' : World) : Prop := ∃ (st : ByteArray) (f : Int), e = .returned (.tuple #[.string st, .int .i64 f]) ∧ Below w.heap.size w w' ∧
  ∀ W, TensAt W → Calls Tryz.prog 38 #[.string st] W (NewSk Sk l W)
end Go.Proofs.YtlbnlmhcpephbaaGreatDoor

namespace Go.Proofs.YtlbnlmhcpephbaaGreatDoor
open Go.RowKit
set_option maxRecDepth 100000 in
set_option maxHeartbeats 1000000 in
theorem sreads_gr (eb : Nat) (kd pn pd sd mo dg li de fa wi wo : Int) (T : TypeId) (X : World → Nat → List Nat → Prop) (hX : ∀ W W' q Q S, X W q Q → Frame S W W' → Apart Q S → X W' q Q) (w : World) (hlt : eb < w.heap.size)
  (hR : ∀ W, Below w.heap.size w W → Calls Tryz.prog 70 #[.pointer (some ⟨eb, 0, none⟩)] W fun e w' => RdF eb (.agg #[.int .i64 kd, .int .u64 pn, .int .u64 pd, .int .i64 sd, .int .i64 mo, .int .i64 dg, .int .u64 li, .int .i64 de, .int .i64 fa, .int .i64 wi, .int .u64 wo]) T X W e w') :
  Calls Tryz.prog 50 #[.int .i64 4, .pointer (some ⟨eb, 0, none⟩)] w fun e w' => RdF eb (.agg #[.int .i64 kd, .int .u64 pn, .int .u64 pd, .int .i64 sd, .int .i64 mo, .int .i64 dg, .int .u64 li, .int .i64 de, .int .i64 fa, .int .i64 wi, .int .u64 wo]) T X w e w' := by
 have hba : Below w.heap.size w (w.alloc (.cells #[.int .i64 0, .int .u64 0, .int .u64 0, .int .i64 0, .int .i64 0, .int .i64 0, .int .u64 0, .int .i64 0, .int .i64 0, .int .i64 0, .int .u64 0] 28)) := (Below.refl _ _).alloc (Nat.le_refl _) _
 have ar := At.new w #[.int .i64 0, .int .u64 0, .int .u64 0, .int .i64 0, .int .i64 0, .int .i64 0, .int .u64 0, .int .i64 0, .int .i64 0, .int .i64 0, .int .u64 0] 28
 have HR := Lib.hid hR
 have HX := Lib.hid hX
 have HLT := Lib.hid hlt
 clear hR hX hlt
 go_enter Tryz.func50, Tryz.ntmps50
 go_wp2_with fail
 obtain ⟨W0, hW0⟩ : ∃ W, w.alloc (.cells #[.int .i64 0, .int .u64 0, .int .u64 0, .int .i64 0, .int .i64 0, .int .i64 0, .int .u64 0, .int .i64 0, .int .i64 0, .int .i64 0, .int .u64 0] 28) = W := ⟨_, rfl⟩
 obtain ⟨rb, hrb⟩ : ∃ r, w.heap.size = r := ⟨_, rfl⟩
 have HRB : Hid (w.heap.size = rb) := hrb
 rw [hW0] at hba ar
 rw [hrb] at ar
 simp only [hW0, hrb]
 have HBA := Lib.hid hba
 have HA0 := Lib.hid ar
 clear hW0 hrb hba ar
 refine (HR.out W0 HBA.out).mono ?_
 rintro e w2 (⟨q, Q, rfl, hQ, hx, hE, hF⟩ | ⟨v, rfl, hF⟩)
 rotate_left
 ·have HF : Hid (Frame [eb] w w2) := (Frame.of_below HBA.out).trans hF
  have HA2 := Lib.hid (hF.at HA0.out (by simp only [List.mem_singleton]; have := HRB.out; have := HLT.out; omega))
  clear hF HA0 HR
  have g9 := HA2.out.el
  have m9 := HA2.out.lt
  go_wp2
  have a10 := At.set11 HA2.out (.int .i64 kd) (.int .u64 pn) (.int .u64 pd) (.int .i64 sd) (.int .i64 mo) (.int .i64 dg) (.int .u64 li) (.int .i64 de) (.int .i64 fa) (.int .i64 wi) (.int .u64 wo)
  have hF10 := Frame.set11 w2 rb (.int .i64 kd) (.int .u64 pn) (.int .u64 pd) (.int .i64 sd) (.int .i64 mo) (.int .i64 dg) (.int .u64 li) (.int .i64 de) (.int .i64 fa) (.int .i64 wi) (.int .u64 wo)
  generalize (((((((((((w2.setCell ⟨rb, 0, none⟩ (.int .i64 kd)).setCell ⟨rb, 1, none⟩ (.int .u64 pn)).setCell ⟨rb, 2, none⟩ (.int .u64 pd)).setCell ⟨rb, 3, none⟩ (.int .i64 sd)).setCell ⟨rb, 4, none⟩ (.int .i64 mo)).setCell ⟨rb, 5, none⟩ (.int .i64 dg)).setCell ⟨rb, 6, none⟩ (.int .u64 li)).setCell ⟨rb, 7, none⟩ (.int .i64 de)).setCell ⟨rb, 8, none⟩ (.int .i64 fa)).setCell ⟨rb, 9, none⟩ (.int .i64 wi)).setCell ⟨rb, 10, none⟩ (.int .u64 wo)) = W10 at a10 hF10 ⊢
  have d2 := a10.el
  have hFF : Frame [eb] w W10 := ⟨hF10.os.trans HF.out.os, hF10.tape.trans HF.out.tape, hF10.output.trans HF.out.output, Nat.le_trans HF.out.size hF10.size, fun j hj hn => (hF10.block j (Nat.lt_of_lt_of_le hj HF.out.size) (by simp only [List.mem_singleton]; have := HRB.out; omega)).trans (HF.out.block j hj hn)⟩
  exact bodyPost_ret (v := .tuple #[.agg #[.int .i64 kd, .int .u64 pn, .int .u64 pd, .int .i64 sd, .int .i64 mo, .int .i64 dg, .int .u64 li, .int .i64 de, .int .i64 fa, .int .i64 wi, .int .u64 wo], v, .bool false]) (by simp only [results, Tryz.f50]; simp [go_sem, d2]) rfl (.inr ⟨v, rfl, hFF⟩)
 have HQ := Lib.hid hQ
 have HXX := Lib.hid hx
 have HE := Lib.hid hE
 have HF : Hid (Frame [eb] w w2) := (Frame.of_below HBA.out).trans hF
 have HA2 := Lib.hid (hF.at HA0.out (by simp only [List.mem_singleton]; have := HRB.out; have := HLT.out; omega))
 have HQL : Hid (rb < W0.heap.size) := HA0.out.lt
 clear hQ hx hE hF HA0 HR
 have g9 := HA2.out.el
 have m9 := HA2.out.lt
 go_wp2
 have a10 := At.set11 HA2.out (.int .i64 kd) (.int .u64 pn) (.int .u64 pd) (.int .i64 sd) (.int .i64 mo) (.int .i64 dg) (.int .u64 li) (.int .i64 de) (.int .i64 fa) (.int .i64 wi) (.int .u64 wo)
 have hF10 := Frame.set11 w2 rb (.int .i64 kd) (.int .u64 pn) (.int .u64 pd) (.int .i64 sd) (.int .i64 mo) (.int .i64 dg) (.int .u64 li) (.int .i64 de) (.int .i64 fa) (.int .i64 wi) (.int .u64 wo)
 generalize (((((((((((w2.setCell ⟨rb, 0, none⟩ (.int .i64 kd)).setCell ⟨rb, 1, none⟩ (.int .u64 pn)).setCell ⟨rb, 2, none⟩ (.int .u64 pd)).setCell ⟨rb, 3, none⟩ (.int .i64 sd)).setCell ⟨rb, 4, none⟩ (.int .i64 mo)).setCell ⟨rb, 5, none⟩ (.int .i64 dg)).setCell ⟨rb, 6, none⟩ (.int .u64 li)).setCell ⟨rb, 7, none⟩ (.int .i64 de)).setCell ⟨rb, 8, none⟩ (.int .i64 fa)).setCell ⟨rb, 9, none⟩ (.int .i64 wi)).setCell ⟨rb, 10, none⟩ (.int .u64 wo)) = W10 at a10 hF10 ⊢
 have d2 := a10.el
 have hQ0 : Within Q w.heap.size W10.heap.size := fun j hj => ⟨Nat.le_trans HBA.out.size (HQ.out j hj).1, Nat.lt_of_lt_of_le (HQ.out j hj).2 hF10.size⟩
 have hx10 : X W10 q Q := HX.out _ _ _ _ _ HXX.out hF10 (fun j hj hm => by simp only [List.mem_singleton] at hm; subst hm; have := (HQ.out j hj).1; have := HQL.out; omega)
 have hE10 : Eye W10 eb [] := HE.out.frame hF10 (by simp only [List.mem_singleton]; have := HRB.out; have := HLT.out; omega)
 have hFF : Frame [eb] w W10 := ⟨hF10.os.trans HF.out.os, hF10.tape.trans HF.out.tape, hF10.output.trans HF.out.output, Nat.le_trans HF.out.size hF10.size, fun j hj hn => (hF10.block j (Nat.lt_of_lt_of_le hj HF.out.size) (by simp only [List.mem_singleton]; have := HRB.out; omega)).trans (HF.out.block j hj hn)⟩
 exact bodyPost_ret (v := .tuple #[.agg #[.int .i64 kd, .int .u64 pn, .int .u64 pd, .int .i64 sd, .int .i64 mo, .int .i64 dg, .int .u64 li, .int .i64 de, .int .i64 fa, .int .i64 wi, .int .u64 wo], .iface T (.agg #[.pointer (some ⟨q, 0, none⟩)]), .bool true]) (by simp only [results, Tryz.f50]; simp [go_sem, d2]) rfl (.inl ⟨q, Q, rfl, hQ0, hx10, hE10, hFF⟩)
set_option maxRecDepth 100000 in
set_option maxHeartbeats 1000000 in
theorem sdecode_or (kn : Nat) (load : List UInt8) (kd pn pd sd mo dg li de fa wi wo : Int) (T : TypeId) (X : World → Nat → List Nat → Prop) (hX : ∀ W W' q Q S, X W q Q → Frame S W W' → Apart Q S → X W' q Q) (w : World) (hT : TensAt w) (hk : kn < 256) (hl : load.length ≤ 262144)
  (hR : ∀ W eb, TensAt W → Eye W eb load → Calls Tryz.prog 50 #[.int .i64 (kn : Int), .pointer (some ⟨eb, 0, none⟩)] W fun e w' => RdF eb (.agg #[.int .i64 kd, .int .u64 pn, .int .u64 pd, .int .i64 sd, .int .i64 mo, .int .i64 dg, .int .u64 li, .int .i64 de, .int .i64 fa, .int .i64 wi, .int .u64 wo]) T X W e w') :
  Calls Tryz.prog 38 #[.string (txt (frameY kn load))] w fun e w' => DecR kd pn pd sd mo dg li de fa wi wo T X w e w' ∨ ((∃ f : Int, f ≠ 0 ∧ e = .returned (.tuple #[.pointer none, .int .i64 f])) ∧ Below w.heap.size w w') := by
 have HR := Lib.hid hR
 have HX := Lib.hid hX
 have HT := Lib.hid hT
 have HO := Lib.hid (fopen_any kn load w hk hl)
 have hcv : IntKind.i64.wrap (kn : Int) = (kn : Int) := by simp only [IntKind.wrap_i64]; omega
 obtain ⟨st, hst⟩ : ∃ s, txt (frameY kn load) = s := ⟨_, rfl⟩
 rw [hst] at HO ⊢
 clear hst hR hX hT hk hl
 go_enter Tryz.func38, Tryz.ntmps38
 go_wp2_with fail
 refine HO.out.mono ?_
 rintro e w1 ⟨rfl, hb⟩
 have HB1 := Lib.hid hb
 clear hb HO
 go_wp2_with fail
 refine (eon_any load w1).mono ?_
 rintro e w2 ⟨rfl, hE, hb⟩
 have HB2 := Lib.hid (keep1 HB1.out hb)
 have HB12 := Lib.hid hb
 have HE2 := Lib.hid hE
 have HR2 := Lib.hid (HR.out w2 _ (HT.out.below HB2.out) hE)
 have HSZ : Hid (w.heap.size ≤ w1.heap.size) := HB1.out.size
 obtain ⟨eb, heb⟩ : ∃ r, w1.heap.size = r := ⟨_, rfl⟩
 rw [heb] at HE2 HR2 HSZ
 simp only [heb]
 clear hb hE HR heb
 go_wp2_with fail
 refine HR2.out.mono ?_
 rintro e w3 (⟨q, Q, rfl, hQ, hx, hE, hF⟩ | ⟨v, rfl, hF⟩)
 rotate_left
 ·have HB3 : Hid (Below w.heap.size w (w3.alloc (.cells #[.int .i64 kd, .int .u64 pn, .int .u64 pd, .int .i64 sd, .int .i64 mo, .int .i64 dg, .int .u64 li, .int .i64 de, .int .i64 fa, .int .i64 wi, .int .u64 wo] 28))) := keep1 (hF.below HB2.out HB2.out.size (fun k hk => by simp only [List.mem_singleton] at hk; subst hk; exact HSZ.out)) ((Below.refl _ _).alloc (Nat.le_refl _) _)
  clear hF HR2 HE2
  go_wp2
  go_ret2
  exact .inr ⟨⟨4, by omega, rfl⟩, HB3.out⟩
 have HB3 : Hid (Below w.heap.size w w3) := hF.below HB2.out HB2.out.size (fun k hk => by simp only [List.mem_singleton] at hk; subst hk; exact HSZ.out)
 have hbe : Below w3.heap.size w3 (w3.alloc (.cells #[.int .i64 kd, .int .u64 pn, .int .u64 pd, .int .i64 sd, .int .i64 mo, .int .i64 dg, .int .u64 li, .int .i64 de, .int .i64 fa, .int .i64 wi, .int .u64 wo] 28)) := (Below.refl _ _).alloc (Nat.le_refl _) _
 have HQ4 : Hid (Within Q w.heap.size (w3.alloc (.cells #[.int .i64 kd, .int .u64 pn, .int .u64 pd, .int .i64 sd, .int .i64 mo, .int .i64 dg, .int .u64 li, .int .i64 de, .int .i64 fa, .int .i64 wi, .int .u64 wo] 28)).heap.size) := fun j hj => ⟨Nat.le_trans HB2.out.size (hQ j hj).1, Nat.lt_of_lt_of_le (hQ j hj).2 hbe.size⟩
 have HX4 := Lib.hid (HX.out _ _ _ _ [] hx (Frame.of_below hbe) (fun _ _ => by simp))
 have HE4 := Lib.hid (hE.below hbe)
 have HC4 := Lib.hid (At.new w3 #[.int .i64 kd, .int .u64 pn, .int .u64 pd, .int .i64 sd, .int .i64 mo, .int .i64 dg, .int .u64 li, .int .i64 de, .int .i64 fa, .int .i64 wi, .int .u64 wo] 28)
 have HB4 := Lib.hid (keep1 HB3.out hbe)
 clear hQ hx hE hF hbe HR2 HE2
 go_wp2_with fail
 obtain ⟨W4, hW4⟩ : ∃ W, w3.alloc (.cells #[.int .i64 kd, .int .u64 pn, .int .u64 pd, .int .i64 sd, .int .i64 mo, .int .i64 dg, .int .u64 li, .int .i64 de, .int .i64 fa, .int .i64 wi, .int .u64 wo] 28) = W := ⟨_, rfl⟩
 obtain ⟨cb, hcb⟩ : ∃ r, w3.heap.size = r := ⟨_, rfl⟩
 rw [hW4] at HQ4 HX4 HE4 HC4 HB4
 rw [hcb] at HC4
 simp only [hW4, hcb]
 clear hW4 hcb
 refine (eover_any eb W4 HE4.out).mono ?_
 rintro e w5 ⟨rfl, rfl⟩
 have f4 := HC4.out.el
 have l4 := HC4.out.lt
 have hbe : Below W4.heap.size W4 (W4.alloc (.cells #[.int .i64 kd, .int .u64 pn, .int .u64 pd, .int .i64 sd, .int .i64 mo, .int .i64 dg, .int .u64 li, .int .i64 de, .int .i64 fa, .int .i64 wi, .int .u64 wo, .iface T (.agg #[.pointer (some ⟨q, 0, none⟩)])] 79)) := (Below.refl _ _).alloc (Nat.le_refl _) _
 have HFIN : Hid (DecR kd pn pd sd mo dg li de fa wi wo T X w (.returned (.tuple #[.pointer (some ⟨W4.heap.size, 0, none⟩), .int .i64 0])) (W4.alloc (.cells #[.int .i64 kd, .int .u64 pn, .int .u64 pd, .int .i64 sd, .int .i64 mo, .int .i64 dg, .int .u64 li, .int .i64 de, .int .i64 fa, .int .i64 wi, .int .u64 wo, .iface T (.agg #[.pointer (some ⟨q, 0, none⟩)])] 79))) := by
  refine ⟨⟨_, q, Q, rfl, fun j hj => ?_, fun hm => by have := (HQ4.out _ hm).2; omega, At.new _ _ _, HX.out _ _ _ _ [] HX4.out (Frame.of_below hbe) (fun _ _ => by simp)⟩, keep1 HB4.out hbe⟩
  rcases List.mem_cons.1 hj with rfl | hj
  ·exact ⟨HB4.out.size, by simp⟩
  ·exact ⟨(HQ4.out j hj).1, Nat.lt_of_lt_of_le (HQ4.out j hj).2 hbe.size⟩
 clear hbe
 go_wp2
 go_ret2
 exact .inl HFIN.out
theorem grB_len {un vn : Nat} {row : List Tu} {waits : List Int} (hu : un < 18446744073709551616 ∧ vn < 18446744073709551616) (hl : row.length ≤ 7300) (hw : waits.length ≤ 15) (hok : Tt.okT row) (hwr : ∀ x ∈ waits, -9223372036854775808 ≤ x ∧ x ≤ 9223372036854775807) : (grB un vn row waits).length ≤ 262144 := by
 have h1 := natsB_len (l := [un, vn, row.length]) fun u hu' => by simp only [List.mem_cons, List.not_mem_nil, or_false] at hu'; omega
 have h2 := tupsB_len hok
 have h3 := natsB_len (l := [waits.length]) fun u hu' => by simp only [List.mem_cons, List.not_mem_nil, or_false] at hu'; omega
 have h4 := intsB_len (l := waits) hwr
 unfold grB
 simp only [List.length_append, List.length_cons, List.length_nil] at h1 h3 ⊢
 omega
theorem code_gr (pn pd : Int) (b : Nat) (S : List Nat) (l : List (Int × Int)) (w : World) (h : SkG pn pd w b S l) (hv : LOk l) :
  Calls Tryz.prog 52 #[.pointer (some ⟨b, 0, none⟩)] w (CodeR (SkG pn pd) l w) := by
 obtain ⟨q, Q, rfl, hb, ha, h⟩ := h
 have hs := hv.sum
 have hQ := h.lt
 have hgw : gwOk pn pd = true := by obtain ⟨_, _, _, _, _, _, _, _, _, _, h⟩ := h; exact h
 obtain ⟨u1, u2, u3⟩ := gwOk_bd hgw
 obtain ⟨un, rfl⟩ : ∃ n : Nat, pn = n := ⟨pn.toNat, by omega⟩
 obtain ⟨vn, rfl⟩ : ∃ n : Nat, pd = n := ⟨pd.toNat, by omega⟩
 obtain ⟨row, waits, R, Wa, rc, wc, rfl, hat, hgp, hw, _⟩ := h
 have hln := hgp.len (by omega)
 have hok := hgp.okT hgw (by omega)
 obtain ⟨load, hload⟩ : ∃ r, grB un vn row waits = r := ⟨_, rfl⟩
 have hlen : load.length ≤ 262144 := by
  rw [← hload]
  exact grB_len (by omega) (by omega) hw hok hgp.wr
 have hne : load ≠ [] := by
  rw [← hload]
  unfold grB
  simp only [List.append_assoc]
  exact nats_ne _ _ _
 refine (sencode_at b 4 124 _ _ load _ _ _ _ _ _ _ _ _ _ w ha (mgWrite q) hlen hne (by omega) fun W qb hW hq hqb => ?_).mono fun e w' h => ?_
 ·rw [← hload]
  exact swrite_gr q qb un vn row waits R Wa rc wc (sumP l) W (hat.below hW) hq (by have := hat.box.lt; omega) (by omega) (by omega) hw hok hgp.wr
 ·refine ⟨_, 0, h.1, h.2, fun W hT => ?_⟩
  refine (sdecode_or 4 load 4 un vn 0 0 0 0 0 0 0 0 124 (fun W q Q => GrV 15 W q Q un vn l) (fun W W' q Q S hx hF hn => hx.frame hF hn) W hT (by omega) hlen fun W' eb hT' hE => ?_).mono fun e' w'' hD => ?_
  ·refine sreads_gr eb 4 un vn 0 0 0 0 0 0 0 0 _ _ (fun W W' q Q S hx hF hn => hx.frame hF hn) W' (At.lt hE) fun W2 hb2 => ?_
   have hE2 := hE.below hb2
   rw [← hload] at hE2 hlen
   exact sread_gr eb un vn row waits l W2 hE2 (by omega) hgp hgw (by omega) (by omega) hw (by omega)
  ·rcases hD with ⟨⟨b', q', Q', h1, h2, h3, h4, h5⟩, h6⟩ | ⟨⟨f, hf, he⟩, h6⟩
   ·exact ⟨.inl ⟨b', b' :: Q', h1, h2, q', Q', rfl, h3, h4, h5⟩, h6⟩
   ·exact ⟨.inr ⟨f, hf, he⟩, h6⟩
theorem kind_gr (pn pd : Int) (hv : 0 ≤ pd ∧ pd < 18446744073709551616) : KindC (Cfg.mk 4 pn pd 0 0 0 0 0 0 0 0) (SkG pn pd) where
 frame h hF hn := SkG.frame h hF hn
 lt h := SkG.lt h
 mem h := SkG.mem h
 new w _ := sknew_gr pn pd w hv
 put b S l x n w h hl _ hx hn := sput_gr pn pd b S l x n w h hx hn (by have := hl.sum; omega)
 code b S l w h hl := code_gr pn pd b S l w h hl
 join b o S T l l' w h h' ap hl := sjn_gr pn pd b o S T l l' w h h' ap (by have := hl.left.sum; have := hl.right.sum; omega) (by have := hl.left.sum; omega) (by have := hl.right.sum; omega)
end Go.Proofs.YtlbnlmhcpephbaaGreatDoor

namespace Go.Proofs.YtlbnlmhcpephbaaGreatDoor
open Go.RowKit
set_option maxRecDepth 100000 in
set_option maxHeartbeats 1000000 in
theorem sfresh_one (w : World) (hT : TensAt w) :
  Calls Tryz.prog 37 #[.agg #[.int .i64 2, .int .u64 0, .int .u64 0, .int .i64 0, .int .i64 0, .int .i64 1, .int .u64 0, .int .i64 0, .int .i64 0, .int .i64 0, .int .u64 0]] w fun e w' => (∃ q Q, e = .returned (.tuple #[coreHdr (some ⟨q, 0, none⟩), .int .i64 0]) ∧ Within Q w.heap.size w'.heap.size ∧ Hh.HdV w' q Q 1 0 []) ∧ Below w.heap.size w w' := by
 have hba : Below w.heap.size w (w.alloc (.cells #[.int .i64 2, .int .u64 0, .int .u64 0, .int .i64 0, .int .i64 0, .int .i64 1, .int .u64 0, .int .i64 0, .int .i64 0, .int .i64 0, .int .u64 0] 28)) := (Below.refl _ _).alloc (Nat.le_refl _) _
 have f1 := (At.new w #[.int .i64 2, .int .u64 0, .int .u64 0, .int .i64 0, .int .i64 0, .int .i64 1, .int .u64 0, .int .i64 0, .int .i64 0, .int .i64 0, .int .u64 0] 28).el
 have l1 := (At.new w #[.int .i64 2, .int .u64 0, .int .u64 0, .int .i64 0, .int .i64 0, .int .i64 1, .int .u64 0, .int .i64 0, .int .i64 0, .int .i64 0, .int .u64 0] 28).lt
 have HT := Lib.hid hT
 clear hT
 go_enter Tryz.func37, Tryz.ntmps37
 go_wp2_with fail
 obtain ⟨W1, hW1⟩ : ∃ W, w.alloc (.cells #[.int .i64 2, .int .u64 0, .int .u64 0, .int .i64 0, .int .i64 0, .int .i64 1, .int .u64 0, .int .i64 0, .int .i64 0, .int .i64 0, .int .u64 0] 28) = W := ⟨_, rfl⟩
 rw [hW1] at hba
 simp only [hW1]
 have HBA := Lib.hid hba
 clear hW1 f1 l1 hba
 refine (Hh.hnew_any 1 0 W1 (HT.out.below HBA.out) (by omega) (by omega) (by omega) (by omega)).mono ?_
 rintro e w1 ⟨⟨q, Q, rfl, hW, hH⟩, hb⟩
 have HR : Hid (Within Q w.heap.size w1.heap.size) := fun j hj => ⟨by have := (hW j hj).1; have := HBA.out.size; omega, (hW j hj).2⟩
 have HH := Lib.hid (hdv_nil hH)
 have HB := Lib.hid (keep1 HBA.out hb)
 clear hW hH hb HBA
 go_wp2
 go_ret2
 exact ⟨⟨q, Q, rfl, HR.out, HH.out⟩, HB.out⟩
set_option maxRecDepth 100000 in
set_option maxHeartbeats 1000000 in
theorem sknew_one (w : World) (hT : TensAt w) :
  Calls Tryz.prog 25 #[.agg #[.int .i64 2, .int .u64 0, .int .u64 0, .int .i64 0, .int .i64 0, .int .i64 1, .int .u64 0, .int .i64 0, .int .i64 0, .int .i64 0, .int .u64 0]] w fun e w' => (∃ b S, e = .returned (.tuple #[.pointer (some ⟨b, 0, none⟩), .int .i64 0]) ∧ Within S w.heap.size w'.heap.size ∧ SkV w' b S (Cfg.mk 2 0 0 0 0 1 0 0 0 0 0) []) ∧ Below w.heap.size w w' := by
 have HBR : Hid (∀ W, Calls Tryz.prog 36 #[.agg #[.int .i64 2, .int .u64 0, .int .u64 0, .int .i64 0, .int .i64 0, .int .i64 1, .int .u64 0, .int .i64 0, .int .i64 0, .int .i64 0, .int .u64 0]] W fun e w' => e = .returned (.agg #[.int .i64 2, .int .u64 0, .int .u64 0, .int .i64 0, .int .i64 0, .int .i64 1, .int .u64 0, .int .i64 0, .int .i64 0, .int .i64 0, .int .u64 0]) ∧ Below W.heap.size W w') := fun W => sbare_any (Cfg.mk 2 0 0 0 0 1 0 0 0 0 0) W (.inr rfl)
 have HFR := Lib.hid fun W (hb : Below w.heap.size w W) => sfresh_one W (hT.below hb)
 have hba : Below w.heap.size w (w.alloc (.cells #[.int .i64 2, .int .u64 0, .int .u64 0, .int .i64 0, .int .i64 0, .int .i64 1, .int .u64 0, .int .i64 0, .int .i64 0, .int .i64 0, .int .u64 0] 28)) := (Below.refl _ _).alloc (Nat.le_refl _) _
 have s0 := At.new w #[.int .i64 2, .int .u64 0, .int .u64 0, .int .i64 0, .int .i64 0, .int .i64 1, .int .u64 0, .int .i64 0, .int .i64 0, .int .i64 0, .int .u64 0] 28
 clear hT
 go_enter Tryz.func25, Tryz.ntmps25
 go_wp2_with fail
 obtain ⟨W1, hW1⟩ : ∃ W, w.alloc (.cells #[.int .i64 2, .int .u64 0, .int .u64 0, .int .i64 0, .int .i64 0, .int .i64 1, .int .u64 0, .int .i64 0, .int .i64 0, .int .i64 0, .int .u64 0] 28) = W := ⟨_, rfl⟩
 obtain ⟨cb, hcb⟩ : ∃ r, w.heap.size = r := ⟨_, rfl⟩
 have HCB := Lib.hid hcb
 rw [hW1] at hba s0
 rw [hcb] at s0
 simp only [hW1, hcb]
 clear hW1 hcb
 have hfar1 := fun x : Far W1 => (x.at s0).el
 refine wp_region_far (by kernel_rfl) (by kernel_rfl) ?_
 repeat (first | go_big_quiet_skip | (go_big_quiet_want; go_big_quiet_op; first | go_big_quiet_on | (apply Exists.intro; refine ⟨fun _ => ?_, ?_⟩; (focus (first | (with_reducible refine far_of (HBR.out _)))); go_big_quiet_on)))
 refine wpQuiet_nil ?_
 rintro _ ⟨xq, rfl⟩
 clear hfar1
 have hbf := xq.below
 obtain ⟨W2, hW2⟩ : ∃ W, xq.far = W := ⟨_, rfl⟩
 rw [hW2] at hbf ⊢
 have s2 := s0.below hbf
 have f2 := s2.el
 have l2 := s2.lt
 have HB2 := Lib.hid (keep1 hba hbf)
 clear hba hbf hW2 s0
 go_wp2_with fail
 refine (HFR.out W2 HB2.out).mono ?_
 rintro e w3 ⟨⟨q, Q, rfl, hW, hL⟩, hb⟩
 unfold coreHdr
 have HB3 := Lib.hid (keep1 HB2.out hb)
 have s3 := s2.below hb
 have f3 := s3.el
 have l3 := s3.lt
 have HLT : Hid (∀ j ∈ Q, j < w3.heap.size) := fun j hj => (hW j hj).2
 have hbe : Below w3.heap.size w3 (w3.alloc (.cells #[.int .i64 2, .int .u64 0, .int .u64 0, .int .i64 0, .int .i64 0, .int .i64 1, .int .u64 0, .int .i64 0, .int .i64 0, .int .i64 0, .int .u64 0, coreHdr (some ⟨q, 0, none⟩)] 79)) := (Below.refl _ _).alloc (Nat.le_refl _) _
 have HNB : Hid (w3.heap.size ∉ Q) := fun hm => by have := HLT.out _ hm; omega
 have HAT := Lib.hid (At.new w3 #[.int .i64 2, .int .u64 0, .int .u64 0, .int .i64 0, .int .i64 0, .int .i64 1, .int .u64 0, .int .i64 0, .int .i64 0, .int .i64 0, .int .u64 0, coreHdr (some ⟨q, 0, none⟩)] 79)
 have HWI : Hid (Within (w3.heap.size :: Q) w.heap.size (w3.alloc (.cells #[.int .i64 2, .int .u64 0, .int .u64 0, .int .i64 0, .int .i64 0, .int .i64 1, .int .u64 0, .int .i64 0, .int .i64 0, .int .i64 0, .int .u64 0, coreHdr (some ⟨q, 0, none⟩)] 79)).heap.size) := fun j hj => by
  rcases List.mem_cons.1 hj with rfl | hj
  ·exact ⟨HB3.out.size, HAT.out.lt⟩
  ·exact ⟨Nat.le_trans HB2.out.size (hW j hj).1, Nat.lt_of_lt_of_le (hW j hj).2 hbe.size⟩
 have HSK : Hid (SkV (w3.alloc (.cells #[.int .i64 2, .int .u64 0, .int .u64 0, .int .i64 0, .int .i64 0, .int .i64 1, .int .u64 0, .int .i64 0, .int .i64 0, .int .i64 0, .int .u64 0, coreHdr (some ⟨q, 0, none⟩)] 79)) w3.heap.size (w3.heap.size :: Q) (Cfg.mk 2 0 0 0 0 1 0 0 0 0 0) []) := ⟨⟨rfl, ⟨by decide, by decide, by decide, by decide, by decide, by decide⟩⟩, q, Q, rfl, HNB.out, .inr ⟨rfl, HAT.out, by decide, by decide, fun v hv => by simp at hv, hL.below hbe⟩⟩
 have HFIN := Lib.hid (keep1 HB3.out hbe)
 clear hb hW hL hbe s2 s3 f2 l2
 go_wp2
 go_ret2
 exact ⟨⟨_, _, rfl, HWI.out, HSK.out⟩, HFIN.out⟩
set_option maxRecDepth 100000 in
set_option maxHeartbeats 1000000 in
theorem sput_one (b : Nat) (S : List Nat) (w : World) (h : SkV w b S (Cfg.mk 2 0 0 0 0 1 0 0 0 0 0) []) :
  Calls Tryz.prog 26 #[.pointer (some ⟨b, 0, none⟩), .int .i64 5, .int .u64 2] w fun e w' => e = .returned (.int .i64 0) ∧ SkR b S (Cfg.mk 2 0 0 0 0 1 0 0 0 0 0) [(5, 2)] w w' := by
 obtain ⟨hc, q, Q, rfl, hb, h⟩ := h
 rcases h with ⟨k, _⟩ | ⟨k, ha, h1, h2, h3, h4⟩
 ·cases k
 have H4 := Lib.hid h4
 have HRL := Lib.hid fun l' w' (h3 : ∀ v ∈ l', inLim (Cfg.mk 2 0 0 0 0 1 0 0 0 0 0) v.1) (hL : Hh.HpvR q Q 1 0 l' w w') => SkR.hdr hc hb k ha h1 h2 h3 hL
 have f1 := ha.tw
 have l1 := ha.lt
 obtain ⟨m1, m2⟩ := mhPut q
 unfold coreHdr at f1
 clear k ha h1 h2 h3 h4 hc hb
 go_enter Tryz.func26, Tryz.ntmps26
 go_wp2_with fail
 refine (Hh.hput_v q Q 1 0 5 2 [] w H4.out (hvok VOk.nil) (by omega) (by omega) (by rw [sumP_nil]; omega) (.inl rfl) (by simp)).mono ?_
 rintro e w1 ⟨rfl, hL⟩
 have HR := Lib.hid (HRL.out _ _ (fun v hv => fun _ => .inl rfl) hL)
 clear hL HRL m1 m2 f1 l1
 go_wp2
 go_ret
 exact ⟨rfl, HR.out⟩
theorem mhTotal (q : Nat) : MethC 112 (.agg #[.pointer (some ⟨q, 0, none⟩)]) "ogive/suite.total" 223 (.agg #[.pointer (some ⟨q, 0, none⟩)]) := ⟨fun w => by kernel_rfl, fun a w => by kernel_rfl⟩
set_option maxRecDepth 100000 in
set_option maxHeartbeats 1000000 in
theorem stotal_hdr (q : Nat) (Q : List Nat) (d lim : Int) (l : List (Int × Int)) (w : World) (h : Hh.HdV w q Q d lim l) (hv : VOk l) :
  Calls Tryz.prog 223 #[.agg #[.pointer (some ⟨q, 0, none⟩)]] w fun e w' => e = .returned (.int .u64 (sumP l)) ∧ Below w.heap.size w w' := by
 have hba : Below w.heap.size w (w.alloc (.cells #[.pointer (some ⟨q, 0, none⟩)] 112)) := (Below.refl _ _).alloc (Nat.le_refl _) _
 have a1 := At.new w #[.pointer (some ⟨q, 0, none⟩)] 112
 have HT := Lib.hid (Hh.htotal_v q Q d lim l _ (h.below hba) (hvok hv))
 have HBA := Lib.hid hba
 have f1 := a1.one
 have l1 := a1.lt
 obtain ⟨t, ht⟩ : ∃ t, sumP l = t := ⟨_, rfl⟩
 rw [ht] at HT ⊢
 clear h hv hba a1 ht
 go_enter Tryz.func223, Tryz.ntmps223
 go_wp2_with fail
 refine HT.out.mono ?_
 rintro e w1 ⟨rfl, hb⟩
 have HB := Lib.hid (keep1 HBA.out hb)
 clear hb f1 l1 HT
 go_wp2
 go_ret
 exact ⟨rfl, HB.out⟩
set_option maxRecDepth 100000 in
set_option maxHeartbeats 1000000 in
theorem stotal_one (b : Nat) (S : List Nat) (w : World) (h : SkV w b S (Cfg.mk 2 0 0 0 0 1 0 0 0 0 0) [(5, 2)]) :
  Calls Tryz.prog 24 #[.pointer (some ⟨b, 0, none⟩)] w fun e w' => e = .returned (.int .u64 2) ∧ Below w.heap.size w w' := by
 obtain ⟨hc, q, Q, rfl, hb, h⟩ := h
 rcases h with ⟨k, _⟩ | ⟨k, ha, h1, h2, h3, h4⟩
 ·cases k
 have HV : VOk [(5, 2)] := VOk.nil.snoc (by omega) (by omega) (by rw [sumP_nil]; omega)
 have HT := Lib.hid (stotal_hdr q Q 1 0 [(5, 2)] w h4 HV)
 rw [show sumP [(5, 2)] = 2 by decide] at HT
 have f1 := ha.tw
 have l1 := ha.lt
 obtain ⟨m1, m2⟩ := mhTotal q
 unfold coreHdr at f1
 clear k ha h1 h2 h3 h4 hc hb HV
 go_enter Tryz.func24, Tryz.ntmps24
 go_wp2_with fail
 refine HT.out.mono ?_
 rintro e w1 ⟨rfl, hb⟩
 have HB := Lib.hid hb
 clear hb f1 l1 m1 m2 HT
 go_wp2
 go_ret
 exact ⟨rfl, HB.out⟩
set_option maxRecDepth 100000 in
set_option maxHeartbeats 1000000 in
theorem talive_any (w : World) (hT : TensAt w) : Calls Tryz.prog 7 #[] w fun e w' => e = .returned (.bool true) ∧ Below w.heap.size w w' := by
 have HN := Lib.hid (sknew_one w hT)
 clear hT
 go_enter Tryz.func7, Tryz.ntmps7
 go_wp2_with fail
 refine HN.out.mono ?_
 rintro e w1 ⟨⟨b, S, rfl, hW, hS⟩, hb⟩
 have HB1 := Lib.hid hb
 have HW1 := Lib.hid hW
 have HS1 := Lib.hid hS
 clear hW hS hb HN
 go_wp2_with fail
 refine (sput_one b S w1 HS1.out).mono ?_
 rintro e w2 ⟨rfl, S2, hg, hS, hF⟩
 have HB2 : Hid (Below w.heap.size w w2) := hF.below' HB1.out HB1.out.size HW1.out
 have HS2 := Lib.hid hS
 clear hg hS hF HS1 HW1 HB1
 have HV : Hid (VOk [(5, 2)]) := VOk.nil.snoc (by omega) (by omega) (by rw [sumP_nil]; omega)
 go_wp2_with fail
 refine (squant_any b S2 (Cfg.mk 2 0 0 0 0 1 0 0 0 0 0) [(5, 2)] 1 2 w2 HS2.out HV.out (by omega)).mono ?_
 rintro e w3 ⟨x, f, rfl, hQ, hb⟩
 obtain ⟨rfl, rfl⟩ := hQ.2 rfl
 rw [show quantD (standV (repM (gOf 1))) [(5, 2)] 1 2 = 5 by decide +kernel, show placeE 1 2 (sumP [(5, 2)]) = 0 by decide +kernel]
 have HB3 := Lib.hid (keep1 HB2.out hb)
 have HS3 := Lib.hid (HS2.out.below hb)
 clear hQ hb HS2 HB2 HV
 go_wp2_with fail
 refine (stotal_one b S2 w3 HS3.out).mono ?_
 rintro e w4 ⟨rfl, hb⟩
 have HB4 := Lib.hid (keep1 HB3.out hb)
 clear hb HB3 HS3
 go_wp2
 go_ret
 exact ⟨rfl, HB4.out⟩
end Go.Proofs.YtlbnlmhcpephbaaGreatDoor
