/- Texts of this claim, joined, indents halved: Quill, Eye, EyeB, FrameD. -/
import Derived.Test.YtlbnlmhcpephbaaGreatDoorProg
import Derived.ScopeJumps
import Derived.Test.YtlbnlmhcpephbaaGreatDoorKe7
namespace Go.Proofs.YtlbnlmhcpephbaaGreatDoor
open Go.RowKit
structure Qu (w : World) (b : Nat) (A : Option Addr) (len cap : Nat) (l : List UInt8) : Prop where
 at' : At w b #[.slice A len cap] 193
 own : OwnY (b + 1) w A cap l
 len : l.length = len
structure QuI (w0 W : World) (b : Nat) (A0 A : Option Addr) (len cap : Nat) (l : List UInt8) : Prop where
 qu : Qu W b A len cap l
 fr : Frame (b :: blk A0) w0 W
 bl : ∀ j ∈ blk A, j ∈ blk A0 ∨ w0.heap.size ≤ j
section
variable {w0 W W' : World} {b len len' cap cap' : Nat} {A0 A A' : Option Addr} {l l' : List UInt8}
theorem Qu.below (h : Qu W b A len cap l) (hb : Below W.heap.size W W') : Qu W' b A len cap l := ⟨h.at'.below hb, h.own.below hb, h.len⟩
theorem QuI.start (h : Qu W b A len cap l) : QuI W W b A A len cap l := ⟨h, Frame.refl _ _, fun _ h => .inl h⟩
theorem QuI.below (h : QuI w0 W b A0 A len cap l) (hb : Below W.heap.size W W') : QuI w0 W' b A0 A len cap l := ⟨h.qu.below hb, h.fr.trans (Frame.of_below hb), h.bl⟩
theorem QuI.nb (h : Qu W b A len cap l) : b ∉ blk A := fun hm => by have := (OwnY.blk_le h.own b hm).1; omega
theorem QuI.app (h : QuI w0 W b A0 A len cap l) (ho : OwnY (b + 1) W' A' cap' l') (hl : l'.length = len') (hF : Frame (blk A) W W') (hB : ∀ j ∈ blk A', j ∈ blk A ∨ W.heap.size ≤ j) :
  QuI w0 (W'.setCell ⟨b, 0, none⟩ (.slice A' len' cap')) b A0 A' len' cap' l' := by
 have ha := hF.at h.qu.at' (QuI.nb h.qu)
 have hS := Frame.set [b] W' b 0 (.slice A' len' cap') (by simp)
 refine ⟨⟨ha.set_any 0 _ rfl, OwnY.frame ho hS fun j hj hm => by have := (OwnY.blk_le ho j hj).1; simp only [List.mem_singleton] at hm; omega, hl⟩, ?_, fun j hj => ?_⟩
 ·refine ⟨hS.os.trans (hF.os.trans h.fr.os), hS.tape.trans (hF.tape.trans h.fr.tape), hS.output.trans (hF.output.trans h.fr.output), Nat.le_trans h.fr.size (Nat.le_trans hF.size hS.size), fun k hk hn => ?_⟩
  have hkW := Nat.lt_of_lt_of_le hk h.fr.size
  refine (hS.block k (Nat.lt_of_lt_of_le hkW hF.size) fun hm => hn ?_).trans ((hF.block k hkW fun hm => ?_).trans (h.fr.block k hk hn))
  ·simp only [List.mem_singleton] at hm; simp [hm]
  ·rcases h.bl k hm with h1 | h1
   ·exact hn (by simp [h1])
   ·omega
 ·rcases hB j hj with h1 | h1
  ·exact h.bl j h1
  ·exact .inr (Nat.le_trans h.fr.size h1)
theorem QuI.trans {w1 : World} {A1 : Option Addr} {len1 cap1 : Nat} {l1 : List UInt8} (h : QuI w0 w1 b A0 A1 len1 cap1 l1) (k : QuI w1 W b A1 A len cap l) : QuI w0 W b A0 A len cap l := by
 refine ⟨k.qu, ⟨k.fr.os.trans h.fr.os, k.fr.tape.trans h.fr.tape, k.fr.output.trans h.fr.output, Nat.le_trans h.fr.size k.fr.size, fun j hj hn => ?_⟩, fun j hj => ?_⟩
 ·refine (k.fr.block j (Nat.lt_of_lt_of_le hj h.fr.size) fun hm => ?_).trans (h.fr.block j hj hn)
  rcases List.mem_cons.1 hm with rfl | hm
  ·exact hn (by simp)
  ·rcases h.bl j hm with h1 | h1
   ·exact hn (by simp [h1])
   ·omega
 ·rcases k.bl j hj with h1 | h1
  ·exact h.bl j h1
  ·exact .inr (Nat.le_trans h.fr.size h1)
end
theorem hRd_at {w W : World} {T : List Nat} {L : Option Addr} {us : List Nat} {k u : Nat} (h : RdU w L (us.map fun u : Nat => (u : Int))) (hF : Frame T w W) (hL : ∀ g, L = some g → g.block ∉ T) (hk : us[k]? = some u) : ∃ g o, L = some ⟨g, o, none⟩ ∧ g < W.heap.size ∧ W.cell? ⟨g, o + k, none⟩ = some (.int .u64 (u : Int)) :=
 Frame.rd hF h hL k (.int .u64 (u : Int)) (by simp [List.getElem?_map, hk])
theorem new_y (W : World) (v : Value) (T : TypeId) (g : Nat) (hg : g = W.heap.size) : (W.alloc (.cells #[v] T)).cell? ((⟨g, 0, none⟩ : Addr).add 0) = some v := by
 rw [Addr.add_lit]; exact (At.new' W #[v] T hg).cell (i := 0) rfl
set_option maxRecDepth 100000 in
set_option maxHeartbeats 2000000 in
theorem qnat_any (b : Nat) (A : Option Addr) (len cap : Nat) (l : List UInt8) (L : Option Addr) (n cL : Nat) (us : List Nat) (w : World) (h : Qu w b A len cap l) (hn : us.length = n) (hm : n ≤ 1000000) (hlen : len ≤ 1000000000) (hR : RdU w L (us.map fun u : Nat => (u : Int))) (hu : ∀ u ∈ us, u < 18446744073709551616) (hL : ∀ g, L = some g → g.block ∉ b :: blk A) :
  Calls Tryz.prog 96 #[.pointer (some ⟨b, 0, none⟩), .slice L n cL] w fun e w' => e = .returned (.tuple #[]) ∧ ∃ A' len' cap', QuI w w' b A A' len' cap' (l ++ natsB us) := by
 have HR := Lib.hid hR
 have HU := Lib.hid hu
 have HN := Lib.hid hn
 have HL := Lib.hid hL
 have HLL := Lib.hid h.len
 have HS0 : Hid (QuI w w b A A len cap (l ++ natsB (us.take 0))) := by
  show QuI _ _ _ _ _ _ _ _
  rw [List.take_zero]
  simp only [natsB, List.flatMap_nil, List.append_nil]
  exact QuI.start h
 clear hR hu hn h hL
 go_enter Tryz.func96, Tryz.ntmps96
 go_wp2
 go_loopw [5, 8] (fun _ i wr => ∃ k : Nat, k ≤ n ∧ i = .int .i64 k ∧ ∃ A1 len1 cap1, Hid (QuI w wr b A A1 len1 cap1 (l ++ natsB (us.take k)))) (fun _ i _ => n - (intOf i).toNat)
 case atStart => exact ⟨0, by omega, rfl, A, len, cap, HS0⟩
 case round =>
  obtain ⟨k, hk, rfl, A1, len1, cap1, H⟩ := hrel
  clear HS0
  by_cases hlt : k < n
  ·obtain ⟨u, hu⟩ : ∃ u, us[k]? = some u := ⟨_, List.getElem?_eq_getElem (by have := HN.out; omega)⟩
   have hu64 := HU.out u (List.mem_of_getElem? hu)
   have HUK := Lib.hid hu
   have HTK : Hid (natsB (us.take (k + 1)) = natsB (us.take k) ++ natB u) := by
    obtain ⟨hk', e⟩ := List.getElem?_eq_some_iff.1 hu
    show _ = _
    rw [List.take_succ_eq_append_getElem hk', natsB_app, e]
    simp [natsB]
   have HLK : Hid (len1 ≤ len + 10 * k) := by
    have h1 := natsB_len (l := us.take k) fun u hu => HU.out u (List.mem_of_mem_take hu)
    have h2 := H.out.qu.len
    rw [List.length_append] at h2
    rw [List.length_take] at h1
    have := HLL.out
    show _ ≤ _
    omega
   obtain ⟨g, o', rfl, hg, d1⟩ := hRd_at HR.out H.out.fr HL.out hu
   clear hu
   go_wp2
   go_loopw [5] (fun x wi => ∃ (v : Nat) (pre : List UInt8) (A2 : Option Addr) (len2 cap2 : Nat), x = .int .u64 v ∧ Hid (QuI w wi b A A2 len2 cap2 (l ++ natsB (us.take k) ++ pre)) ∧ Hid (pre ++ natB v = natB u) ∧ v ≤ u) (fun x _ => (intOf x).toNat)
   case atStart => exact ⟨u, [], A1, len1, cap1, rfl, by rw [List.append_nil]; exact H, rfl, Nat.le_refl _⟩
   case round =>
    obtain ⟨v, pre, A2, len2, cap2, rfl, HI, HP, hvu⟩ := hrel
    clear H
    have hv64 : v < 18446744073709551616 := by omega
    have HL2 : Hid (len2 ≤ 1020000000) := by
     have h1 := natsB_len (l := us.take k) fun u hu => HU.out u (List.mem_of_mem_take hu)
     have h2 := HI.out.qu.len
     have h3 := congrArg List.length HP.out
     have h4 := natB_len hu64
     rw [List.length_append] at h3
     rw [List.length_append, List.length_append] at h2
     rw [List.length_take] at h1
     have := HLL.out
     show _ ≤ _
     omega
    have f1 := HI.out.qu.at'.one
    have l1 := HI.out.qu.at'.lt
    by_cases hv : 128 ≤ v
    ·have e1 : decide ((128 : Int) ≤ v) = true := decide_eq_true (by omega)
     have e1' : decide (128 ≤ v) = true := decide_eq_true hv
     obtain ⟨p, hp⟩ : ∃ p : Int, bits .or .u8 ((v : Int) % 256) 128 = p := ⟨_, rfl⟩
     have HPV : Hid (p = ((UInt8.ofNat (v % 128 + 128)).toNat : Int)) := by
      show _ = _
      rw [← hp, Lib.u8_or128_any _ (by omega) (by omega), byte_toNat (by omega)]
      omega
     have HP2 : Hid ((pre ++ [UInt8.ofNat (v % 128 + 128)]) ++ natB (v / 128) = natB u) := by
      show _ = _
      rw [← HP.out, natB_hi (u := v) (by omega), List.append_assoc]
      rfl
     have hbe : Below wr.heap.size wr (wr.alloc (.cells #[.int .u8 p] 5)) := (Below.refl _ _).alloc (Nat.le_refl _) _
     have HI2 := Lib.hid (HI.out.below hbe)
     have HNY := Lib.hid (new_y wr (.int .u8 p) 5 wr.heap.size rfl)
     have HZ : Hid (b + 1 ≤ (wr.alloc (.cells #[.int .u8 p] 5)).heap.size) := HI2.out.qu.at'.lt
     clear hbe HI HP
     go_wp2_with (first | (at_builtin; refine wpList_append_y rfl _ _ rfl (b + 1) A2 cap2 len2 (l ++ natsB (us.take k) ++ pre) rfl HI2.out.qu.len HI2.out.qu.own ⟨wr.heap.size, 0, none⟩ 1 (UInt8.ofNat (v % 128 + 128)) p HPV.out rfl HNY.out (by have := HL2.out; omega) HZ.out ?_; intro A3 cap3 W3 HO3 HF3 HB3; have f3 := (HF3.out.at HI2.out.qu.at' (QuI.nb HI2.out.qu)).one; have l3 := (HF3.out.at HI2.out.qu.at' (QuI.nb HI2.out.qu)).lt; have H3 := Lib.hid (HI2.out.app HO3.out (len' := len2 + 1) (by rw [List.length_append, HI2.out.qu.len]; rfl) HF3.out HB3.out); clear f1 l1) | fail)
     exact ⟨⟨v / 128, pre ++ [UInt8.ofNat (v % 128 + 128)], A3, len2 + 1, cap3, by simp, by rw [← List.append_assoc]; exact H3, HP2, by omega⟩, by simp [intOf]; omega⟩
    ·have e1 : decide ((128 : Int) ≤ v) = false := decide_eq_false (by omega)
     have e1' : decide (128 ≤ v) = false := decide_eq_false hv
     have HPV : Hid ((v : Int) = ((UInt8.ofNat v).toNat : Int)) := by
      show _ = _
      rw [byte_toNat (by omega)]
     have HP2 : Hid (pre ++ [UInt8.ofNat v] = natB u) := by
      show _ = _
      rw [← HP.out, natB_lo (u := v) (by omega)]
     have hbe : Below wr.heap.size wr (wr.alloc (.cells #[.int .u8 (v : Int)] 5)) := (Below.refl _ _).alloc (Nat.le_refl _) _
     have HI2 := Lib.hid (HI.out.below hbe)
     have HNY := Lib.hid (new_y wr (.int .u8 (v : Int)) 5 wr.heap.size rfl)
     have HZ : Hid (b + 1 ≤ (wr.alloc (.cells #[.int .u8 (v : Int)] 5)).heap.size) := HI2.out.qu.at'.lt
     clear hbe HI HP
     go_wp2_with (first | (at_builtin; refine wpList_append_y rfl _ _ rfl (b + 1) A2 cap2 len2 (l ++ natsB (us.take k) ++ pre) rfl HI2.out.qu.len HI2.out.qu.own ⟨wr.heap.size, 0, none⟩ 1 (UInt8.ofNat v) (v : Int) HPV.out rfl HNY.out (by have := HL2.out; omega) HZ.out ?_; intro A3 cap3 W3 HO3 HF3 HB3; have f3 := (HF3.out.at HI2.out.qu.at' (QuI.nb HI2.out.qu)).one; have l3 := (HF3.out.at HI2.out.qu.at' (QuI.nb HI2.out.qu)).lt; have H3 := Lib.hid (HI2.out.app HO3.out (len' := len2 + 1) (by rw [List.length_append, HI2.out.qu.len]; rfl) HF3.out HB3.out); clear f1 l1) | fail)
     exact ⟨⟨k + 1, by omega, by simp, A3, len2 + 1, cap3, by have h3 := H3; rw [List.append_assoc, List.append_assoc] at h3; rw [HTK.out, ← HP2.out]; exact h3⟩, by simp [intOf]; omega⟩
  ·obtain rfl : k = n := by omega
   have HT : Hid (us.take k = us) := List.take_of_length_le (by have := HN.out; omega)
   rw [HT.out] at H
   go_wp2
   exact bodyPost_end (results_none rfl _ _ _) rfl ⟨rfl, A1, len1, cap1, H.out⟩
theorem rdU_new (W : World) (x : Int) : RdU (W.alloc (.cells #[.int .u64 x] 23)) (some ⟨W.heap.size, 0, none⟩) [x] := by
 intro j u hj
 have a := At.new W #[.int .u64 x] 23
 refine ⟨W.heap.size, 0, rfl, a.lt, ?_⟩
 have hl := (List.getElem?_eq_some_iff.1 hj).1
 simp at hl
 subst hl
 simp at hj; subst hj; exact a.cell rfl
def RdI (w : World) (A : Option Addr) (xs : List Int) : Prop := Rd w A (xs.map (Value.int .i64))
theorem RdI.below {w w' : World} {A : Option Addr} {xs : List Int} (h : RdI w A xs) (hb : Below w.heap.size w w') : RdI w' A xs := Rd.below h hb
theorem intsB_take {xs : List Int} {k : Nat} {x : Int} (h : xs[k]? = some x) : intsB (xs.take (k + 1)) = intsB (xs.take k) ++ natB (zigN x) := by
 obtain ⟨hk', e⟩ := List.getElem?_eq_some_iff.1 h
 rw [List.take_succ_eq_append_getElem hk', intsB_app, e]
 simp [intsB]
theorem intsB_len : ∀ {l : List Int}, (∀ x ∈ l, -9223372036854775808 ≤ x ∧ x ≤ 9223372036854775807) → (intsB l).length ≤ 10 * l.length
  | [], _ => by simp [intsB]
  | x :: l, h => by
    have h1 := natB_len (zig_lt (h x (by simp)).1 (h x (by simp)).2)
    have h2 := intsB_len (l := l) fun y hy => h y (by simp [hy])
    have e : intsB (x :: l) = natB (zigN x) ++ intsB l := rfl
    rw [e, List.length_append, List.length_cons]; omega
set_option maxRecDepth 100000 in
set_option maxHeartbeats 2000000 in
theorem qint_any (b : Nat) (A : Option Addr) (len cap : Nat) (l : List UInt8) (L : Option Addr) (n cL : Nat) (xs : List Int) (w : World) (h : Qu w b A len cap l) (hn : xs.length = n) (hm : n ≤ 1000000) (hlen : len ≤ 100000000) (hR : RdI w L xs) (hx : ∀ x ∈ xs, -9223372036854775808 ≤ x ∧ x ≤ 9223372036854775807) (hL : ∀ g, L = some g → g.block ∉ b :: blk A) :
  Calls Tryz.prog 202 #[.pointer (some ⟨b, 0, none⟩), .slice L n cL] w fun e w' => e = .returned (.tuple #[]) ∧ ∃ A' len' cap', QuI w w' b A A' len' cap' (l ++ intsB xs) := by
 have HR := Lib.hid hR
 have HX := Lib.hid hx
 have HN := Lib.hid hn
 have HL := Lib.hid hL
 have HLL := Lib.hid h.len
 have HS0 : Hid (QuI w w b A A len cap (l ++ intsB (xs.take 0))) := by
  show QuI _ _ _ _ _ _ _ _
  rw [List.take_zero]
  simp only [intsB, List.flatMap_nil, List.append_nil]
  exact QuI.start h
 clear hR hx hn h hL
 go_enter Tryz.func202, Tryz.ntmps202
 go_wp2
 go_loopw [5, 8] (fun _ i wr => ∃ k : Nat, k ≤ n ∧ i = .int .i64 k ∧ ∃ A1 len1 cap1, Hid (QuI w wr b A A1 len1 cap1 (l ++ intsB (xs.take k)))) (fun _ i _ => n - (intOf i).toNat)
 case atStart => exact ⟨0, by omega, rfl, A, len, cap, HS0⟩
 case round =>
  obtain ⟨k, hk, rfl, A1, len1, cap1, H⟩ := hrel
  clear HS0
  by_cases hlt : k < n
  ·obtain ⟨x, hx⟩ : ∃ x, xs[k]? = some x := ⟨_, List.getElem?_eq_getElem (by have := HN.out; omega)⟩
   have HXB := Lib.hid (HX.out x (List.mem_of_getElem? hx))
   have HTK := Lib.hid (intsB_take hx)
   have HLK : Hid (len1 ≤ 1000000000) := by
    have h1 := intsB_len (l := xs.take k) fun u hu => HX.out u (List.mem_of_mem_take hu)
    have h2 := H.out.qu.len
    rw [List.length_append] at h2
    rw [List.length_take] at h1
    have := HLL.out
    show _ ≤ _
    omega
   obtain ⟨g, o', rfl, hg, d1⟩ := Frame.rd H.out.fr HR.out HL.out k (.int .i64 x) (by simp [List.getElem?_map, hx])
   clear hx
   go_wp2_with fail
   refine (zig_any x wr HXB.out.1 HXB.out.2).mono ?_
   rintro e w1 ⟨rfl, rfl⟩
   obtain ⟨z, hz⟩ : ∃ z, zigN x = z := ⟨_, rfl⟩
   have HZ64 : Hid (z < 18446744073709551616) := by show _ < _; rw [← hz]; exact zig_lt HXB.out.1 HXB.out.2
   rw [hz] at HTK ⊢
   have hbe : Below wr.heap.size wr (wr.alloc (.cells #[.int .u64 (z : Int)] 23)) := (Below.refl _ _).alloc (Nat.le_refl _) _
   have H2 := Lib.hid (H.out.below hbe)
   have HRN := Lib.hid (rdU_new wr (z : Int))
   have HNB : Hid (∀ g, (some ⟨wr.heap.size, 0, none⟩ : Option Addr) = some g → g.block ∉ b :: blk A1) := fun g hg hm => by
    simp only [Option.some.injEq] at hg
    subst hg
    rcases List.mem_cons.1 hm with h | h
    ·have := H.out.qu.at'.lt
     have e : wr.heap.size = b := h
     omega
    ·have h2 : wr.heap.size ∈ blk A1 := h
     have := (OwnY.blk_le H.out.qu.own _ h2).2
     omega
   clear hbe hz hg d1
   go_wp2_with fail
   refine (qnat_any b A1 len1 cap1 (l ++ intsB (xs.take k)) (some ⟨wr.heap.size, 0, none⟩) 1 1 [z] _ H2.out.qu rfl (by omega) HLK.out HRN.out (fun u hu => by rw [List.mem_singleton] at hu; subst hu; exact HZ64.out) HNB.out).mono ?_
   rintro e w2 ⟨rfl, A2, len2, cap2, hQ⟩
   have H3 : Hid (QuI w w2 b A A2 len2 cap2 (l ++ intsB (xs.take (k + 1)))) := by
    have h3 := H2.out.trans hQ
    rw [List.append_assoc, natsB_cons] at h3
    show QuI _ _ _ _ _ _ _ _
    rw [HTK.out]
    simpa [natsB] using h3
   clear hQ H H2 HRN HNB
   go_wp2
   exact ⟨⟨k + 1, by omega, by simp, A2, len2, cap2, H3⟩, by simp [intOf]; omega⟩
  ·obtain rfl : k = n := by omega
   have HT : Hid (xs.take k = xs) := List.take_of_length_le (by have := HN.out; omega)
   rw [HT.out] at H
   go_wp2
   exact bodyPost_end (results_none rfl _ _ _) rfl ⟨rfl, A1, len1, cap1, H.out⟩
set_option maxRecDepth 100000 in
theorem qraw_any (b : Nat) (A : Option Addr) (len cap : Nat) (l k : List UInt8) (st : ByteArray) (w : World) (h : Qu w b A len cap l) (hst : st = txt k) (hlen : len ≤ 1000000000) (hk : k.length ≤ 1000000000) :
  Calls Tryz.prog 95 #[.pointer (some ⟨b, 0, none⟩), .string st] w fun e w' => e = .returned (.tuple #[]) ∧ ∃ A' len' cap', Qu w' b A' len' cap' (l ++ k) ∧ Frame (b :: blk A) w w' := by
 have H := Lib.hid h
 have HST := Lib.hid hst
 have f1 := h.at'.one
 have l1 := h.at'.lt
 have HFIN : Hid (∀ A' cap' w1, OwnY (b + 1) w1 A' cap' (l ++ k) → Frame (blk A) w w1 → Qu (w1.setCell ⟨b, 0, none⟩ (.slice A' (len + k.length) cap')) b A' (len + k.length) cap' (l ++ k) ∧ Frame (b :: blk A) w (w1.setCell ⟨b, 0, none⟩ (.slice A' (len + k.length) cap'))) := fun A' cap' w1 ho hF => by
  have ha := hF.at h.at' (QuI.nb h)
  have hS := Frame.set [b] w1 b 0 (.slice A' (len + k.length) cap') (by simp)
  refine ⟨⟨ha.set_any 0 _ rfl, OwnY.frame ho hS fun j hj hm => by have := (OwnY.blk_le ho j hj).1; simp only [List.mem_singleton] at hm; omega, by rw [List.length_append, h.len]⟩, ?_⟩
  exact (hF.mono fun j hj => by simp [hj]).trans (hS.mono fun j hj => by simp only [List.mem_singleton] at hj; simp [hj])
 have HB : Hid (b + 1 ≤ w.heap.size) := h.at'.lt
 obtain ⟨m, hm⟩ : ∃ m, k.length = m := ⟨_, rfl⟩
 have HM := Lib.hid hm
 rw [hm] at HFIN hk
 clear h hm hst
 go_enter Tryz.func95, Tryz.ntmps95
 go_wp2_with (first | (at_builtin; refine wpList_append_ys rfl _ _ rfl (b + 1) A cap len l rfl H.out.len H.out.own k st HST.out m HM.out rfl (by omega) HB.out ?_; intro A3 cap3 W3 HO3 HF3; have f3 := (HF3.out.at H.out.at' (QuI.nb H.out)).one; have l3 := (HF3.out.at H.out.at' (QuI.nb H.out)).lt; have H3 := Lib.hid (HFIN.out A3 cap3 W3 HO3.out HF3.out); clear f1 l1) | fail)
 exact bodyPost_end (results_none rfl _ _ _) rfl ⟨rfl, A3, _, cap3, H3.out⟩
set_option maxRecDepth 100000 in
theorem qtext_any (b : Nat) (A : Option Addr) (len cap : Nat) (l : List UInt8) (w : World) (h : Qu w b A len cap l) (hl : l ≠ []) :
  Calls Tryz.prog 74 #[.pointer (some ⟨b, 0, none⟩)] w fun e w' => e = .returned (.string (txt l)) ∧ w = w' := by
 have f1 := h.at'.one
 have l1 := h.at'.lt
 have hcv := run_text h.own hl 191 rfl
 rw [h.len] at hcv
 clear h hl
 go_enter Tryz.func74, Tryz.ntmps74
 go_wp2
 go_ret
 exact ⟨rfl, rfl⟩
end Go.Proofs.YtlbnlmhcpephbaaGreatDoor

namespace Go.Proofs.YtlbnlmhcpephbaaGreatDoor
open Go.RowKit
def Eye (w : World) (b : Nat) (l : List UInt8) : Prop := At w b #[.string (txt l), .bool false] 188
theorem Eye.at' {w : World} {b : Nat} {l : List UInt8} (h : Eye w b l) : At w b #[.string (txt l), .bool false] 188 := h
theorem Eye.below {w w' : World} {b : Nat} {l : List UInt8} (h : Eye w b l) (hb : Below w.heap.size w w') : Eye w' b l := At.below h hb
theorem Eye.frame {w w' : World} {b : Nat} {T : List Nat} {l : List UInt8} (h : Eye w b l) (hF : Frame T w w') (hn : b ∉ T) : Eye w' b l := hF.at h hn
theorem Eye.set {w : World} {b : Nat} {l : List UInt8} (h : Eye w b l) (k : List UInt8) : Eye (w.setCell ⟨b, 0, none⟩ (.string (txt k))) b k := At.set_any h 0 _ rfl
set_option maxRecDepth 100000 in
theorem eon_any (l : List UInt8) (w : World) : Calls Tryz.prog 49 #[.string (txt l)] w fun e w' => e = .returned (.pointer (some ⟨w.heap.size, 0, none⟩)) ∧ Eye w' w.heap.size l ∧ Below w.heap.size w w' := by
 go_enter Tryz.func49, Tryz.ntmps49
 go_wp2
 go_ret
 exact ⟨rfl, At.new _ _ _, (Below.refl _ _).alloc (Nat.le_refl _) _⟩
set_option maxRecDepth 100000 in
theorem eraw_any (b n : Nat) (l : List UInt8) (w : World) (h : Eye w b l) (hn : n ≤ l.length) (hl : l.length ≤ 1000000000) :
  Calls Tryz.prog 63 #[.pointer (some ⟨b, 0, none⟩), .int .i64 n] w fun e w' => e = .returned (.string (txt (l.take n))) ∧ w.setCell ⟨b, 0, none⟩ (.string (txt (l.drop n))) = w' := by
 have f1 := h.at'.two
 have l1 := h.at'.lt
 have hsz := txt_size l
 have h1 : (txt l).extract 0 n = txt (l.take n) := by rw [txt_extract]; simp
 have h2 : (txt l).extract n l.length = txt (l.drop n) := by rw [txt_extract, List.take_length]
 obtain ⟨s, hs⟩ : ∃ s, txt l = s := ⟨_, rfl⟩
 rw [hs] at f1 hsz h1 h2
 clear h hs
 go_enter Tryz.func63, Tryz.ntmps63
 go_wp2
 go_ret
 exact ⟨rfl, rfl⟩
theorem txt_one (y : UInt8) : (txt [y]).toList.isEmpty = false := by
 have h : (txt [y]).toList = [y] := by
  rw [ByteArray.toList_eq]
  rfl
 rw [h]; rfl
def CurryY : Nat → (List Value → Prop) → Prop
 | 0, C => C []
 | n + 1, C => ∀ u, CurryY n fun l => C (u :: l)
theorem curryY_elim : ∀ {n : Nat} {C : List Value → Prop}, CurryY n C → ∀ l : List Value, l.length = n → C l
 | 0, _, h, [], _ => h
 | n + 1, _, h, u :: l, hl => curryY_elim (h u) l (by simpa using hl)
theorem or_step {acc c k : Nat} (ha : acc < 2 ^ (7 * k)) (hk : k ≤ 9) (hf : acc + c * 2 ^ (7 * k) < 18446744073709551616) : bits .or .u64 (acc : Int) (IntKind.u64.wrap ((c : Int) * 2 ^ (7 * k))) = ((acc + c * 2 ^ (7 * k) : Nat) : Int) := by
 have e : ((c : Int) * 2 ^ (7 * k)) = ((c * 2 ^ (7 * k) : Nat) : Int) := by simp
 have h1 : c * 2 ^ (7 * k) < 18446744073709551616 := by omega
 rw [e, wraps_u64 _ (by omega) (by omega)]
 have h2 : acc < 18446744073709551616 := by omega
 have h3 : ((2 : Int) ^ (7 * k)) = ((2 ^ (7 * k) : Nat) : Int) := by simp
 rw [bits_join_low .u64 64 (by decide) wraps_u64 (7 * k) (acc : Int) ((c * 2 ^ (7 * k) : Nat) : Int) (by omega) (by rw [h3]; omega) (by omega) (by omega) (by rw [h3, ← Int.natCast_emod, Nat.mul_mod_left]; rfl) (by omega)]
 omega
theorem wp_scope_again {P : Program} {Q : Exit → Act → World → Prop} {a : Act} {w : World} {c rest : Code} (l : Nat) (J : Act → World → Prop) (μ : Act → World → Nat) (hf : findLabel c l = some (.seq .skip rest))
  (pass : ∀ a w, J a w → rest.wp P (Exit.jump l (fun a' w' => J a' w' ∧ μ a' w' < μ a w) Q) a w) (start : (∀ a w, J a w → rest.wp P (Exit.jump l J Q) a w) → c.wp P (Exit.jump l J Q) a w) : (Code.scope c).wp P Q a w :=
 wp_scope_jumps l J μ hf (start fun a w h => Code.wp_mono (fun e a w q => by
  cases e with
  | goto l' => exact ⟨q.1, q.2.1⟩
  | _ => exact q) (pass a w h)) fun a w h => wp_seq (wp_skip (pass a w h))
structure NatJ (w W : World) (b u : Nat) (rest : List UInt8) (k acc rem : Nat) : Prop where
 k9 : k ≤ 9
 lt : acc < 2 ^ (7 * k)
 sum : u = acc + rem * 2 ^ (7 * k)
 pos : 0 < k → 0 < rem
 eye : Eye W b (natB rem ++ rest)
 fr : Frame [b] w W
theorem NatJ.start {w : World} {b u : Nat} {rest : List UInt8} (h : Eye w b (natB u ++ rest)) : NatJ w w b u rest 0 0 u := ⟨by omega, by simp, by simp, by omega, h, Frame.refl _ _⟩
set_option maxRecDepth 100000 in
set_option maxHeartbeats 4000000 in
def NatR (b u : Nat) (most : Int) (rest : List UInt8) (w : World) (e : Ending) (w' : World) : Prop :=
 ((u : Int) ≤ most ∧ e = .returned (.int .u64 (u : Int)) ∧ Eye w' b rest ∨ most < (u : Int) ∧ e = .returned (.int .u64 0) ∧ At w' b #[.string ByteArray.empty, .bool true] 188) ∧ Frame [b] w w'
theorem enat_or (b u : Nat) (most : Int) (rest : List UInt8) (w : World) (h : Eye w b (natB u ++ rest)) (hu : u < 18446744073709551616) (hl : rest.length ≤ 100000000) :
  Calls Tryz.prog 79 #[.pointer (some ⟨b, 0, none⟩), .int .u64 most] w (NatR b u most rest w) := by
 have HJ0 := Lib.hid (NatJ.start h)
 clear h
 go_enter Tryz.func79, Tryz.ntmps79
 go_wp2
 refine wp_scope_again 0 (fun a' w' => ∃ (k acc rem : Nat) (l : List Value), a' = { tmps := (.pointer (some ⟨b, 0, none⟩) :: .int .u64 most :: undef :: undef :: .int .u64 0 :: .int .u64 acc :: .int .i64 ((7 * k : Nat) : Int) :: l).toArray, defers := [] } ∧ l.length = 42 ∧ Hid (NatJ w w' b u rest k acc rem)) (fun a' _ => 70 - (intOf (a'.tmps.getD 6 undef)).toNat) rfl ?_ ?_
 ·rintro a' w0 ⟨k, acc, rem, l, rfl, hlen, HJ⟩
  revert hlen
  revert l
  refine curryY_elim ?_
  intro u1 u2 u3 u4 u5 u6 u7 u8 u9 u10 u11 u12 u13 u14 u15 u16 u17 u18 u19 u20 u21 u22 u23 u24 u25 u26 u27 u28 u29 u30 u31 u32 u33 u34 u35 u36 u37 u38 u39 u40 u41 u42
  clear HJ0
  have hk9 := HJ.out.k9
  have hbig : rem * 2 ^ (7 * k) ≤ u := by have := HJ.out.sum; omega
  have hpos := Nat.two_pow_pos (7 * k)
  have hrem : rem < 18446744073709551616 := by
   have := Nat.le_mul_of_pos_right rem hpos
   omega
  obtain ⟨c, hc, hmod, hcase⟩ := natB_cons rem
  obtain ⟨y, hy⟩ : ∃ y, UInt8.ofNat c = y := ⟨_, rfl⟩
  have hyc : y.toNat = c := by rw [← hy]; exact byte_toNat hc
  rw [hy] at hcase
  obtain ⟨more, hmore⟩ : ∃ more, natB rem ++ rest = y :: more := by
   rcases hcase with ⟨_, _, _, h⟩ | ⟨_, _, h⟩ <;> exact ⟨_, by rw [h]; rfl⟩
  have HML : Hid ((y :: more).length ≤ 1000000000) := by show _ ≤ _; rw [← hmore, List.length_append]; have := natB_len hrem; omega
  have HM := Lib.hid hmore
  have HE2 : Hid (Eye w0 b (y :: more)) := by show Eye _ _ _; rw [← hmore]; exact HJ.out.eye
  dsimp only [CurryY]
  obtain ⟨sh, hsh⟩ : ∃ sh : Int, ((7 * k : Nat) : Int) = sh := ⟨_, rfl⟩
  have HSH := Lib.hid hsh
  have hs0 : 0 ≤ sh ∧ sh ≤ 63 := by omega
  rw [hsh]
  obtain ⟨m, hm0⟩ : ∃ m : Nat, c % 128 = m := ⟨_, rfl⟩
  have hml : m < 128 := by omega
  have hand : bits .and .u8 (c : Int) 127 = (m : Int) := by rw [u8_and127 _ (by omega) (by omega)]; omega
  have hw : IntKind.u64.wrap (m : Int) = m := wraps_u64 _ (by omega) (by omega)
  have HK0 : Hid (k = 0 ∨ 0 < rem) := by
   rcases Nat.eq_zero_or_pos k with h | h
   ·exact .inl h
   ·exact .inr (HJ.out.pos h)
  have HK9 : Hid (k = 9 → c ≤ 1 ∧ c < 128) := fun h9 => by
   subst h9
   have h1 : rem * 9223372036854775808 ≤ u := hbig
   rcases hcase with ⟨_, _, h, _⟩ | ⟨_, h, _⟩
   ·omega
   ·omega
  clear hy hsh hpos hbig
  go_wp2_with fail
  refine (eraw_any b 1 (y :: more) w0 HE2.out (by simp) HML.out).mono ?_
  rintro e w1 ⟨rfl, hW1⟩
  have h1 : (y :: more).take 1 = [y] := rfl
  have h2 : (y :: more).drop 1 = more := rfl
  rw [h1]
  rw [h2] at hW1
  obtain ⟨s, hs⟩ : ∃ s, txt [y] = s := ⟨_, rfl⟩
  have hsz : s.size = 1 := by rw [← hs]; rfl
  have hget : ∀ h : 0 < s.size, s[0]'h = y := by subst hs; intro h; rfl
  have hemp : s.toList.isEmpty = false := by rw [← hs]; exact txt_one y
  rw [hs]
  clear hs h1 h2
  obtain ⟨nx, hnx⟩ : ∃ n, acc + m * 2 ^ (7 * k) = n := ⟨_, rfl⟩
  have HW1 : Hid (more = (if c < 128 then rest else natB (rem / 128) ++ rest)) := by
   show _ = _
   have := HM.out
   rcases hcase with ⟨i1, _, _, h⟩ | ⟨i1, _, h⟩
   ·rw [if_pos i1]; rw [h] at this; simpa using this.symm
   ·rw [if_neg (by omega)]; rw [h] at this; simpa using this.symm
  have HN64 : Hid (nx < 18446744073709551616) := by
   show _ < _
   have h1 := HJ.out.sum
   have h2 : m * 2 ^ (7 * k) ≤ rem * 2 ^ (7 * k) := Nat.mul_le_mul_right _ (by omega)
   omega
  have hor : bits .or .u64 (acc : Int) (IntKind.u64.wrap ((m : Int) * 2 ^ sh.toNat)) = (nx : Int) := by
   have e : sh.toNat = 7 * k := by have := HSH.out; omega
   rw [e, or_step HJ.out.lt HJ.out.k9 (by rw [hnx]; exact HN64.out), hnx]
  have HMLT : Hid (nx = acc + m * 2 ^ (7 * k)) := hnx.symm
  have hF1 : Frame [b] w w1 := by rw [← hW1]; exact HJ.out.fr.trans (Frame.set [b] w0 b 0 _ (by simp))
  have hE1 : Eye w1 b more := by rw [← hW1]; exact Eye.set HE2.out more
  have HF1 := Lib.hid hF1
  have HE1 := Lib.hid hE1
  clear hF1 hE1 hW1 HE2
  have HS3 : Hid ((k = 0 ∧ sh = 0 ∧ (sh == 63) = false ∧ decide (0 < sh) = false) ∨ (0 < k ∧ c ≠ 0 ∧ ((k = 9 ∧ (sh == 63) = true) ∨ (sh == 63) = false) ∧ decide (0 < sh) = true)) := by
   have h0 := HSH.out
   rcases HK0.out with h | h
   ·exact .inl ⟨h, by omega, beq_eq_false_iff_ne.2 (by omega), decide_eq_false (by omega)⟩
   ·by_cases hk : k = 0
    ·exact .inl ⟨hk, by omega, beq_eq_false_iff_ne.2 (by omega), decide_eq_false (by omega)⟩
    ·refine .inr ⟨by omega, ?_, ?_, decide_eq_true (by omega)⟩
     ·rcases hcase with ⟨_, _, h1, _⟩ | ⟨h1, _, _⟩ <;> omega
     ·by_cases h9 : k = 9
      ·exact .inl ⟨h9, beq_iff_eq.2 (by omega)⟩
      ·exact .inr (beq_eq_false_iff_ne.2 (by omega))
  clear hnx
  rcases hcase with ⟨i1, i2, i3, i4⟩ | ⟨i1, i2, i4⟩
  ·have e1 : decide ((128 : Int) ≤ c) = false := decide_eq_false (by omega)
   have e1' : decide (128 ≤ c) = false := decide_eq_false (by omega)
   have HU : Hid (nx = u) := by show _ = _; rw [HMLT.out, HJ.out.sum, show m = rem by omega]
   have HMR : Hid (more = rest) := by show _ = _; rw [HW1.out, if_pos i1]
   have HE2 : Hid (Eye w1 b rest) := by show Eye _ _ _; rw [← HMR.out]; exact HE1.out
   have HK9' := HK9
   clear i3 i4 i2 hm0 hmod HW1 HE1 hml
   have R1 : Hid ((nx : Int) ≤ most → NatR b u most rest w (.returned (.int .u64 (nx : Int))) w1) := fun h => ⟨.inl ⟨by rw [← HU.out]; exact h, by rw [HU.out], HE2.out⟩, HF1.out⟩
   have R2 : Hid (¬ (nx : Int) ≤ most → NatR b u most rest w (.returned (.int .u64 0)) ((w1.setCell ⟨b, 0, none⟩ (.string ⟨#[]⟩)).setCell ⟨b, 1, none⟩ (.bool true))) := fun h => ⟨.inr ⟨by rw [← HU.out]; omega, rfl, (HE2.out.at'.set_any 0 (.string ByteArray.empty) rfl).set_any 1 (.bool true) rfl⟩, (HF1.out.trans (Frame.set [b] w1 b 0 _ (by simp))).trans (Frame.set [b] _ b 1 _ (by simp))⟩
   have fE := HE2.out.at'.two
   have lE := HE2.out.at'.lt
   have hz : ((c : Int) == 0) = false ∨ c = 0 ∧ decide (0 < sh) = false := by
    rcases HS3.out with ⟨_, _, _, hp⟩ | ⟨_, cn, _, _⟩
    ·by_cases hc0 : c = 0
     ·exact .inr ⟨hc0, hp⟩
     ·exact .inl (beq_eq_false_iff_ne.2 (by omega))
    ·exact .inl (beq_eq_false_iff_ne.2 (by omega))
   have h63 : (sh == 63) = false ∨ (sh == 63) = true ∧ decide ((1 : Int) < c) = false ∧ decide (1 < c) = false := by
    rcases HS3.out with ⟨_, _, h, _⟩ | ⟨_, _, ⟨k9, h⟩ | h, _⟩
    ·exact .inl h
    ·exact .inr ⟨h, decide_eq_false (by have := (HK9.out k9).1; omega), decide_eq_false (by have := (HK9.out k9).1; omega)⟩
    ·exact .inl h
   have H0 : c = 0 → bits .and .u8 0 127 = (m : Int) := fun e => by subst e; exact hand
   clear HS3 HK9 HK9' HSH
   by_cases hm : (nx : Int) ≤ most
   ·have e2 := decide_eq_true hm
    have R := Lib.hid (R1.out hm)
    clear R1 R2 hm
    rcases h63 with h63 | ⟨h63, hc1, hc1'⟩ <;> rcases hz with hz | ⟨rfl, hz⟩
    all_goals
     try replace H0 := H0 rfl
     go_wp2
     try simp only [Exit.jump]
     go_ret
     exact R.out
   ·have e2 := decide_eq_false hm
    have R := Lib.hid (R2.out hm)
    clear R1 R2 hm
    rcases h63 with h63 | ⟨h63, hc1, hc1'⟩ <;> rcases hz with hz | ⟨rfl, hz⟩
    all_goals
     try replace H0 := H0 rfl
     go_wp2
     refine wp_label ?_
     go_wp2
     refine bodyPost_end (results_none rfl _ _ _) rfl ?_
     go_wp2
     go_ret
     exact R.out
  ·have e1 : decide ((128 : Int) ≤ c) = true := decide_eq_true (by omega)
   have e1' : decide (128 ≤ c) = true := decide_eq_true (by omega)
   have HK8 : Hid (k ≤ 8) := by
    show _ ≤ _
    by_cases h9 : k = 9
    ·have := (HK9.out h9).2; omega
    ·omega
   have HJ2 : Hid (NatJ w w1 b u rest (k + 1) nx (rem / 128)) := by
    have hp2 : 2 ^ (7 * (k + 1)) = 2 ^ (7 * k) * 128 := by rw [show 7 * (k + 1) = 7 * k + 7 by omega, Nat.pow_add]
    refine ⟨by have := HK8.out; omega, ?_, ?_, fun _ => by omega, ?_, HF1.out⟩
    ·rw [HMLT.out, hp2]
     have h1 := HJ.out.lt
     have h2 : m * 2 ^ (7 * k) ≤ 127 * 2 ^ (7 * k) := Nat.mul_le_mul_right _ (by omega)
     omega
    ·rw [HMLT.out, hp2, HJ.out.sum]
     have h1 : rem = m + rem / 128 * 128 := by omega
     have h2 : rem * 2 ^ (7 * k) = m * 2 ^ (7 * k) + rem / 128 * (2 ^ (7 * k) * 128) := by
      conv => lhs; rw [h1]
      rw [Nat.add_mul, Nat.mul_assoc, Nat.mul_comm 128]
     omega
    ·have := HE1.out
     rw [HW1.out, if_neg (by omega)] at this
     exact this
   have hs56 : sh ≤ 56 := by have := HSH.out; have := HK8.out; omega
   have HZ7 : Hid (sh + 7 = ((7 * (k + 1) : Nat) : Int)) := by have := HSH.out; show _ = _; omega
   have hz : ((c : Int) == 0) = false := beq_eq_false_iff_ne.2 (by omega)
   have h63 : (sh == 63) = false := beq_eq_false_iff_ne.2 (by omega)
   have HMU : Hid (70 - (intOf (.int .i64 ((7 * (k + 1) : Nat) : Int))).toNat < 70 - (intOf (.int .i64 sh)).toNat) := by
    have := HSH.out
    show _ < _
    simp only [intOf]
    omega
   clear i2 i4 hm0 hmod HW1 HE1 HF1 HS3 HK9 HK0
   rcases (show decide (0 < sh) = false ∨ decide (0 < sh) = true by cases decide (0 < sh) <;> simp) with hp | hp
   all_goals
    go_wp2
    go_step3
    rw [HZ7.out]
    exact ⟨rfl, ⟨k + 1, nx, rem / 128, _, rfl, rfl, HJ2⟩, HMU.out⟩
 ·intro START
  go_wp2_with fail
  refine wp_label ?_
  rename_i K0 hK0
  exact hK0 _ _ (START _ _ ⟨0, 0, u, _, rfl, rfl, HJ0⟩)
theorem enat_any (b u : Nat) (most : Int) (rest : List UInt8) (w : World) (h : Eye w b (natB u ++ rest)) (hu : u < 18446744073709551616) (hm : (u : Int) ≤ most) (hl : rest.length ≤ 100000000) :
  Calls Tryz.prog 79 #[.pointer (some ⟨b, 0, none⟩), .int .u64 most] w fun e w' => e = .returned (.int .u64 (u : Int)) ∧ Eye w' b rest ∧ Frame [b] w w' := by
 refine (enat_or b u most rest w h hu hl).mono ?_
 rintro e w' ⟨⟨_, he, hE⟩ | ⟨h, _⟩, hF⟩
 ·exact ⟨he, hE, hF⟩
 ·omega
end Go.Proofs.YtlbnlmhcpephbaaGreatDoor

namespace Go.Proofs.YtlbnlmhcpephbaaGreatDoor
open Go.RowKit
set_option maxRecDepth 100000 in
theorem eint_any (b : Nat) (x : Int) (rest : List UInt8) (w : World) (h : Eye w b (natB (zigN x) ++ rest)) (h1 : -9223372036854775808 ≤ x) (h2 : x ≤ 9223372036854775807) (hl : rest.length ≤ 100000000) :
  Calls Tryz.prog 82 #[.pointer (some ⟨b, 0, none⟩)] w fun e w' => e = .returned (.int .i64 x) ∧ Eye w' b rest ∧ Frame [b] w w' := by
 have hz := zig_lt h1 h2
 have HN := Lib.hid (enat_any b (zigN x) 18446744073709551615 rest w h hz (by omega) hl)
 have HZ := Lib.hid fun W => zag_any (zigN x) W hz
 have HX : Hid (zagI (zigN x) = x) := zag_zig x
 obtain ⟨u, hu⟩ : ∃ u, zigN x = u := ⟨_, rfl⟩
 rw [hu] at HN HZ HX
 clear h hz hu
 go_enter Tryz.func82, Tryz.ntmps82
 go_wp2_with fail
 refine HN.out.mono ?_
 rintro e w1 ⟨rfl, hE, hF⟩
 have HE := Lib.hid (And.intro hE hF)
 clear hE hF
 go_wp2_with fail
 refine (HZ.out w1).mono ?_
 rintro e w2 ⟨rfl, rfl⟩
 rw [HX.out]
 go_wp2
 go_ret
 exact ⟨rfl, HE.out⟩
set_option maxRecDepth 100000 in
theorem esmall_any (b u : Nat) (most : Int) (rest : List UInt8) (w : World) (h : Eye w b (natB u ++ rest)) (hm : (u : Int) ≤ most) (hm' : most ≤ 1000000000) (hl : rest.length ≤ 100000000) :
  Calls Tryz.prog 64 #[.pointer (some ⟨b, 0, none⟩), .int .i64 most] w fun e w' => e = .returned (.int .i64 (u : Int)) ∧ Eye w' b rest ∧ Frame [b] w w' := by
 have HN := Lib.hid (enat_any b u most rest w h (by omega) hm hl)
 have hmx : max most 0 = most := by omega
 clear h
 go_enter Tryz.func64, Tryz.ntmps64
 go_wp2_with fail
 refine HN.out.mono ?_
 rintro e w1 ⟨rfl, hE, hF⟩
 have HE := Lib.hid (And.intro hE hF)
 clear hE hF
 go_wp2
 go_ret
 exact ⟨rfl, HE.out⟩
set_option maxRecDepth 100000 in
theorem ecount_any (b u : Nat) (rest : List UInt8) (w : World) (h : Eye w b (natB u ++ rest)) (h1 : 0 < u) (hm : u ≤ 9223372036854775807) (hl : rest.length ≤ 100000000) :
  Calls Tryz.prog 90 #[.pointer (some ⟨b, 0, none⟩)] w fun e w' => e = .returned (.int .u64 (u : Int)) ∧ Eye w' b rest ∧ Frame [b] w w' := by
 have HN := Lib.hid (enat_any b u 9223372036854775807 rest w h (by omega) (by omega) hl)
 have hz : ((u : Int) == 0) = false := beq_eq_false_iff_ne.2 (by omega)
 clear h h1
 go_enter Tryz.func90, Tryz.ntmps90
 go_wp2_with fail
 refine HN.out.mono ?_
 rintro e w1 ⟨rfl, hE, hF⟩
 have HE := Lib.hid (And.intro hE hF)
 clear hE hF
 go_wp2
 go_ret
 exact ⟨rfl, HE.out⟩
set_option maxRecDepth 100000 in
theorem ebad_any (b : Nat) (l : List UInt8) (w : World) (h : Eye w b l) :
  Calls Tryz.prog 84 #[.pointer (some ⟨b, 0, none⟩)] w fun e w' => e = .returned (.bool false) ∧ w = w' := by
 have f1 := h.at'.two
 have l1 := h.at'.lt
 clear h
 go_enter Tryz.func84, Tryz.ntmps84
 go_wp2
 go_ret
 exact ⟨rfl, rfl⟩
set_option maxRecDepth 100000 in
theorem eover_any (b : Nat) (w : World) (h : Eye w b []) :
  Calls Tryz.prog 51 #[.pointer (some ⟨b, 0, none⟩)] w fun e w' => e = .returned (.bool true) ∧ w = w' := by
 have f1 := h.at'.two
 have l1 := h.at'.lt
 have hemp : (txt []).toList.isEmpty = true := by rw [ByteArray.toList_eq]; rfl
 obtain ⟨s, hs⟩ : ∃ s, txt [] = s := ⟨_, rfl⟩
 rw [hs] at f1 hemp
 clear h hs
 go_enter Tryz.func51, Tryz.ntmps51
 go_wp2
 go_ret
 exact ⟨rfl, rfl⟩
end Go.Proofs.YtlbnlmhcpephbaaGreatDoor

namespace Go.Proofs.YtlbnlmhcpephbaaGreatDoor
open Go.RowKit
structure QuB (w W : World) (b : Nat) (A : Option Addr) (len cap : Nat) (l : List UInt8) : Prop where
 qu : Qu W b A len cap l
 bl : Below b w W
section
variable {w W W' : World} {b len len' cap cap' : Nat} {A A' : Option Addr} {l l' : List UInt8}
theorem QuB.below (h : QuB w W b A len cap l) (hb : Below W.heap.size W W') : QuB w W' b A len cap l := ⟨h.qu.below hb, h.bl.trans (hb.mono (Nat.le_of_lt h.qu.at'.lt))⟩
theorem QuB.step (h : QuB w W b A len cap l) (hQ : Qu W' b A' len' cap' l') (hF : Frame (b :: blk A) W W') : QuB w W' b A' len' cap' l' :=
 ⟨hQ, hF.below h.bl (Nat.le_of_lt h.qu.at'.lt) fun k hk => by
  rcases List.mem_cons.1 hk with rfl | hk
  ·exact Nat.le_refl _
  ·have := (OwnY.blk_le h.qu.own k hk).1; omega⟩
theorem QuB.stepI (h : QuB w W b A len cap l) (hQ : QuI W W' b A A' len' cap' l') : QuB w W' b A' len' cap' l' := h.step hQ.qu hQ.fr
theorem QuB.new (w : World) : QuB w (w.alloc (.cells #[.slice none 0 0] 193)) w.heap.size none 0 0 [] := ⟨⟨At.new _ _ _, OwnY.nil _ _, rfl⟩, (Below.refl _ _).alloc (Nat.le_refl _) _⟩
theorem QuB.fresh (h : Qu W b A len cap l) (g : Nat) (hg : W.heap.size ≤ g) : ∀ a, (some ⟨g, 0, none⟩ : Option Addr) = some a → a.block ∉ b :: blk A := fun a ha hm => by
 simp only [Option.some.injEq] at ha
 subst ha
 rcases List.mem_cons.1 hm with h1 | h1
 ·have := h.at'.lt
  have e : g = b := h1
  omega
 ·have h2 : g ∈ blk A := h1
  have := (OwnY.blk_le h.own _ h2).2
  omega
end
set_option maxRecDepth 100000 in
set_option maxHeartbeats 2000000 in
theorem fclose_any (kind : Nat) (load : List UInt8) (st : ByteArray) (w : World) (hk : kind < 256) (hst : st = txt load) (hl : load.length ≤ 262144) :
  Calls Tryz.prog 73 #[.int .u8 (kind : Int), .string st] w fun e w' => e = .returned (.tuple #[.string (txt (frameY kind load)), .int .i64 0]) ∧ Below w.heap.size w w' := by
 have hsz : st.size = load.length := by rw [hst]; exact txt_size load
 have HST := Lib.hid hst
 have HKC : Hid (((UInt8.ofNat kind).toNat : Int) = kind) := by show _ = _; rw [byte_toNat hk]
 have h0 := QuB.new w
 obtain ⟨b, hb⟩ : ∃ b, w.heap.size = b := ⟨_, rfl⟩
 have HBB := Lib.hid hb
 obtain ⟨n, hn⟩ : ∃ n, load.length = n := ⟨_, rfl⟩
 have HN := Lib.hid hn
 rw [hn] at hsz hl
 clear hn hst
 go_enter Tryz.func73, Tryz.ntmps73
 go_wp2_with fail
 obtain ⟨W0, hW0⟩ : ∃ W, w.alloc (.cells #[.slice none 0 0] 193) = W := ⟨_, rfl⟩
 rw [hW0, hb] at h0
 simp only [hW0, hb]
 have H0 := Lib.hid h0
 clear hW0 h0 hb
 refine (qraw_any b none 0 0 [] [79, 71, 1] _ W0 H0.out.qu rfl (by omega) (by decide)).mono ?_
 rintro e w1 ⟨rfl, A1, len1, cap1, hQ, hF⟩
 have H1 := Lib.hid (H0.out.step hQ hF)
 have hcv := conv_new w1 [UInt8.ofNat kind] #[.int .u8 (kind : Int)] 1 rfl (by simp only [List.map_cons, List.map_nil]; rw [HKC.out])
 clear hQ hF H0
 go_wp2_with fail
 have hbe : Below w1.heap.size w1 (w1.alloc (.cells #[.int .u8 (kind : Int)] 5)) := (Below.refl _ _).alloc (Nat.le_refl _) _
 have H2 := Lib.hid (H1.out.below hbe)
 clear hcv hbe H1
 refine (qraw_any b A1 len1 cap1 ([] ++ [79, 71, 1]) [UInt8.ofNat kind] _ _ H2.out.qu rfl (by have := H2.out.qu.len; simp at this; omega) (by simp)).mono ?_
 rintro e w2 ⟨rfl, A2, len2, cap2, hQ, hF⟩
 have H3 := Lib.hid (H2.out.step hQ hF)
 have hbe : Below w2.heap.size w2 (w2.alloc (.cells #[.int .u64 (n : Int)] 23)) := (Below.refl _ _).alloc (Nat.le_refl _) _
 have H4 := Lib.hid (H3.out.below hbe)
 have HRN := Lib.hid (rdU_new w2 (n : Int))
 have HFR := Lib.hid (QuB.fresh H3.out.qu w2.heap.size (Nat.le_refl _))
 have HL2 : Hid (len2 = 4) := by have := H3.out.qu.len; simp at this; exact this.symm
 clear hQ hF H2 H3 hbe
 go_wp2_with fail
 refine (qnat_any b A2 len2 cap2 _ (some ⟨w2.heap.size, 0, none⟩) 1 1 [n] _ H4.out.qu rfl (by omega) (by have := HL2.out; omega) HRN.out (fun u hu => by rw [List.mem_singleton] at hu; omega) HFR.out).mono ?_
 rintro e w3 ⟨rfl, A3, len3, cap3, hQ⟩
 have H5 := Lib.hid (H4.out.stepI hQ)
 have HL3 : Hid (len3 ≤ 100) := by
  have h1 := H5.out.qu.len
  have h2 := natsB_len (l := [n]) fun u hu => by rw [List.mem_singleton] at hu; omega
  rw [List.length_append] at h1
  simp at h1 h2
  show _ ≤ _
  omega
 clear hQ H4 HRN HFR HL2
 go_wp2_with fail
 refine (qraw_any b A3 len3 cap3 _ load st w3 H5.out.qu HST.out (by have := HL3.out; omega) (by have := HN.out; omega)).mono ?_
 rintro e w4 ⟨rfl, A4, len4, cap4, hQ, hF⟩
 obtain ⟨T, hT⟩ : ∃ T, [] ++ [79, 71, 1] ++ [UInt8.ofNat kind] ++ natsB [n] ++ load = T := ⟨_, rfl⟩
 have HTF : Hid (T ++ fourY (sumY T) = frameY kind load) := by
  show _ = _
  rw [← hT]
  simp [frameY, natsB, HN.out]
 have h6 := H5.out.step hQ hF
 rw [hT] at h6
 have H6 := Lib.hid h6
 have HLT : Hid (T.length ≤ 1000000 ∧ T ≠ []) := by
  have h1 := H5.out.qu.len
  have h2 := HL3.out
  have h3 := HN.out
  refine ⟨?_, ?_⟩
  ·rw [← hT, List.length_append, h1]; omega
  ·rw [← hT]; simp
 clear hQ hF h6 H5 hT HL3
 go_wp2_with fail
 refine (qtext_any b A4 len4 cap4 T w4 H6.out.qu HLT.out.2).mono ?_
 rintro e w5 ⟨rfl, rfl⟩
 go_wp2_with fail
 refine (fsum_any T w4 (by have := HLT.out.1; omega)).mono ?_
 rintro e w5 ⟨rfl, hb⟩
 have H7 := Lib.hid (H6.out.below hb)
 clear hb H6
 go_wp2_with fail
 refine (ffour_any (sumY T) w5 (sumY_bd T)).mono ?_
 rintro e w6 ⟨rfl, hb⟩
 have H8 := Lib.hid (H7.out.below hb)
 clear hb H7
 go_wp2_with fail
 refine (qraw_any b A4 len4 cap4 T (fourY (sumY T)) _ w6 H8.out.qu rfl (by have := H8.out.qu.len; have := HLT.out.1; omega) (by rw [fourY_len]; omega)).mono ?_
 rintro e w7 ⟨rfl, A5, len5, cap5, hQ, hF⟩
 have h9 := H8.out.step hQ hF
 rw [HTF.out] at h9
 have H9 := Lib.hid h9
 have HNE : Hid (frameY kind load ≠ []) := by show _ ≠ _; rw [← HTF.out]; intro h; exact HLT.out.2 (List.append_eq_nil_iff.1 h).1
 clear hQ hF h9 H8
 go_wp2_with fail
 refine (qtext_any b A5 len5 cap5 _ w7 H9.out.qu HNE.out).mono ?_
 rintro e w8 ⟨rfl, rfl⟩
 go_wp2
 go_ret2
 exact ⟨rfl, by rw [HBB.out]; exact H9.out.bl⟩
set_option maxRecDepth 100000 in
set_option maxHeartbeats 2000000 in
theorem fopen_any (kind : Nat) (load : List UInt8) (w : World) (hk : kind < 256) (hl : load.length ≤ 262144) :
  Calls Tryz.prog 48 #[.string (txt (frameY kind load))] w fun e w' => e = .returned (.tuple #[.int .u8 (kind : Int), .string (txt load), .int .i64 0]) ∧ Below w.heap.size w w' := by
 obtain ⟨T, hT⟩ : ∃ T, [79, 71, 1] ++ [UInt8.ofNat kind] ++ natB load.length ++ load = T := ⟨_, rfl⟩
 have hF0 : frameY kind load = T ++ fourY (sumY T) := by rw [← hT]; rfl
 obtain ⟨y, hy⟩ : ∃ y, UInt8.ofNat kind = y := ⟨_, rfl⟩
 have HY : Hid ((y.toNat : Int) = kind) := by show _ = _; rw [← hy, byte_toNat hk]
 obtain ⟨sm, hsm⟩ : ∃ k, fourY (sumY T) = k := ⟨_, rfl⟩
 have HSM : Hid (fourY (sumY T) = sm ∧ sm.length = 4) := ⟨hsm, by rw [← hsm]; rfl⟩
 have HF : Hid (frameY kind load = [79, 71, 1] ++ ([y] ++ (natB load.length ++ (load ++ sm)))) := by
  show _ = _
  rw [hF0, hsm, ← hT, hy]
  simp
 have HTL : Hid (frameY kind load = T ++ sm ∧ T.length ≤ 1000000) := by
  refine ⟨by rw [hF0, hsm], ?_⟩
  have := natB_len (u := load.length) (by omega)
  rw [← hT]
  simp only [List.length_append, List.length_cons, List.length_nil]
  omega
 have HLL : Hid (load.length ≤ 262144) := hl
 obtain ⟨l, hl0⟩ : ∃ l, frameY kind load = l := ⟨_, rfl⟩
 rw [hl0] at HF HTL ⊢
 clear hF0 hT hy hsm hl hl0
 go_enter Tryz.func48, Tryz.ntmps48
 go_wp2_with fail
 refine (eon_any l w).mono ?_
 rintro e w1 ⟨rfl, hE, hb⟩
 obtain ⟨b, hbb⟩ : ∃ b, w.heap.size = b := ⟨_, rfl⟩
 have HBB := Lib.hid hbb
 rw [hbb] at hE ⊢
 have H1 : Hid (Eye w1 b ([79, 71, 1] ++ ([y] ++ (natB load.length ++ (load ++ sm))))) := by show Eye _ _ _; rw [← HF.out]; exact hE
 have HB1 : Hid (Below b w w1) := by show Below _ _ _; rw [← hbb]; exact hb
 clear hE hb hbb
 go_wp2_with fail
 refine (eraw_any b 3 _ w1 H1.out (by simp) (by have := natB_len (u := load.length) (by have := HLL.out; omega); have := HLL.out; have := HSM.out.2; simp only [List.length_append, List.length_cons, List.length_nil]; omega)).mono ?_
 rintro e w2 ⟨rfl, hW⟩
 have h3 : txt (([79, 71, 1] ++ ([y] ++ (natB load.length ++ (load ++ sm)))).take 3) = (⟨#[79, 71, 1]⟩ : ByteArray) := rfl
 have h4 : ([79, 71, 1] ++ ([y] ++ (natB load.length ++ (load ++ sm)))).drop 3 = [y] ++ (natB load.length ++ (load ++ sm)) := rfl
 rw [h4] at hW
 rw [h3]
 have H2 : Hid (Eye w2 b ([y] ++ (natB load.length ++ (load ++ sm)))) := by show Eye _ _ _; rw [← hW]; exact Eye.set H1.out _
 have HB2 : Hid (Below b w w2) := by show Below _ _ _; rw [← hW]; exact HB1.out.setCell (Nat.le_refl _) _
 clear hW h3 h4 H1 HB1
 go_wp2_with fail
 refine (eraw_any b 1 _ w2 H2.out (by simp) (by have := natB_len (u := load.length) (by have := HLL.out; omega); have := HLL.out; have := HSM.out.2; simp only [List.length_append, List.length_cons, List.length_nil]; omega)).mono ?_
 rintro e w3 ⟨rfl, hW⟩
 have h3 : ([y] ++ (natB load.length ++ (load ++ sm))).take 1 = [y] := rfl
 have h4 : ([y] ++ (natB load.length ++ (load ++ sm))).drop 1 = natB load.length ++ (load ++ sm) := rfl
 rw [h4] at hW
 rw [h3]
 have H3 : Hid (Eye w3 b (natB load.length ++ (load ++ sm))) := by show Eye _ _ _; rw [← hW]; exact Eye.set H2.out _
 have HB3 : Hid (Below b w w3) := by show Below _ _ _; rw [← hW]; exact HB2.out.setCell (Nat.le_refl _) _
 clear hW h3 h4 H2 HB2
 obtain ⟨ks, hks⟩ : ∃ s, txt [y] = s := ⟨_, rfl⟩
 have ksz : ks.size = 1 := by rw [← hks]; rfl
 have kget : ∀ h : 0 < ks.size, ks[0]'h = y := by subst hks; intro h; rfl
 have hyk := HY.out
 rw [hks]
 clear hks
 go_wp2_with fail
 refine (esmall_any b load.length 262144 (load ++ sm) w3 H3.out (by have := HLL.out; omega) (by omega) (by have := HLL.out; have := HSM.out.2; rw [List.length_append]; omega)).mono ?_
 rintro e w4 ⟨rfl, hE, hF⟩
 have H4 := Lib.hid hE
 have HB4 : Hid (Below b w w4) := hF.below HB3.out (Nat.le_of_lt (At.lt H3.out)) fun k hk => by simp only [List.mem_singleton] at hk; omega
 clear hE hF H3 HB3
 go_wp2_with fail
 refine (eraw_any b load.length (load ++ sm) w4 H4.out (by simp) (by have := HLL.out; have := HSM.out.2; rw [List.length_append]; omega)).mono ?_
 rintro e w5 ⟨rfl, hW⟩
 have h3 : (load ++ sm).take load.length = load := by simp
 have h4 : (load ++ sm).drop load.length = sm := by simp
 rw [h4] at hW
 rw [h3]
 have H5 : Hid (Eye w5 b sm) := by show Eye _ _ _; rw [← hW]; exact Eye.set H4.out _
 have HB5 : Hid (Below b w w5) := by show Below _ _ _; rw [← hW]; exact HB4.out.setCell (Nat.le_refl _) _
 clear hW h3 h4 H4 HB4
 go_wp2_with fail
 refine (eraw_any b 4 sm w5 H5.out (by have := HSM.out.2; omega) (by have := HSM.out.2; omega)).mono ?_
 rintro e w6 ⟨rfl, hW⟩
 have h3 : sm.take 4 = sm := List.take_of_length_le (by have := HSM.out.2; omega)
 have h4 : sm.drop 4 = [] := List.drop_eq_nil_of_le (by have := HSM.out.2; omega)
 rw [h4] at hW
 rw [h3]
 have H6 : Hid (Eye w6 b []) := by show Eye _ _ _; rw [← hW]; exact Eye.set H5.out _
 have HB6 : Hid (Below b w w6) := by show Below _ _ _; rw [← hW]; exact HB5.out.setCell (Nat.le_refl _) _
 clear hW h3 h4 H5 HB5
 go_wp2_with fail
 refine (eover_any b w6 H6.out).mono ?_
 rintro e w7 ⟨rfl, rfl⟩
 have hls : (txt l).size = l.length := txt_size l
 have hle : l.length = T.length + 4 := by rw [HTL.out.1, List.length_append, HSM.out.2]
 have hex : (txt l).extract 0 T.length = txt T := by rw [txt_extract, HTL.out.1]; simp
 obtain ⟨ls, hls0⟩ : ∃ s, txt l = s := ⟨_, rfl⟩
 obtain ⟨tn, htn⟩ : ∃ n, T.length = n := ⟨_, rfl⟩
 rw [hls0] at hls hex
 rw [htn] at hex hle
 rw [hle] at hls
 rw [hls0]
 have htl : tn ≤ 1000000 := by rw [← htn]; exact HTL.out.2
 clear hls0 htn hle
 go_wp2_with fail
 refine (fsum_any T w6 (by have := HTL.out.2; omega)).mono ?_
 rintro e w7 ⟨rfl, hb⟩
 have HB7 : Hid (Below b w w7) := HB6.out.trans (hb.mono (Nat.le_of_lt (At.lt H6.out)))
 clear hb HB6 hls hex
 go_wp2_with fail
 refine (ffour_any (sumY T) w7 (sumY_bd T)).mono ?_
 rintro e w8 ⟨rfl, hb⟩
 have HB8 : Hid (Below w.heap.size w w8) := by
  have h1 := HB7.out.size
  show Below _ _ _
  rw [HBB.out]
  have h2 : b ≤ w7.heap.size := by have := HBB.out; omega
  exact HB7.out.trans (hb.mono h2)
 clear hb HB7
 rw [HSM.out.1]
 obtain ⟨ss, hss⟩ : ∃ s, txt sm = s := ⟨_, rfl⟩
 obtain ⟨lo, hlo⟩ : ∃ s, txt load = s := ⟨_, rfl⟩
 have hsq : (ss.toList == ss.toList) = true := beq_self_eq_true ss.toList
 rw [hss, hlo]
 have HLO := Lib.hid hlo
 clear hss hlo
 go_wp2
 go_ret3
 exact ⟨by rw [HLO.out]; rfl, HB8.out⟩
end Go.Proofs.YtlbnlmhcpephbaaGreatDoor
