/- Ed: several texts, one behind the other. -/
import Derived.Test.YtkodeeneljkgeaaDoorEc
import Derived.Test.YtkodeeneljkgeaaDoorEs
/- Walks of layer 19: an entry's reader: octets, numbers and texts taken; what is not there breaks the reading off. Condition: the octets lie ahead of the reader; at most 10^9 of them. -/
namespace Go.Proofs.YtkodeeneljkgeaaDoor
open Go.RowKit IH
set_option maxRecDepth 100000
/-- A reader of the octets l, which lie in block b0, ahead of block B. -/
def Rd (B b0 g : Nat) (w : World) (l : List UInt8) : Prop := ∃ off c, RowAt w g 51 [.slice (some ⟨b0, off, none⟩) l.length c] ∧ SliceIn w B 1 (some ⟨b0, off, none⟩) l.length c (bytesV l)
/-- What breaks a reading off. -/
def faultP : PanicEntry := { v := .iface 48 (.agg #[]), recovered := false }
theorem take_bad (B b0 g : Nat) (l : List UInt8) (n : Nat) (w : World) (h : Rd B b0 g w l) (hn : l.length < n) :
    Calls Tryd.prog 56 #[.pointer (some ⟨g, 0, none⟩), .int .i64 n] w fun e w' => e = .panicked [faultP] ∧ w = w' := by
  obtain ⟨off, c, hr, hs⟩ := h
  have c0 := hr.cell (j := 0) rfl
  have hI : (l.length : Int) < (n : Int) := by omega
  clear hr hs
  unfold faultP
  go_enter Tryd.func56, Tryd.ntmps56
  go_wp2
  exact ⟨rfl, rfl, rfl⟩
set_option maxHeartbeats 4000000 in
theorem take_ok (B b0 g : Nat) (l : List UInt8) (n : Nat) (w : World) (h : Rd B b0 g w l) (hB : B ≤ g) (hn : n ≤ l.length) (_hl : l.length ≤ 1000000000) :
    Calls Tryd.prog 56 #[.pointer (some ⟨g, 0, none⟩), .int .i64 n] w fun e w' => ∃ A c, e = .returned (.slice A n c) ∧ SliceIn w' B 1 A n c (bytesV (l.take n)) ∧ Rd B b0 g w' (l.drop n) ∧ Only g w w' := by
  obtain ⟨off, c, hr, hs⟩ := h
  have c0 := hr.cell (j := 0) rfl
  have f0 := hr.frozen (j := 0) (by simp)
  have hI : ¬ (l.length : Int) < (n : Int) := by omega
  have hlc := hs.2.1
  have j1 : n ≤ c := by omega
  have j2 : (n : Int) ≤ (c : Int) := by omega
  have j3 : (n : Int) ≤ (l.length : Int) := by omega
  have s1 := hs.sub (a := 0) (b := n) (by omega) hn (some ⟨b0, off, none⟩) (fun _ => by simp [add_plain])
  simp only [Nat.sub_zero, Nat.mul_one, List.drop_zero] at s1
  rw [show (bytesV l).take n = bytesV (l.take n) by simp [bytesV, List.map_take]] at s1
  have s2 : ∀ A', (n < l.length → A' = some ⟨b0, off + n, none⟩) → SliceIn w B 1 A' (l.length - n) (c - n) (bytesV (l.drop n)) := fun A' hA => by
    have h := hs.sub (a := n) (b := l.length) hn (Nat.le_refl _) A' (fun hlt => by rw [hA hlt]; simp [add_plain])
    rw [show (bytesV l).drop (n * 1) = bytesV (l.drop n) by simp [bytesV, List.map_drop], show (l.length - n) * 1 = l.length - n by omega, List.take_of_length_le (by rw [bytesV_length, List.length_drop]; omega)] at h
    exact h
  have HR := Lib.hid hr
  have S1 := Lib.hid s1
  have S2 := Lib.hid s2
  have HD : Hid ((l.drop n).length = l.length - n) := Lib.hid List.length_drop
  clear hr hs s1 s2
  by_cases hcn : c = n
  · go_enter Tryd.func56, Tryd.ntmps56
    go_wp2
    go_ret
    refine ⟨_, _, rfl, by first | exact S1.out.setCell hB _ | (have := S1.out.setCell hB (p := ⟨g, 0, none⟩) (.slice (some ⟨b0, off, none⟩) (l.length - n) 0); rw [hcn] at this; exact this), ⟨off, 0, ?_, ?_⟩, Only.setCell _ _ _ _⟩
    · rw [HD.out]
      exact HR.out.set_ (j := 0) (by simp) _
    · rw [HD.out]
      have := S2.out (some ⟨b0, off, none⟩) (fun h => absurd h (by omega))
      rw [show c - n = 0 by omega] at this
      exact this.setCell hB _
  · go_enter Tryd.func56, Tryd.ntmps56
    go_wp2
    go_ret
    refine ⟨_, _, rfl, S1.out.setCell hB _, ⟨off + n, c - n, ?_, ?_⟩, Only.setCell _ _ _ _⟩
    · rw [HD.out]
      exact HR.out.set_ (j := 0) (by simp) _
    · rw [HD.out]
      exact (S2.out _ (fun _ => rfl)).setCell hB _
theorem i64_step {m x : Nat} (hm : m < 72057594037927936) (hx : x < 256) : i64 m = (m : Int) ∧ (m * 256 + x < 18446744073709551616) := by
  unfold i64
  rw [if_pos (by omega)]
  exact ⟨rfl, by omega⟩
theorem number_bad (B b0 g : Nat) (l : List UInt8) (K : Int) (k : Nat) (w : World) (h : Rd B b0 g w l) (hk : K = k) (hn : l.length < k) :
    Calls Tryd.prog 44 #[.pointer (some ⟨g, 0, none⟩), .int .i64 K] w fun e w' => e = .panicked [faultP] ∧ w = w' := by
  subst hk
  have TB := Lib.hid (take_bad B b0 g l k w h hn)
  clear h
  go_enter Tryd.func44, Tryd.ntmps44
  go_wp2_with (go_at_call 56; (with_reducible refine TB.out.mono ?_); rintro e w2 ⟨rfl, rfl⟩)
  exact ⟨rfl, rfl, rfl⟩
set_option maxHeartbeats 4000000 in
theorem number_ok (B b0 g : Nat) (l : List UInt8) (K : Int) (k : Nat) (w : World) (h : Rd B b0 g w l) (hB : B ≤ g) (hk : K = k) (hn : k ≤ l.length) (hl : l.length ≤ 1000000000) (h8 : k ≤ 8) :
    Calls Tryd.prog 44 #[.pointer (some ⟨g, 0, none⟩), .int .i64 K] w fun e w' => e = .returned (.int .i64 (i64 (valB (l.take k)))) ∧ Rd B b0 g w' (l.drop k) ∧ Only g w w' := by
  subst hk
  have TO := Lib.hid (take_ok B b0 g l k w h hB hn hl)
  obtain ⟨T, hT⟩ : ∃ T, l.take k = T := ⟨_, rfl⟩
  have hTl : T.length = k := by rw [← hT, List.length_take]; omega
  rw [hT] at TO ⊢
  have HTl := Lib.hid hTl
  clear h hT hTl
  go_enter Tryd.func44, Tryd.ntmps44
  go_wp2_with (go_at_call 56; (with_reducible refine TO.out.mono ?_); rintro e w2 ⟨A, c, rfl, hs, hr, ho⟩; have HS := Lib.hid hs; have HR := Lib.hid hr; have HO := Lib.hid ho; clear hs hr ho)
  go_loopw [5, 12] (fun n i wr => ∃ j : Nat, j ≤ k ∧ i = .int .i64 j ∧ n = .int .i64 (i64 (valB (T.take j))) ∧ wr = w2) (fun _ i _ => k - (intOf i).toNat)
  case atStart => exact ⟨0, by omega, rfl, rfl, rfl⟩
  case round =>
    obtain ⟨j, hj, rfl, rfl, hwr⟩ := hrel
    subst wr
    by_cases hlt : j < k
    · obtain ⟨x, hx⟩ : ∃ x, T[j]? = some x := ⟨_, List.getElem?_eq_getElem (by rw [HTl.out]; exact hlt)⟩
      obtain ⟨b1, o1, rfl, _, hc1⟩ := HS.out.2.2.2 (by omega)
      have c0 := hc1 j (byteV x) (by simp [bytesV, hx])
      unfold byteV at c0
      have hv := valB_lt (T.take j)
      have hsn : valB (T.take (j + 1)) = valB (T.take j) * 256 + x.toNat := by rw [List.take_add_one, hx]; exact valB_snoc _ _
      have hp : (256 : Nat) ^ (T.take j).length ≤ 256 ^ 7 := Nat.pow_le_pow_right (by omega) (by rw [List.length_take]; omega)
      have hm : valB (T.take j) < 72057594037927936 := Nat.lt_of_lt_of_le hv hp
      have HSN := Lib.hid hsn
      generalize valB (T.take j) = m at *
      have hxb := x.toNat_lt
      rw [(i64_step hm hxb).1]
      clear hc1 hx hv hsn hp
      have OB := or_byte m x.toNat hm hxb
      go_wp2
      refine ⟨⟨j + 1, by omega, by go_num, ?_, trivial⟩, by simp [intOf]; omega⟩
      rw [HSN.out, ← OB]
    · obtain rfl : j = k := by omega
      rw [List.take_of_length_le (by rw [HTl.out]; exact Nat.le_refl _)]
      go_wp2
      go_ret
      exact ⟨rfl, HR.out, HO.out⟩
end Go.Proofs.YtkodeeneljkgeaaDoor

/- Walks of layer 19: numbers and texts by an entry's reader, in one form each. Condition: as each states. -/
namespace Go.Proofs.YtkodeeneljkgeaaDoor
open Go.RowKit IH
set_option maxRecDepth 100000
theorem i64_small {m : Nat} (h : m < 9223372036854775808) : i64 m = (m : Int) := by unfold i64; rw [if_pos h]
theorem getN_some {k : Nat} {l r : List UInt8} {m : Nat} (h : getN k l = some (m, r)) : k ≤ l.length ∧ m = valB (l.take k) ∧ r = l.drop k := by
  unfold getN at h
  split at h
  · cases h
  · injection h with h
    injection h with h1 h2
    exact ⟨by omega, h1.symm, h2.symm⟩
theorem getN_none {k : Nat} {l : List UInt8} (h : getN k l = none) : l.length < k := by
  unfold getN at h
  split at h
  · assumption
  · cases h
theorem getN_lt {k : Nat} {l r : List UInt8} {m : Nat} (h : getN k l = some (m, r)) : m < 256 ^ k ∧ r.length ≤ l.length := by
  obtain ⟨h1, rfl, rfl⟩ := getN_some h
  have := valB_lt (l.take k)
  rw [List.length_take, Nat.min_eq_left h1] at this
  exact ⟨this, by rw [List.length_drop]; omega⟩
theorem getT_some {l s r : List UInt8} (h : getT l = some (s, r)) : ∃ n r1, getN 2 l = some (n, r1) ∧ n ≤ r1.length ∧ s = r1.take n ∧ r = r1.drop n := by
  unfold getT at h
  cases h2 : getN 2 l with
  | none => rw [h2] at h; cases h
  | some x =>
    obtain ⟨n, r1⟩ := x
    rw [h2] at h
    simp only at h
    split at h
    · cases h
    · injection h with h
      injection h with h3 h4
      exact ⟨n, r1, rfl, by omega, h3.symm, h4.symm⟩
theorem getT_none {l : List UInt8} (h : getT l = none) : getN 2 l = none ∨ ∃ n r1, getN 2 l = some (n, r1) ∧ r1.length < n := by
  unfold getT at h
  cases h2 : getN 2 l with
  | none => exact .inl rfl
  | some x =>
    obtain ⟨n, r1⟩ := x
    rw [h2] at h
    simp only at h
    split at h
    · exact .inr ⟨n, r1, rfl, by assumption⟩
    · cases h
theorem getT_le {l s r : List UInt8} (h : getT l = some (s, r)) : s.length ≤ 65535 ∧ r.length ≤ l.length ∧ s.length ≤ l.length := by
  obtain ⟨n, r1, h1, h2, rfl, rfl⟩ := getT_some h
  obtain ⟨h3, h4⟩ := getN_lt h1
  rw [List.length_take, List.length_drop]
  omega
theorem num_form (B b0 g : Nat) (l : List UInt8) (K : Int) (k : Nat) (w : World) (h : Rd B b0 g w l) (hB : B ≤ g) (hk : K = k) (hl : l.length ≤ 1000000000) (h8 : k ≤ 8) :
    Calls Tryd.prog 44 #[.pointer (some ⟨g, 0, none⟩), .int .i64 K] w fun e w' => Only g w w' ∧ ((∃ m r, getN k l = some (m, r) ∧ e = .returned (.int .i64 (i64 m)) ∧ Rd B b0 g w' r) ∨ (getN k l = none ∧ e = .panicked [faultP])) := by
  by_cases hn : l.length < k
  · refine (number_bad B b0 g l K k w h hk hn).mono ?_
    rintro e w' ⟨rfl, rfl⟩
    exact ⟨Only.refl _ _, .inr ⟨by unfold getN; rw [if_pos hn], rfl⟩⟩
  · refine (number_ok B b0 g l K k w h hB hk (by omega) hl h8).mono ?_
    rintro e w' ⟨rfl, hr, ho⟩
    exact ⟨ho, .inl ⟨_, _, by unfold getN; rw [if_neg hn], rfl, hr⟩⟩
set_option maxHeartbeats 4000000 in
theorem text_ok (B b0 g : Nat) (l s r : List UInt8) (w : World) (h : Rd B b0 g w l) (hB : B ≤ g) (hl : l.length ≤ 1000000000) (hg : getT l = some (s, r)) :
    Calls Tryd.prog 45 #[.pointer (some ⟨g, 0, none⟩)] w fun e w' => e = .returned (.string ⟨s.toArray⟩) ∧ Rd B b0 g w' r ∧ Only g w w' := by
  obtain ⟨n, r1, h2, hn, rfl, rfl⟩ := getT_some hg
  obtain ⟨h3, h4⟩ := getN_lt h2
  obtain ⟨k2, hm, hr1⟩ := getN_some h2
  have NU := number_ok B b0 g l 2 2 w h hB rfl k2 hl (by omega)
  rw [← hm, i64_small (by omega), ← hr1] at NU
  have TO := Lib.hid (fun W (hW : Rd B b0 g W r1) => take_ok B b0 g r1 n W hW hB hn (by omega))
  replace NU := Lib.hid NU
  obtain ⟨S, hS⟩ : ∃ S : ByteArray, (⟨(r1.take n).toArray⟩ : ByteArray) = S := ⟨_, rfl⟩
  have HS := Lib.hid hS
  rw [hS]
  clear h hg h2 k2 hm hr1 h4 hS
  go_enter Tryd.func45, Tryd.ntmps45
  go_wp2_with (first
    | (go_at_call 44; (with_reducible refine NU.out.mono ?_); rintro e w2 ⟨rfl, hr2, ho2⟩; have R2 := Lib.hid hr2; have O2 := Lib.hid ho2; clear hr2 ho2)
    | (go_at_call 56; (with_reducible refine (TO.out _ R2.out).mono ?_); rintro e w3 ⟨A, c, rfl, hs3, hr3, ho3⟩; have q1 := run_string_of (P := Tryd.prog) hs3 22 9 5 Tryd.underlying22 Tryd.underlying5 Tryd.underlying9; rw [HS.out] at q1; have R3 := Lib.hid hr3; have O3 := Lib.hid (O2.out.trans ho3); clear hs3 hr3 ho3))
  go_ret
  exact ⟨rfl, R3.out, O3.out⟩
set_option maxHeartbeats 4000000 in
theorem text_bad (B b0 g : Nat) (l : List UInt8) (w : World) (h : Rd B b0 g w l) (hB : B ≤ g) (hl : l.length ≤ 1000000000) (hg : getT l = none) :
    Calls Tryd.prog 45 #[.pointer (some ⟨g, 0, none⟩)] w fun e w' => e = .panicked [faultP] ∧ Only g w w' := by
  rcases getT_none hg with h2 | ⟨n, r1, h2, hn⟩
  · have NB := Lib.hid (number_bad B b0 g l 2 2 w h rfl (getN_none h2))
    clear h hg h2
    go_enter Tryd.func45, Tryd.ntmps45
    go_wp2_with (go_at_call 44; (with_reducible refine NB.out.mono ?_); rintro e w2 ⟨rfl, rfl⟩)
    exact ⟨rfl, rfl, Only.refl _ _⟩
  · obtain ⟨h3, h4⟩ := getN_lt h2
    obtain ⟨k2, hm, hr1⟩ := getN_some h2
    have NU := number_ok B b0 g l 2 2 w h hB rfl k2 hl (by omega)
    rw [← hm, i64_small (by omega), ← hr1] at NU
    have TB := Lib.hid (fun W (hW : Rd B b0 g W r1) => take_bad B b0 g r1 n W hW hn)
    replace NU := Lib.hid NU
    clear h hg h2 k2 hm hr1 h4
    go_enter Tryd.func45, Tryd.ntmps45
    go_wp2_with (first
      | (go_at_call 44; (with_reducible refine NU.out.mono ?_); rintro e w2 ⟨rfl, hr2, ho2⟩; have R2 := Lib.hid hr2; have O2 := Lib.hid ho2; clear hr2 ho2)
      | (go_at_call 56; (with_reducible refine (TB.out _ R2.out).mono ?_); rintro e w3 ⟨rfl, rfl⟩))
    exact ⟨rfl, rfl, O2.out⟩
theorem text_form (B b0 g : Nat) (l : List UInt8) (w : World) (h : Rd B b0 g w l) (hB : B ≤ g) (hl : l.length ≤ 1000000000) :
    Calls Tryd.prog 45 #[.pointer (some ⟨g, 0, none⟩)] w fun e w' => Only g w w' ∧ ((∃ s r, getT l = some (s, r) ∧ e = .returned (.string ⟨s.toArray⟩) ∧ Rd B b0 g w' r) ∨ (getT l = none ∧ e = .panicked [faultP])) := by
  cases hg : getT l with
  | none =>
    refine (text_bad B b0 g l w h hB hl hg).mono ?_
    rintro e w' ⟨rfl, ho⟩
    exact ⟨ho, .inr ⟨rfl, rfl⟩⟩
  | some x =>
    obtain ⟨s, r⟩ := x
    refine (text_ok B b0 g l s r w h hB hl hg).mono ?_
    rintro e w' ⟨rfl, hr, ho⟩
    exact ⟨ho, .inl ⟨s, r, rfl, rfl, hr⟩⟩
end Go.Proofs.YtkodeeneljkgeaaDoor

/- Walks of layer 19: an entry taken out of octets, by the code: what is not there breaks the reading off. Condition: at most 10^9 octets. Printed by mken18.py. -/
namespace Go.Proofs.YtkodeeneljkgeaaDoor
open Go.RowKit IH
set_option maxRecDepth 100000
theorem Rd.keep {B b0 g s0 : Nat} {w w' : World} {l : List UInt8} (h : Rd B b0 g w l) (hB : B ≤ g) (hg : g < s0) (hb : Below s0 w w') : Rd B b0 g w' l := by
  obtain ⟨off, c, h1, h2⟩ := h
  exact ⟨off, c, h1.below hb hg, h2.below (hb.mono (by omega))⟩
theorem own_only {w w' : World} {g base size n : Nat} {e : TypeId} {v : Value} {xs : List Value} (h : w.ownsRow base e size v n xs) (ho : Only g w w') (hg : g < base) : w'.ownsRow base e size v n xs := by
  refine ⟨h.1, ?_⟩
  rcases h.2 with h2 | ⟨g', cap, cur, hv, hb, hh, r⟩
  · exact .inl h2
  · exact .inr ⟨g', cap, cur, hv, hb, (ho.block g' (by omega)).trans hh, r⟩
theorem below_put (s0 : Nat) (w : World) (p : Addr) (v : Value) (h : s0 ≤ p.block) : Below s0 w (w.setCell p v) := (Below.refl s0 w).setCell h v
/-- An entry whose lists are the call's own. -/
structure EntO (base : Nat) (w : World) (e : Entry) (p : EntA) : Prop where
  names : w.ownsRow base 9 1 (.slice p.A1 p.n1 p.c1) p.n1 (strsV e.names)
  fields : w.ownsRow base 58 2 (.slice p.A2 p.n2 p.c2) p.n2 (fldsV e.fields)
  body : w.ownsRow base 60 2 (.slice p.A3 p.n3 p.c3) p.n3 (extsV e.body)
theorem EntO.ent {base : Nat} {w : World} {e : Entry} {p : EntA} (h : EntO base w e p) : EntIn w w.heap.size e p := ⟨SliceIn.of_own h.names, SliceIn.of_own h.fields, SliceIn.of_own h.body⟩
theorem EntO.only {base g : Nat} {w w' : World} {e : Entry} {p : EntA} (h : EntO base w e p) (ho : Only g w w') (hg : g < base) : EntO base w' e p := ⟨own_only h.names ho hg, own_only h.fields ho hg, own_only h.body ho hg⟩
theorem EntO.below {base : Nat} {w w' : World} {e : Entry} {p : EntA} (h : EntO base w e p) (hb : Below w.heap.size w w') : EntO base w' e p := ⟨own_below h.names hb, own_below h.fields hb, own_below h.body hb⟩
/-- How a reading stands: the reader, the entry that is being read, the result's cell. -/
structure EnS (B b0 g s0 : Nat) (w W : World) (l : List UInt8) (cs : List Value) : Prop where
  r : Rd B b0 g W l
  e : RowAt W (s0 + 1) 33 cs
  z : RowAt W s0 33 [.string ⟨#[]⟩, .slice none 0 0, .string ⟨#[]⟩, .string ⟨#[]⟩, .string ⟨#[]⟩, .int .i64 0, .string ⟨#[]⟩, .int .i64 0, .slice none 0 0, .int .i64 0, .int .i64 0, .int .i64 0, .int .i64 0, .int .u32 0, .slice none 0 0]
  s : Save s0 g w W
theorem ext_ty : SliceTy Tryd.prog 31 60 (.agg #[.int .i64 0, .int .i64 0]) 2 16 := ⟨Tryd.underlying31, by kernel_rfl, rfl, by decide⟩
theorem extsV_one (L : List (Int × Int)) : ∀ u ∈ extsV L, u.oneCell' = true := by
  intro u hu
  unfold extsV at hu
  obtain ⟨f, _, hf⟩ := List.mem_flatMap.1 hu
  simp only [extCells, List.mem_cons, List.not_mem_nil, or_false] at hf
  rcases hf with rfl | rfl <;> rfl
theorem num4_ok (B b0 g : Nat) (l r : List UInt8) (m : Nat) (w : World) (h : Rd B b0 g w l) (hB : B ≤ g) (hl : l.length ≤ 1000000000) (hg : getN 4 l = some (m, r)) :
    Calls Tryd.prog 44 #[.pointer (some ⟨g, 0, none⟩), .int .i64 4] w fun e w' => e = .returned (.int .i64 m) ∧ Rd B b0 g w' r ∧ Only g w w' := by
  obtain ⟨k1, hm1, hr1⟩ := getN_some hg
  have hm2 := (getN_lt hg).1
  have h := number_ok B b0 g l 4 4 w h hB rfl k1 hl (by omega)
  rw [← hm1, i64_small (by omega), ← hr1] at h
  exact h
theorem EnS.call {B b0 g s0 : Nat} {w W W' : World} {l l' : List UInt8} {cs : List Value} (h : EnS B b0 g s0 w W l cs) (hg : g < s0) (ho : Only g W W') (hr : Rd B b0 g W' l') : EnS B b0 g s0 w W' l' cs :=
  ⟨hr, h.e.only ho (by omega), h.z.only ho (by omega), h.s.only ho⟩
theorem EnS.put {B b0 g s0 : Nat} {w W : World} {l : List UInt8} {cs : List Value} (h : EnS B b0 g s0 w W l cs) (hB : B ≤ g) (hg : g < s0) {j : Nat} (hj : j < cs.length) (v : Value) : EnS B b0 g s0 w (W.setCell ⟨s0 + 1, j, none⟩ v) l (cs.set j v) :=
  ⟨h.r.keep hB hg (below_put s0 W _ v (by show s0 ≤ s0 + 1; omega)), h.e.set_ hj v, h.z.far (by show s0 ≠ s0 + 1; omega) v, h.s.trans (below_save (below_put s0 W _ v (by show s0 ≤ s0 + 1; omega)))⟩
theorem EnS.below {B b0 g s0 : Nat} {w W W' : World} {l : List UInt8} {cs : List Value} (h : EnS B b0 g s0 w W l cs) (hB : B ≤ g) (hg : g < s0) (hb : Below W.heap.size W W') : EnS B b0 g s0 w W' l cs :=
  ⟨h.r.keep hB hg (hb.mono (by have := h.z.lt; omega)), h.e.below hb h.e.lt, h.z.below hb h.z.lt, h.s.trans (below_save (hb.mono (by have := h.z.lt; omega)))⟩
theorem EnS.mid {B b0 g s0 : Nat} {w W W' : World} {l : List UInt8} {cs : List Value} (h : EnS B b0 g s0 w W l cs) (hB : B ≤ g) (hg : g < s0) (hb : Below (s0 + 2) W W') : EnS B b0 g s0 w W' l cs :=
  ⟨h.r.keep hB hg (hb.mono (by omega)), h.e.below hb (by omega), h.z.below hb (by omega), h.s.trans (below_save (hb.mono (by omega)))⟩
theorem Rd.drewN {B b0 g : Nat} {w : World} {l : List UInt8} (h : Rd B b0 g w l) (n : Nat) : Rd B b0 g (w.drewN n) l := by
  obtain ⟨off, c, h1, h2⟩ := h
  exact ⟨off, c, h1.drewN n, h2.drewN n⟩
theorem EnS.drewN {B b0 g s0 : Nat} {w W : World} {l : List UInt8} {cs : List Value} (h : EnS B b0 g s0 w W l cs) (n : Nat) : EnS B b0 g s0 w (W.drewN n) l cs := ⟨h.r.drewN n, h.e.drewN n, h.z.drewN n, h.s.drewN n⟩
theorem own_put {w : World} {base size n : Nat} {e : TypeId} {v : Value} {xs : List Value} (h : w.ownsRow base e size v n xs) (p : Addr) (u : Value) (hp : p.block < base) : (w.setCell p u).ownsRow base e size v n xs := by
  refine ⟨h.1, ?_⟩
  rcases h.2 with h2 | ⟨g', cap, cur, hv, hb, hh, r⟩
  · exact .inl h2
  · exact .inr ⟨g', cap, cur, hv, hb, (Below.heap_setCell w p u g' (by omega)).trans hh, r⟩
/-- Rows of one type are as they were. -/
def KeepTy (e : TypeId) (w w' : World) : Prop := ∀ (k : Nat) (cur : Array Value) (fz : Nat × Nat), w.heap[k]? = some (Obj.cells cur e fz) → w'.heap[k]? = w.heap[k]?
theorem KeepTy.refl (e : TypeId) (w : World) : KeepTy e w w := fun _ _ _ _ => rfl
theorem KeepTy.trans {e : TypeId} {a b c : World} (h : KeepTy e a b) (k : KeepTy e b c) : KeepTy e a c := fun i cur fz hi => by
  have h3 := h i cur fz hi
  exact (k i cur fz (h3.trans hi)).trans h3
theorem KeepTy.below {e : TypeId} {w w' : World} (h : Below w.heap.size w w') : KeepTy e w w' := fun i _ _ hi => h.block i (Array.getElem?_eq_some_iff.1 hi).1
theorem KeepTy.only {e e' : TypeId} {g : Nat} {cs : List Value} {w w' : World} (h : Only g w w') (hr : RowAt w g e' cs) (he : e' ≠ e) : KeepTy e w w' := fun i cur fz hi => by
  refine h.block i fun hig => he ?_
  subst hig
  obtain ⟨c2, lo, hi2, hh, _⟩ := hr
  rw [hh] at hi
  injection hi with hi
  injection hi with _ h3 _
theorem KeepTy.put {e e' : TypeId} {g o : Nat} {cs : List Value} {w : World} (hr : RowAt w g e' cs) (he : e' ≠ e) (v : Value) : KeepTy e w (w.setCell ⟨g, o, none⟩ v) := KeepTy.only (Only.setCell g o w v) hr he
theorem KeepTy.grown {e e' : TypeId} {w w' : World} {B size n : Nat} {v : Value} {xs : List Value} (ho : w.ownsRow B e' size v n xs) (hg : w.grownBy w' v.ownBlock) (he : e' ≠ e) : KeepTy e w w' := by
  intro i cur fz hi
  refine hg.block i (Array.getElem?_eq_some_iff.1 hi).1 fun hib => he ?_
  rcases ho.2 with ⟨rfl, _⟩ | ⟨g, cap, c2, rfl, _, hh, _⟩
  · cases hib
  · simp only [Value.ownBlock, Option.some.injEq] at hib
    subst hib
    rw [hh] at hi
    injection hi with hi
    injection hi with _ h3 _
theorem own_keepTy {w w' : World} {base size n : Nat} {e : TypeId} {v : Value} {xs : List Value} (h : w.ownsRow base e size v n xs) (hk : KeepTy e w w') : w'.ownsRow base e size v n xs := by
  refine ⟨h.1, ?_⟩
  rcases h.2 with h2 | ⟨g', cap, cur, hv, hb, hh, r⟩
  · exact .inl h2
  · exact .inr ⟨g', cap, cur, hv, hb, (hk g' cur (0, 0) hh).trans hh, r⟩
theorem own_far {w : World} {base size n : Nat} {e : TypeId} {v : Value} {xs : List Value} (h : w.ownsRow base e size v n xs) (p : Addr) (u : Value) (hp : ∀ k, v.ownBlock = some k → k ≠ p.block) : (w.setCell p u).ownsRow base e size v n xs := by
  refine ⟨h.1, ?_⟩
  rcases h.2 with h2 | ⟨g', cap, cur, hv, hb, hh, r⟩
  · exact .inl h2
  · exact .inr ⟨g', cap, cur, hv, hb, (Below.heap_setCell w p u g' (hp g' (by rw [hv]; rfl))).trans hh, r⟩
theorem all_step {α : Type} {p : List UInt8 → Option (α × List UInt8)} {n k : Nat} {s r : List UInt8} {x : α} {L : List α} (hk : k < n) (hx : p s = some (x, r)) :
    (getAll p (n - k) s).map (fun y => (L ++ y.1, y.2)) = (getAll p (n - (k + 1)) r).map (fun y => ((L ++ [x]) ++ y.1, y.2)) := by
  rw [show n - k = (n - (k + 1)) + 1 by omega]
  conv => lhs; unfold getAll
  rw [hx]
  simp only [Option.map_map]
  congr 1
  funext y
  simp
theorem all_stop {α : Type} {p : List UInt8 → Option (α × List UInt8)} {n k : Nat} {s : List UInt8} {L : List α} (hk : k < n) (hx : p s = none) :
    (getAll p (n - k) s).map (fun y => (L ++ y.1, y.2)) = none := by
  rw [show n - k = (n - (k + 1)) + 1 by omega]
  unfold getAll
  rw [hx]
  rfl
theorem all_end {α : Type} {p : List UInt8 → Option (α × List UInt8)} {n : Nat} {s : List UInt8} {L : List α} : (getAll p (n - n) s).map (fun y => (L ++ y.1, y.2)) = some (L, s) := by
  rw [Nat.sub_self]
  simp [getAll]
theorem ens_new (B b0 g : Nat) (w : World) (l : List UInt8) (h : Rd B b0 g w l) (hB : B ≤ g) (hg : g < w.heap.size) :
    EnS B b0 g w.heap.size w ((w.alloc (.cells #[.string ⟨#[]⟩, .slice none 0 0, .string ⟨#[]⟩, .string ⟨#[]⟩, .string ⟨#[]⟩, .int .i64 0, .string ⟨#[]⟩, .int .i64 0, .slice none 0 0, .int .i64 0, .int .i64 0, .int .i64 0, .int .i64 0, .int .u32 0, .slice none 0 0] 33)).alloc (.cells #[.string ⟨#[]⟩, .slice none 0 0, .string ⟨#[]⟩, .string ⟨#[]⟩, .string ⟨#[]⟩, .int .i64 0, .string ⟨#[]⟩, .int .i64 0, .slice none 0 0, .int .i64 0, .int .i64 0, .int .i64 0, .int .i64 0, .int .u32 0, .slice none 0 0] 33)) l [.string ⟨#[]⟩, .slice none 0 0, .string ⟨#[]⟩, .string ⟨#[]⟩, .string ⟨#[]⟩, .int .i64 0, .string ⟨#[]⟩, .int .i64 0, .slice none 0 0, .int .i64 0, .int .i64 0, .int .i64 0, .int .i64 0, .int .u32 0, .slice none 0 0] := by
  have hb : Below w.heap.size w ((w.alloc (.cells #[.string ⟨#[]⟩, .slice none 0 0, .string ⟨#[]⟩, .string ⟨#[]⟩, .string ⟨#[]⟩, .int .i64 0, .string ⟨#[]⟩, .int .i64 0, .slice none 0 0, .int .i64 0, .int .i64 0, .int .i64 0, .int .i64 0, .int .u32 0, .slice none 0 0] 33)).alloc (.cells #[.string ⟨#[]⟩, .slice none 0 0, .string ⟨#[]⟩, .string ⟨#[]⟩, .string ⟨#[]⟩, .int .i64 0, .string ⟨#[]⟩, .int .i64 0, .slice none 0 0, .int .i64 0, .int .i64 0, .int .i64 0, .int .i64 0, .int .u32 0, .slice none 0 0] 33)) := ((Below.refl _ _).alloc (Nat.le_refl _) _).alloc (by simp) _
  refine ⟨h.keep hB hg hb, ?_, (RowAt.new w 33 [.string ⟨#[]⟩, .slice none 0 0, .string ⟨#[]⟩, .string ⟨#[]⟩, .string ⟨#[]⟩, .int .i64 0, .string ⟨#[]⟩, .int .i64 0, .slice none 0 0, .int .i64 0, .int .i64 0, .int .i64 0, .int .i64 0, .int .u32 0, .slice none 0 0]).alloc _, below_save hb⟩
  have hr := RowAt.new (w.alloc (.cells #[.string ⟨#[]⟩, .slice none 0 0, .string ⟨#[]⟩, .string ⟨#[]⟩, .string ⟨#[]⟩, .int .i64 0, .string ⟨#[]⟩, .int .i64 0, .slice none 0 0, .int .i64 0, .int .i64 0, .int .i64 0, .int .i64 0, .int .u32 0, .slice none 0 0] 33)) 33 [.string ⟨#[]⟩, .slice none 0 0, .string ⟨#[]⟩, .string ⟨#[]⟩, .string ⟨#[]⟩, .int .i64 0, .string ⟨#[]⟩, .int .i64 0, .slice none 0 0, .int .i64 0, .int .i64 0, .int .i64 0, .int .i64 0, .int .u32 0, .slice none 0 0]
  rw [World.size_alloc] at hr
  exact hr
theorem rentry_a (B b0 g : Nat) (l : List UInt8) (w : World) (h : Rd B b0 g w l) (hB : B ≤ g) (hg0 : g < w.heap.size) (hg : getN 1 l = none) :
    Calls Tryd.prog 19 #[.pointer (some ⟨g, 0, none⟩)] w fun e w' => e = .panicked [faultP] ∧ Save w.heap.size g w w' := by
  have NN := Lib.hid (ens_new B b0 g w l h hB hg0)
  obtain ⟨W1, hW1⟩ : ∃ W : World, (w.alloc (.cells #[.string ⟨#[]⟩, .slice none 0 0, .string ⟨#[]⟩, .string ⟨#[]⟩, .string ⟨#[]⟩, .int .i64 0, .string ⟨#[]⟩, .int .i64 0, .slice none 0 0, .int .i64 0, .int .i64 0, .int .i64 0, .int .i64 0, .int .u32 0, .slice none 0 0] 33)).alloc (.cells #[.string ⟨#[]⟩, .slice none 0 0, .string ⟨#[]⟩, .string ⟨#[]⟩, .string ⟨#[]⟩, .int .i64 0, .string ⟨#[]⟩, .int .i64 0, .slice none 0 0, .int .i64 0, .int .i64 0, .int .i64 0, .int .i64 0, .int .u32 0, .slice none 0 0] 33) = W := ⟨_, rfl⟩
  rw [hW1] at NN
  have NB := Lib.hid (number_bad B b0 g l 1 1 W1 NN.out.r rfl (getN_none hg))
  clear h hg
  go_enter Tryd.func19, Tryd.ntmps19
  go_wp2_with (go_at_call 44; (with_reducible refine NB.out.mono ?_); rintro e w2 ⟨rfl, rfl⟩)
  exact ⟨rfl, rfl, NN.out.s⟩
theorem rentry_b (B b0 g : Nat) (l r : List UInt8) (m : Nat) (w : World) (h : Rd B b0 g w l) (hB : B ≤ g) (hg0 : g < w.heap.size) (hl : l.length ≤ 1000000000) (hg : getN 1 l = some (m, r)) (hm : m ≠ 69) :
    Calls Tryd.prog 19 #[.pointer (some ⟨g, 0, none⟩)] w fun e w' => e = .panicked [faultP] ∧ Save w.heap.size g w w' := by
  have NN := Lib.hid (ens_new B b0 g w l h hB hg0)
  obtain ⟨W1, hW1⟩ : ∃ W : World, (w.alloc (.cells #[.string ⟨#[]⟩, .slice none 0 0, .string ⟨#[]⟩, .string ⟨#[]⟩, .string ⟨#[]⟩, .int .i64 0, .string ⟨#[]⟩, .int .i64 0, .slice none 0 0, .int .i64 0, .int .i64 0, .int .i64 0, .int .i64 0, .int .u32 0, .slice none 0 0] 33)).alloc (.cells #[.string ⟨#[]⟩, .slice none 0 0, .string ⟨#[]⟩, .string ⟨#[]⟩, .string ⟨#[]⟩, .int .i64 0, .string ⟨#[]⟩, .int .i64 0, .slice none 0 0, .int .i64 0, .int .i64 0, .int .i64 0, .int .i64 0, .int .u32 0, .slice none 0 0] 33) = W := ⟨_, rfl⟩
  rw [hW1] at NN
  obtain ⟨k1, hm1, _⟩ := getN_some hg
  have hm2 := (getN_lt hg).1
  have NB := number_ok B b0 g l 1 1 W1 NN.out.r hB rfl k1 hl (by omega)
  rw [← hm1, i64_small (by omega)] at NB
  replace NB := Lib.hid NB
  have n1 : ((m : Int) != 69) = true := by rw [bne_iff_ne]; omega
  have n2 : ((m : Int) == 69) = false := by rw [beq_eq_false_iff_ne]; omega
  clear h hg k1 hm1 hm2 hm
  unfold faultP
  go_enter Tryd.func19, Tryd.ntmps19
  go_wp2_with (go_at_call 44; (with_reducible refine NB.out.mono ?_); rintro e w2 ⟨rfl, _, ho⟩; have SV := Lib.hid (NN.out.s.only ho); clear ho)
  exact ⟨rfl, rfl, SV.out⟩
/-- What is behind the first octet. -/
def restE (s1 : List UInt8) : Option (Entry × List UInt8) := match getN 2 s1 with
  | none => none
  | some (st, s) => match getN 1 s with
    | none => none
    | some (mi, s) => match getN 8 s with
      | none => none
      | some (a, s) => match getN 8 s with
        | none => none
        | some (g, s) => match getN 8 s with
          | none => none
          | some (o, s) => match getN 4 s with
            | none => none
            | some (z, s) => match getN 4 s with
              | none => none
              | some (u, s) => readTail ⟨st, mi, a, g, o, z, u⟩ s
theorem readE_rest {l r : List UInt8} (h : getN 1 l = some (69, r)) : readE l = restE r := by
  unfold readE readHead restE
  rw [h]
  simp only [ne_eq, not_true_eq_false, if_false]
  cases getN 2 r with
  | none => rfl
  | some x =>
    obtain ⟨st, s⟩ := x
    simp only
    cases getN 1 s with
    | none => rfl
    | some x =>
      obtain ⟨mi, s⟩ := x
      simp only
      cases getN 8 s with
      | none => rfl
      | some x =>
        obtain ⟨a, s⟩ := x
        simp only
        cases getN 8 s with
        | none => rfl
        | some x =>
          obtain ⟨g, s⟩ := x
          simp only
          cases getN 8 s with
          | none => rfl
          | some x =>
            obtain ⟨o, s⟩ := x
            simp only
            cases getN 4 s with
            | none => rfl
            | some x =>
              obtain ⟨z, s⟩ := x
              simp only
              cases getN 4 s with
              | none => rfl
              | some x => rfl
set_option maxHeartbeats 64000000 in
theorem rentry_c (B b0 g : Nat) (l l1 : List UInt8) (w : World) (h : Rd B b0 g w l) (hB : B ≤ g) (hg0 : g < w.heap.size) (hl : l.length ≤ 1000000000) (hg : getN 1 l = some (69, l1)) :
    Calls Tryd.prog 19 #[.pointer (some ⟨g, 0, none⟩)] w fun e w' => ((readE l = none ∧ e = .panicked [faultP]) ∨ (∃ x r p, readE l = some (x, r) ∧ e = .returned (.agg (entC x p).toArray) ∧ EntO (w.heap.size + 2) w' x p ∧ Rd B b0 g w' r)) ∧ Save w.heap.size g w w' := by
  have NN := Lib.hid (ens_new B b0 g w l h hB hg0)
  obtain ⟨W1, hW1⟩ : ∃ W : World, (w.alloc (.cells #[.string ⟨#[]⟩, .slice none 0 0, .string ⟨#[]⟩, .string ⟨#[]⟩, .string ⟨#[]⟩, .int .i64 0, .string ⟨#[]⟩, .int .i64 0, .slice none 0 0, .int .i64 0, .int .i64 0, .int .i64 0, .int .i64 0, .int .u32 0, .slice none 0 0] 33)).alloc (.cells #[.string ⟨#[]⟩, .slice none 0 0, .string ⟨#[]⟩, .string ⟨#[]⟩, .string ⟨#[]⟩, .int .i64 0, .string ⟨#[]⟩, .int .i64 0, .slice none 0 0, .int .i64 0, .int .i64 0, .int .i64 0, .int .i64 0, .int .u32 0, .slice none 0 0] 33) = W := ⟨_, rfl⟩
  rw [hW1] at NN
  obtain ⟨k1, hm1, hl1⟩ := getN_some hg
  have NB := number_ok B b0 g l 1 1 W1 NN.out.r hB rfl k1 hl (by omega)
  rw [← hm1, i64_small (by omega), ← hl1] at NB
  replace NB := Lib.hid NB
  have NF := Lib.hid (fun l W (K : Int) (k : Nat) (hk : K = k) (hW : Rd B b0 g W l) (hl : l.length ≤ 1000000000) (h8 : k ≤ 8) => num_form B b0 g l K k W hW hB hk hl h8)
  have TF := Lib.hid (fun l W (hW : Rd B b0 g W l) (hl : l.length ≤ 1000000000) => text_form B b0 g l W hW hB hl)
  obtain ⟨OUT, hOUT⟩ : ∃ o, restE l1 = o := ⟨_, rfl⟩
  rw [readE_rest hg, hOUT]
  have H1 : Hid (OUT = restE l1) := Lib.hid hOUT.symm
  have HL1 : Hid (l1.length ≤ 1000000000) := Lib.hid (by have := (getN_lt hg).2; omega)
  clear h hOUT hl hg k1 hm1 hl1
  unfold restE at H1
  go_enter Tryd.func19, Tryd.ntmps19
  go_wp2_with (first
    | (go_at_call 44; (with_reducible refine NB.out.mono ?_); rintro e w1 ⟨rfl, hr, ho⟩; have S1 := Lib.hid (NN.out.call hg0 ho hr); have tok1 : True := trivial; clear hr ho NB)
    | (have _t := tok1; go_at_call 44; (with_reducible refine (NF.out l1 _ 2 2 rfl S1.out.r HL1.out (by omega)).mono ?_); rintro e w2 ⟨ho, ⟨m2, l2, hg, he, hr⟩ | ⟨hg, rfl⟩⟩; (have hm2 := (getN_lt hg).1; have HL2 : Hid (l2.length ≤ 1000000000) := Lib.hid (Nat.le_trans (getN_lt hg).2 HL1.out); rw [i64_small (by omega)] at he; subst he; have S2 := Lib.hid (S1.out.call hg0 ho hr); have hh := H1.out; simp only [hg] at hh; have H2 := Lib.hid hh; clear H1 ho hr hg hh; have tok2 : True := trivial); rotate_left; (have HB := Lib.hid (show OUT = none by have h := H1.out; simp only [hg] at h; exact h)); (have SV := Lib.hid (S1.out.s.only ho)); clear hg ho; rotate_left)
    | (have _t := tok2; go_at_call 44; (with_reducible refine (NF.out l2 _ 1 1 rfl S2.out.r HL2.out (by omega)).mono ?_); rintro e w3 ⟨ho, ⟨m3, l3, hg, he, hr⟩ | ⟨hg, rfl⟩⟩; (have hm3 := (getN_lt hg).1; have HL3 : Hid (l3.length ≤ 1000000000) := Lib.hid (Nat.le_trans (getN_lt hg).2 HL2.out); rw [i64_small (by omega)] at he; subst he; have S3 := Lib.hid (S2.out.call hg0 ho hr); have hh := H2.out; simp only [hg] at hh; have H3 := Lib.hid hh; clear H2 ho hr hg hh; have c5 := S3.out.e.cell (j := 5) rfl; have f5 := S3.out.e.frozen (j := 5) (by simp); have c7 := S3.out.e.cell (j := 7) rfl; have f7 := S3.out.e.frozen (j := 7) (by simp); have hS := ((S3.out.put hB hg0 (j := 5) (by simp) (.int .i64 m2)).put hB hg0 (j := 7) (by simp) (.int .i64 m3)); obtain ⟨b3, hb3⟩ : ∃ W, ((w3.setCell ⟨w.heap.size + 1, 5, none⟩ (.int .i64 m2)).setCell ⟨w.heap.size + 1, 7, none⟩ (.int .i64 m3)) = W := ⟨_, rfl⟩; rw [hb3] at hS; replace S3 := Lib.hid hS; clear hS; have tok3 : True := trivial); rotate_left; (have HB := Lib.hid (show OUT = none by have h := H2.out; simp only [hg] at h; exact h)); (have SV := Lib.hid (S2.out.s.only ho)); clear hg ho; rotate_left)
    | (have _t := tok3; go_at_call 44; (with_reducible refine (NF.out l3 _ 8 8 rfl S3.out.r HL3.out (by omega)).mono ?_); rintro e w4 ⟨ho, ⟨m4, l4, hg, he, hr⟩ | ⟨hg, rfl⟩⟩; (have hm4 := (getN_lt hg).1; have HL4 : Hid (l4.length ≤ 1000000000) := Lib.hid (Nat.le_trans (getN_lt hg).2 HL3.out); subst he; have S4 := Lib.hid (S3.out.call hg0 ho hr); have hh := H3.out; simp only [hg] at hh; have H4 := Lib.hid hh; clear H3 ho hr hg hh; have tok4 : True := trivial); rotate_left; (have HB := Lib.hid (show OUT = none by have h := H3.out; simp only [hg] at h; exact h)); (have SV := Lib.hid (S3.out.s.only ho)); clear hg ho; rotate_left)
    | (have _t := tok4; go_at_call 44; (with_reducible refine (NF.out l4 _ 8 8 rfl S4.out.r HL4.out (by omega)).mono ?_); rintro e w5 ⟨ho, ⟨m5, l5, hg, he, hr⟩ | ⟨hg, rfl⟩⟩; (have hm5 := (getN_lt hg).1; have HL5 : Hid (l5.length ≤ 1000000000) := Lib.hid (Nat.le_trans (getN_lt hg).2 HL4.out); subst he; have S5 := Lib.hid (S4.out.call hg0 ho hr); have hh := H4.out; simp only [hg] at hh; have H5 := Lib.hid hh; clear H4 ho hr hg hh; have tok5 : True := trivial); rotate_left; (have HB := Lib.hid (show OUT = none by have h := H4.out; simp only [hg] at h; exact h)); (have SV := Lib.hid (S4.out.s.only ho)); clear hg ho; rotate_left)
    | (have _t := tok5; go_at_call 44; (with_reducible refine (NF.out l5 _ 8 8 rfl S5.out.r HL5.out (by omega)).mono ?_); rintro e w6 ⟨ho, ⟨m6, l6, hg, he, hr⟩ | ⟨hg, rfl⟩⟩; (have hm6 := (getN_lt hg).1; have HL6 : Hid (l6.length ≤ 1000000000) := Lib.hid (Nat.le_trans (getN_lt hg).2 HL5.out); subst he; have S6 := Lib.hid (S5.out.call hg0 ho hr); have hh := H5.out; simp only [hg] at hh; have H6 := Lib.hid hh; clear H5 ho hr hg hh; have c9 := S6.out.e.cell (j := 9) rfl; have f9 := S6.out.e.frozen (j := 9) (by simp); have c10 := S6.out.e.cell (j := 10) rfl; have f10 := S6.out.e.frozen (j := 10) (by simp); have c11 := S6.out.e.cell (j := 11) rfl; have f11 := S6.out.e.frozen (j := 11) (by simp); have hS := (((S6.out.put hB hg0 (j := 9) (by simp) (.int .i64 (i64 m4))).put hB hg0 (j := 10) (by simp) (.int .i64 (i64 m5))).put hB hg0 (j := 11) (by simp) (.int .i64 (i64 m6))); obtain ⟨b6, hb6⟩ : ∃ W, (((w6.setCell ⟨w.heap.size + 1, 9, none⟩ (.int .i64 (i64 m4))).setCell ⟨w.heap.size + 1, 10, none⟩ (.int .i64 (i64 m5))).setCell ⟨w.heap.size + 1, 11, none⟩ (.int .i64 (i64 m6))) = W := ⟨_, rfl⟩; rw [hb6] at hS; replace S6 := Lib.hid hS; clear hS; have tok6 : True := trivial); rotate_left; (have HB := Lib.hid (show OUT = none by have h := H5.out; simp only [hg] at h; exact h)); (have SV := Lib.hid (S5.out.s.only ho)); clear hg ho; rotate_left)
    | (have _t := tok6; go_at_call 44; (with_reducible refine (NF.out l6 _ 4 4 rfl S6.out.r HL6.out (by omega)).mono ?_); rintro e w7 ⟨ho, ⟨m7, l7, hg, he, hr⟩ | ⟨hg, rfl⟩⟩; (have hm7 := (getN_lt hg).1; have HL7 : Hid (l7.length ≤ 1000000000) := Lib.hid (Nat.le_trans (getN_lt hg).2 HL6.out); rw [i64_small (by omega)] at he; subst he; have S7 := Lib.hid (S6.out.call hg0 ho hr); have hh := H6.out; simp only [hg] at hh; have H7 := Lib.hid hh; clear H6 ho hr hg hh; have tok7 : True := trivial); rotate_left; (have HB := Lib.hid (show OUT = none by have h := H6.out; simp only [hg] at h; exact h)); (have SV := Lib.hid (S6.out.s.only ho)); clear hg ho; rotate_left)
    | (have _t := tok7; go_at_call 44; (with_reducible refine (NF.out l7 _ 4 4 rfl S7.out.r HL7.out (by omega)).mono ?_); rintro e w8 ⟨ho, ⟨m8, l8, hg, he, hr⟩ | ⟨hg, rfl⟩⟩; (have hm8 := (getN_lt hg).1; have HL8 : Hid (l8.length ≤ 1000000000) := Lib.hid (Nat.le_trans (getN_lt hg).2 HL7.out); rw [i64_small (by omega)] at he; subst he; have S8 := Lib.hid (S7.out.call hg0 ho hr); have hh := H7.out; simp only [hg] at hh; have H8 := Lib.hid hh; clear H7 ho hr hg hh; have hq := H8.out; unfold readTail at hq; replace H8 := Lib.hid hq; clear hq; have hu8 : IntKind.u32.wrap (m8 : Int) = (m8 : Int) := IntWalk.u32_in _ ⟨by omega, by omega⟩; have c12 := S8.out.e.cell (j := 12) rfl; have f12 := S8.out.e.frozen (j := 12) (by simp); have c13 := S8.out.e.cell (j := 13) rfl; have f13 := S8.out.e.frozen (j := 13) (by simp); have hS := ((S8.out.put hB hg0 (j := 12) (by simp) (.int .i64 m7)).put hB hg0 (j := 13) (by simp) (.int .u32 m8)); obtain ⟨b8, hb8⟩ : ∃ W, ((w8.setCell ⟨w.heap.size + 1, 12, none⟩ (.int .i64 m7)).setCell ⟨w.heap.size + 1, 13, none⟩ (.int .u32 m8)) = W := ⟨_, rfl⟩; rw [hb8] at hS; replace S8 := Lib.hid hS; clear hS; have tok8 : True := trivial); rotate_left; (have HB := Lib.hid (show OUT = none by have h := H7.out; simp only [hg] at h; exact h)); (have SV := Lib.hid (S7.out.s.only ho)); clear hg ho; rotate_left)
    | (have _t := tok8; go_at_call 45; (with_reducible refine (TF.out l8 _ S8.out.r HL8.out).mono ?_); rintro e w9 ⟨ho, ⟨s9, l9, hg, he, hr⟩ | ⟨hg, rfl⟩⟩; (obtain ⟨X9, hX9⟩ : ∃ S : ByteArray, (⟨s9.toArray⟩ : ByteArray) = S := ⟨_, rfl⟩; rw [hX9] at he; subst he; have HX9 := Lib.hid hX9; have HL9 : Hid (l9.length ≤ 1000000000) := Lib.hid (Nat.le_trans (getT_le hg).2.1 HL8.out); have S9 := Lib.hid (S8.out.call hg0 ho hr); have hh := H8.out; simp only [hg] at hh; have H9 := Lib.hid hh; clear H8 ho hr hg hh hX9; have tok9 : True := trivial); rotate_left; (have HB := Lib.hid (show OUT = none by have h := H8.out; simp only [hg] at h; exact h)); (have SV := Lib.hid (S8.out.s.only ho)); clear hg ho; rotate_left)
    | (have _t := tok9; go_at_call 45; (with_reducible refine (TF.out l9 _ S9.out.r HL9.out).mono ?_); rintro e w10 ⟨ho, ⟨s10, l10, hg, he, hr⟩ | ⟨hg, rfl⟩⟩; (obtain ⟨X10, hX10⟩ : ∃ S : ByteArray, (⟨s10.toArray⟩ : ByteArray) = S := ⟨_, rfl⟩; rw [hX10] at he; subst he; have HX10 := Lib.hid hX10; have HL10 : Hid (l10.length ≤ 1000000000) := Lib.hid (Nat.le_trans (getT_le hg).2.1 HL9.out); have S10 := Lib.hid (S9.out.call hg0 ho hr); have hh := H9.out; simp only [hg] at hh; have H10 := Lib.hid hh; clear H9 ho hr hg hh hX10; have tok10 : True := trivial); rotate_left; (have HB := Lib.hid (show OUT = none by have h := H9.out; simp only [hg] at h; exact h)); (have SV := Lib.hid (S9.out.s.only ho)); clear hg ho; rotate_left)
    | (have _t := tok10; go_at_call 45; (with_reducible refine (TF.out l10 _ S10.out.r HL10.out).mono ?_); rintro e w11 ⟨ho, ⟨s11, l11, hg, he, hr⟩ | ⟨hg, rfl⟩⟩; (obtain ⟨X11, hX11⟩ : ∃ S : ByteArray, (⟨s11.toArray⟩ : ByteArray) = S := ⟨_, rfl⟩; rw [hX11] at he; subst he; have HX11 := Lib.hid hX11; have HL11 : Hid (l11.length ≤ 1000000000) := Lib.hid (Nat.le_trans (getT_le hg).2.1 HL10.out); have S11 := Lib.hid (S10.out.call hg0 ho hr); have hh := H10.out; simp only [hg] at hh; have H11 := Lib.hid hh; clear H10 ho hr hg hh hX11; have c0 := S11.out.e.cell (j := 0) rfl; have f0 := S11.out.e.frozen (j := 0) (by simp); have c2 := S11.out.e.cell (j := 2) rfl; have f2 := S11.out.e.frozen (j := 2) (by simp); have c6 := S11.out.e.cell (j := 6) rfl; have f6 := S11.out.e.frozen (j := 6) (by simp); have hS := (((S11.out.put hB hg0 (j := 0) (by simp) (.string X9)).put hB hg0 (j := 2) (by simp) (.string X10)).put hB hg0 (j := 6) (by simp) (.string X11)); obtain ⟨b11, hb11⟩ : ∃ W, (((w11.setCell ⟨w.heap.size + 1, 0, none⟩ (.string X9)).setCell ⟨w.heap.size + 1, 2, none⟩ (.string X10)).setCell ⟨w.heap.size + 1, 6, none⟩ (.string X11)) = W := ⟨_, rfl⟩; rw [hb11] at hS; replace S11 := Lib.hid hS; clear hS; have tok11 : True := trivial); rotate_left; (have HB := Lib.hid (show OUT = none by have h := H10.out; simp only [hg] at h; exact h)); (have SV := Lib.hid (S10.out.s.only ho)); clear hg ho; rotate_left)
    | (have _t := tok11; go_at_call 44; (with_reducible refine (NF.out l11 _ 1 1 rfl S11.out.r HL11.out (by omega)).mono ?_); rintro e w12 ⟨ho, ⟨m12, l12, hg, he, hr⟩ | ⟨hg, rfl⟩⟩; (have hm12 := (getN_lt hg).1; have HL12 : Hid (l12.length ≤ 1000000000) := Lib.hid (Nat.le_trans (getN_lt hg).2 HL11.out); rw [i64_small (by omega)] at he; subst he; have S12 := Lib.hid (S11.out.call hg0 ho hr); have hh := H11.out; simp only [hg] at hh; have H12 := Lib.hid hh; clear H11 ho hr hg hh; have tok12 : True := trivial); rotate_left; (have HB := Lib.hid (show OUT = none by have h := H11.out; simp only [hg] at h; exact h)); (have SV := Lib.hid (S11.out.s.only ho)); clear hg ho; rotate_left))
  rotate_left
  iterate 11 (· exact ⟨rfl, .inl ⟨HB.out, rfl⟩, SV.out⟩)
  go_loopw [49] (fun i wr => ∃ (k : Nat) (s : List UInt8) (L : List (List UInt8)) (v : Value), i = .int .i64 k ∧ k ≤ m12 ∧ L.length = k ∧ getAll getT m12 l12 = (getAll getT (m12 - k) s).map (fun y => (L ++ y.1, y.2)) ∧ s.length ≤ 1000000000 ∧ EnS B b0 g w.heap.size w wr s [.string X9, v, .string X10, .string ⟨#[]⟩, .string ⟨#[]⟩, .int .i64 m2, .string X11, .int .i64 m3, .slice none 0 0, .int .i64 (i64 m4), .int .i64 (i64 m5), .int .i64 (i64 m6), .int .i64 m7, .int .u32 m8, .slice none 0 0] ∧ wr.ownsRow (w.heap.size + 2) 9 1 v k (strsV L)) (fun i _ => m12 - (intOf i).toNat)
  case atStart => exact ⟨0, l12, [], .slice none 0 0, rfl, by omega, rfl, by simp, HL12.out, S12.out, World.ownsRow_nil _ _ _ _⟩
  case round =>
    obtain ⟨k, s, L, v, rfl, hk, hL, hall, hsl, hens, hown⟩ := hrel
    have HA := Lib.hid hall
    have HE := Lib.hid hens
    have HO := Lib.hid hown
    have HL := Lib.hid hL
    have HSL := Lib.hid hsl
    have e1 := hens.e.cell (j := 1) rfl
    have q1 := hens.e.frozen (j := 1) (by simp)
    clear hall hens hown hL hsl S12
    by_cases hlt : k < m12
    · cases hg : getT s with
      | none =>
        have TB := Lib.hid (fun W (hW : Rd B b0 g W s) => text_bad B b0 g s W hW hB HSL.out hg)
        have HN : Hid (OUT = none) := Lib.hid (by
          have h := H12.out
          rw [HA.out, all_stop hlt hg] at h
          exact h)
        clear hg
        go_wp2
        have HD := Lib.hid (show EnS B b0 g w.heap.size w wr.drew s _ from HE.out.drewN 1)
        refine wp_region_any (by kernel_rfl) ?_
        try (change wpAny _ _ _ _ _ _ _ (World.drew _))
        refine wpAny_take (i := 0) (v := ?_) rfl (by kernel_rfl) (by kernel_rfl) (by kernel_rfl) (fun _ _ _ h => h) (Or.inl ⟨by rfl, ?_⟩) ?_
        rotate_left
        · intro w; go_simp; try with_reducible rfl
        refine wpAny_take (i := 2) (v := ?_) rfl (by kernel_rfl) (by kernel_rfl) (by kernel_rfl) (fun _ _ _ h => h) (Or.inl ⟨by rfl, ?_⟩) ?_
        rotate_left
        · intro w; go_simp; try with_reducible rfl
        refine wpAny_ready (rs := [1, 3]) (by kernel_rfl) (by simp) ?_
        refine AllReady.cons rfl (fun K hK => ?_) ?_
        · go_simp
          refine hK _ _ ?_
          clear hK K
          refine wpAny_ready (rs := [3]) (by kernel_rfl) (by simp) ?_
          refine AllReady.cons rfl (fun K hK => ?_) ?_
          · go_simp
            go_at_call 45
            (with_reducible refine (TB.out _ HD.out.r).mono ?_)
            rintro e w2 ⟨rfl, ho⟩
            go_wp2
            exact ⟨rfl, .inl ⟨HN.out, rfl⟩, HD.out.s.only ho⟩
          · exact AllReady.nil
        refine AllReady.cons rfl (fun K hK => ?_) ?_
        · go_simp
          go_at_call 45
          (with_reducible refine (TB.out _ HD.out.r).mono ?_)
          rintro e w2 ⟨rfl, ho⟩
          go_wp2
          exact ⟨rfl, .inl ⟨HN.out, rfl⟩, HD.out.s.only ho⟩
        · exact AllReady.nil
      | some x =>
        obtain ⟨x, r⟩ := x
        have TO := Lib.hid (fun W (hW : Rd B b0 g W s) => text_ok B b0 g s x r W hW hB HSL.out hg)
        have HM := Lib.hid ((HA.out).trans (all_step hlt hg))
        have HRL : Hid (r.length ≤ 1000000000) := Lib.hid (Nat.le_trans (getT_le hg).2.1 HSL.out)
        obtain ⟨X, hX⟩ : ∃ S : ByteArray, (⟨x.toArray⟩ : ByteArray) = S := ⟨_, rfl⟩
        have HX := Lib.hid hX
        rw [hX] at TO
        clear hg hX
        have HD := Lib.hid (show EnS B b0 g w.heap.size w wr.drew s _ from HE.out.drewN 1)
        have HOd : Hid (wr.drew.ownsRow (w.heap.size + 2) 9 1 v k (strsV L)) := Lib.hid HO.out
        go_wp2
        go_region_law (first
          | (go_simp; go_at_call 45; (with_reducible refine (TO.out _ HD.out.r).mono ?_); rintro e w2 ⟨rfl, hr, ho⟩; have E2 : Hid (EnS B b0 g w.heap.size w w2 r [.string X9, v, .string X10, .string ⟨#[]⟩, .string ⟨#[]⟩, .int .i64 m2, .string X11, .int .i64 m3, .slice none 0 0, .int .i64 (i64 m4), .int .i64 (i64 m5), .int .i64 (i64 m6), .int .i64 m7, .int .u32 m8, .slice none 0 0]) := Lib.hid (HD.out.call hg0 ho hr); have O2 : Hid (w2.ownsRow (w.heap.size + 2) 9 1 v k (strsV L)) := Lib.hid (own_only HOd.out ho (by omega)); have e2 := E2.out.e.cell (j := 1) rfl; have e2b := (World.cell?_alloc_lt w2 (.cells #[.string X] 9) ⟨w.heap.size + 1, 1, none⟩ E2.out.e.lt).trans e2; clear hr ho)
          | (refine step_appW str_ty rfl _ _ rfl (w.heap.size + 2) v k (strsV L) rfl (O2.out.alloc _) (w2.heap.size + 1) _ 1 1 [.string X] rfl (by have hq := (RowAt.new w2 9 [.string X]).slice (size := 1) (n := 1) (c := 1) rfl (Nat.le_refl _) (by simp [maxLen]); rw [World.size_alloc] at hq; exact hq) (one1 _ rfl) (by omega) (by simp only [maxLen]; omega) (by have := E2.out.e.lt; simp; omega) ?_; intro v3 w3 hown3 hgr3 _; obtain ⟨A3, c3, rfl, _⟩ := own_slice hown3; have E3 := Lib.hid (E2.out.mid hB hg0 ((Below.refl (w.heap.size + 2) w2).grown (grownBy_of_alloc hgr3) (by have := E2.out.e.lt; omega) (fun g hg => (O2.out.lt g hg).1))); have O3 := Lib.hid hown3; have e3 := E3.out.e.cell (j := 1) rfl; have q3 := E3.out.e.frozen (j := 1) (by simp); clear hown3 hgr3))
        all_goals
          go_wp2
          refine ⟨⟨k + 1, r, L ++ [x], _, by go_num, by omega, by simp [HL.out], HM.out, HRL.out, E3.out.put hB hg0 (j := 1) (by simp) _, own_put (by rw [show strsV (L ++ [x]) = strsV L ++ [.string X] by rw [← HX.out]; simp [strsV]]; exact O3.out) _ _ (by show w.heap.size + 1 < _; omega)⟩, by simp only [intOf]; omega⟩
    · obtain rfl : m12 = k := by omega
      have hh := H12.out
      rw [HA.out, all_end] at hh
      simp only at hh
      have H13 := Lib.hid hh
      have S13 := HE
      have HL13 := HSL
      have ON := HO
      have tok13 : True := trivial
      obtain ⟨l13, hl13⟩ : ∃ x, x = s := ⟨_, rfl⟩
      subst hl13
      obtain ⟨wa, hwa⟩ : ∃ x, x = wr := ⟨_, rfl⟩
      subst hwa
      obtain ⟨va, hva⟩ : ∃ x, x = v := ⟨_, rfl⟩
      subst hva
      obtain ⟨LN, hLN⟩ : ∃ x, x = L := ⟨_, rfl⟩
      subst hLN
      clear H12 HA e1 q1 hh HE HSL HO hlt
      go_wp2_with (first
        | (have _t := tok13; go_at_call 44; (with_reducible refine (NF.out l13 _ 1 1 rfl S13.out.r HL13.out (by omega)).mono ?_); rintro e w14 ⟨ho, ⟨m14, l14, hg, he, hr⟩ | ⟨hg, rfl⟩⟩; (have hm14 := (getN_lt hg).1; have HL14 : Hid (l14.length ≤ 1000000000) := Lib.hid (Nat.le_trans (getN_lt hg).2 HL13.out); rw [i64_small (by omega)] at he; subst he; have S14 := Lib.hid (S13.out.call hg0 ho hr); have hh := H13.out; simp only [hg] at hh; have H14 := Lib.hid hh; have ON14 := Lib.hid (own_only ON.out ho (by omega)); clear H13 ho hr hg hh; have tok14 : True := trivial); rotate_left; (have HB := Lib.hid (show OUT = none by have h := H13.out; simp only [hg] at h; exact h)); (have SV := Lib.hid (S13.out.s.only ho)); clear hg ho; rotate_left))
      rotate_left
      · exact ⟨rfl, .inl ⟨HB.out, rfl⟩, SV.out⟩
      clear ON S13 HL13
      go_loopw [61] (fun i wr => ∃ (k : Nat) (s : List UInt8) (L : List Fld) (v : Value), i = .int .i64 k ∧ k ≤ m14 ∧ L.length = k ∧ getAll getF m14 l14 = (getAll getF (m14 - k) s).map (fun y => (L ++ y.1, y.2)) ∧ s.length ≤ 1000000000 ∧ EnS B b0 g w.heap.size w wr s [.string X9, va, .string X10, .string ⟨#[]⟩, .string ⟨#[]⟩, .int .i64 m2, .string X11, .int .i64 m3, v, .int .i64 (i64 m4), .int .i64 (i64 m5), .int .i64 (i64 m6), .int .i64 m7, .int .u32 m8, .slice none 0 0] ∧ wr.ownsRow (w.heap.size + 2) 58 2 v k (fldsV L) ∧ KeepTy 9 w14 wr) (fun i _ => m14 - (intOf i).toNat)
      case atStart => exact ⟨0, l14, [], .slice none 0 0, rfl, by omega, rfl, by simp, HL14.out, S14.out, World.ownsRow_nil _ _ _ _, KeepTy.refl _ _⟩
      case round =>
        obtain ⟨k, s, L, v, rfl, hk, hL, hall, hsl, hens, hown, hkt⟩ := hrel
        have HA := Lib.hid hall
        have HE := Lib.hid hens
        have HO := Lib.hid hown
        have HL := Lib.hid hL
        have HSL := Lib.hid hsl
        have HK := Lib.hid hkt
        clear hall hens hown hL hsl hkt S14
        by_cases hlt : k < m14
        · cases hg : getT s with
          | none =>
            have TB := Lib.hid (text_bad B b0 g s wr HE.out.r hB HSL.out hg)
            have HN : Hid (OUT = none) := Lib.hid (by
              have h := H14.out
              rw [HA.out, all_stop hlt (by unfold getF; rw [hg])] at h
              exact h)
            clear hg
            go_wp2_with (go_at_call 45; (with_reducible refine TB.out.mono ?_); rintro e w2 ⟨rfl, ho⟩; have SV := Lib.hid (HE.out.s.only ho); clear ho)
            exact ⟨rfl, .inl ⟨HN.out, rfl⟩, SV.out⟩
          | some x =>
            obtain ⟨x, r⟩ := x
            have TO := Lib.hid (text_ok B b0 g s x r wr HE.out.r hB HSL.out hg)
            have HRL : Hid (r.length ≤ 1000000000) := Lib.hid (Nat.le_trans (getT_le hg).2.1 HSL.out)
            obtain ⟨X, hX⟩ : ∃ S : ByteArray, (⟨x.toArray⟩ : ByteArray) = S := ⟨_, rfl⟩
            have HX := Lib.hid hX
            rw [hX] at TO
            clear hX
            cases hg2 : getT r with
            | none =>
              have TB := Lib.hid (fun W (hW : Rd B b0 g W r) => text_bad B b0 g r W hW hB HRL.out hg2)
              have HN : Hid (OUT = none) := Lib.hid (by
                have h := H14.out
                rw [HA.out, all_stop hlt (by unfold getF; rw [hg]; simp only; rw [hg2]; rfl)] at h
                exact h)
              clear hg hg2
              go_wp2_with (first
                | (go_at_call 45; (with_reducible refine TO.out.mono ?_); rintro e w2 ⟨rfl, hr, ho⟩; have E2 := Lib.hid ((HE.out.call hg0 ho hr).mid hB hg0 (show Below (w.heap.size + 2) w2 (w2.alloc (.cells #[.string X, .string ⟨#[]⟩] 58)) from (Below.refl _ _).alloc (by have := ((HE.out.call hg0 ho hr).e).lt; omega) _)); have tokx : True := trivial; clear hr ho TO)
                | (have _t := tokx; go_at_call 45; (with_reducible refine (TB.out _ E2.out.r).mono ?_); rintro e w3 ⟨rfl, ho⟩; have SV := Lib.hid (E2.out.s.only ho); clear ho))
              exact ⟨rfl, .inl ⟨HN.out, rfl⟩, SV.out⟩
            | some y =>
              obtain ⟨y, r2⟩ := y
              have TO2 := Lib.hid (fun W (hW : Rd B b0 g W r) => text_ok B b0 g r y r2 W hW hB HRL.out hg2)
              have HM := Lib.hid ((HA.out).trans (all_step (x := (x, y)) (r := r2) hlt (by unfold getF; rw [hg]; simp only; rw [hg2]; rfl)))
              have HRL2 : Hid (r2.length ≤ 1000000000) := Lib.hid (Nat.le_trans (getT_le hg2).2.1 HRL.out)
              obtain ⟨Y, hY⟩ : ∃ S : ByteArray, (⟨y.toArray⟩ : ByteArray) = S := ⟨_, rfl⟩
              have HY := Lib.hid hY
              simp only [hY] at TO2
              clear hg hg2 hY
              go_wp2_with (first
                | (go_at_call 45; (with_reducible refine TO.out.mono ?_); rintro e w2 ⟨rfl, hr, ho⟩
                   have Ea := HE.out.call hg0 ho hr
                   have hlt2 := Ea.e.lt
                   have E2 := Lib.hid (Ea.mid hB hg0 (show Below (w.heap.size + 2) w2 (w2.alloc (.cells #[.string X, .string ⟨#[]⟩] 58)) from (Below.refl _ _).alloc (by omega) _))
                   have O2 := Lib.hid ((own_only HO.out ho (by omega)).alloc (.cells #[.string X, .string ⟨#[]⟩] 58))
                   have O2l := Lib.hid ((own_only HO.out ho (by omega)).lt)
                   have F2 := Lib.hid (RowAt.new w2 58 [.string X, .string ⟨#[]⟩])
                   obtain ⟨_, _, hrr, _⟩ := HE.out.r
                   have K2 := Lib.hid ((HK.out.trans (KeepTy.only ho hrr (by decide))).trans (KeepTy.below ((Below.refl _ _).alloc (Nat.le_refl _) (.cells #[.string X, .string ⟨#[]⟩] 58))))
                   have tokx : True := trivial
                   clear hr ho TO Ea hrr)
                | (have _t := tokx; go_at_call 45; (with_reducible refine (TO2.out _ E2.out.r).mono ?_); rintro e w3 ⟨rfl, hr, ho⟩
                   have Eb := E2.out.call hg0 ho hr
                   have F3 := F2.out.only ho (by omega)
                   have O3 := own_only O2.out ho (by omega)
                   obtain ⟨_, _, hrr, _⟩ := E2.out.r
                   have K3 := K2.out.trans (KeepTy.only ho hrr (by decide))
                   have u0 := F3.cell (j := 1) rfl
                   have u1 := F3.frozen (j := 1) (by simp)
                   obtain ⟨w4, hw4⟩ : ∃ W, w3.setCell ⟨w2.heap.size, 1, none⟩ (.string Y) = W := ⟨_, rfl⟩
                   have F4 := F3.set_ (j := 1) (by simp) (.string Y)
                   have E4 := Eb.mid hB hg0 (below_put (w.heap.size + 2) w3 ⟨w2.heap.size, 1, none⟩ (.string Y) (by show w.heap.size + 2 ≤ w2.heap.size; omega))
                   have O4 := own_far O3 ⟨w2.heap.size, 1, none⟩ (.string Y) (fun k hk => by have := (O2l.out k hk).2; show k ≠ w2.heap.size; omega)
                   have K4 := K3.trans (KeepTy.put (o := 1) F3 (by decide) (.string Y))
                   rw [hw4] at F4 E4 O4 K4
                   have F4 := Lib.hid F4
                   have E4 := Lib.hid E4
                   have O4 := Lib.hid O4
                   have K4 := Lib.hid K4
                   have y0 := F4.out.cell (j := 0) rfl
                   have y1 := F4.out.cell (j := 1) rfl
                   have y8 := E4.out.e.cell (j := 8) rfl
                   clear hr ho Eb F3 O3 hrr K3)
                | (at_builtin; refine wpList_app fld_ty rfl _ _ rfl (w.heap.size + 2) _ _ _ rfl O4.out 1 1 [.string X, .string Y] rfl (by rfl) (fldsV_one [(x, y)] |> fun h => by rw [show fldsV [(x, y)] = [.string X, .string Y] by rw [← HX.out, ← HY.out]; rfl] at h; exact h) (by omega) (by simp only [maxLen]; omega) (by have := E4.out.e.lt; omega) ?_; intro v5 w5 hown5 hgr5; obtain ⟨A5, c5, rfl, _⟩ := own_slice hown5
                   have E5 := Lib.hid (E4.out.mid hB hg0 ((Below.refl (w.heap.size + 2) w4).grown hgr5 (by have := E4.out.e.lt; omega) (fun g hg => (O4.out.lt g hg).1)))
                   have O5 := Lib.hid hown5
                   have K5 := Lib.hid (K4.out.trans (KeepTy.grown O4.out hgr5 (by decide)))
                   have z8 := E5.out.e.cell (j := 8) rfl
                   have zf8 := E5.out.e.frozen (j := 8) (by simp)
                   clear hown5 hgr5))
              refine ⟨⟨k + 1, r2, L ++ [(x, y)], _, by go_num, by omega, by simp [HL.out], HM.out, HRL2.out, E5.out.put hB hg0 (j := 8) (by simp) _, own_put (by rw [show fldsV (L ++ [(x, y)]) = fldsV L ++ [.string X, .string Y] by rw [← HX.out, ← HY.out, fldsV_append]; rfl]; exact O5.out) _ _ (by show w.heap.size + 1 < _; omega), K5.out.trans (KeepTy.put (o := 8) E5.out.e (by decide) _)⟩, by simp only [intOf]; omega⟩
        · obtain rfl : m14 = k := by omega
          have hh := H14.out
          rw [HA.out, all_end] at hh
          simp only at hh
          have H15 := Lib.hid hh
          have S15 := HE
          have HL15 := HSL
          have OF := HO
          have ON15 := Lib.hid (own_keepTy ON14.out HK.out)
          have tok15 : True := trivial
          obtain ⟨l15, hl15⟩ : ∃ x, x = s := ⟨_, rfl⟩
          subst hl15
          obtain ⟨wb, hwb⟩ : ∃ x, x = wr := ⟨_, rfl⟩
          subst hwb
          obtain ⟨vb, hvb⟩ : ∃ x, x = v := ⟨_, rfl⟩
          subst hvb
          obtain ⟨LF, hLF⟩ : ∃ x, x = L := ⟨_, rfl⟩
          subst hLF
          have HLF := HL
          clear H14 HA HE HSL HO HK hh hlt ON14 HL
          go_wp2_with (first
            | (have _t := tok15; go_at_call 44; (with_reducible refine (NF.out l15 _ 1 1 rfl S15.out.r HL15.out (by omega)).mono ?_); rintro e w16 ⟨ho, ⟨m16, l16, hg, he, hr⟩ | ⟨hg, rfl⟩⟩; (have hm16 := (getN_lt hg).1; have HL16 : Hid (l16.length ≤ 1000000000) := Lib.hid (Nat.le_trans (getN_lt hg).2 HL15.out); rw [i64_small (by omega)] at he; subst he; have S16 := Lib.hid (S15.out.call hg0 ho hr); have hh := H15.out; simp only [hg] at hh; have H16 := Lib.hid hh; have ON16 := Lib.hid (own_only ON15.out ho (by omega)); have OF16 := Lib.hid (own_only OF.out ho (by omega)); clear H15 ho hr hg hh; have tok16 : True := trivial); rotate_left; (have HB := Lib.hid (show OUT = none by have h := H15.out; simp only [hg] at h; exact h)); (have SV := Lib.hid (S15.out.s.only ho)); clear hg ho; rotate_left))
          rotate_left
          · exact ⟨rfl, .inl ⟨HB.out, rfl⟩, SV.out⟩
          clear ON15 OF S15 HL15
          go_loopw [78] (fun i wr => ∃ (k : Nat) (s : List UInt8) (L : List (Int × Int)) (v : Value), i = .int .i64 k ∧ k ≤ m16 ∧ L.length = k ∧ getAll getX m16 l16 = (getAll getX (m16 - k) s).map (fun y => (L ++ y.1, y.2)) ∧ s.length ≤ 1000000000 ∧ EnS B b0 g w.heap.size w wr s [.string X9, va, .string X10, .string ⟨#[]⟩, .string ⟨#[]⟩, .int .i64 m2, .string X11, .int .i64 m3, vb, .int .i64 (i64 m4), .int .i64 (i64 m5), .int .i64 (i64 m6), .int .i64 m7, .int .u32 m8, v] ∧ wr.ownsRow (w.heap.size + 2) 60 2 v k (extsV L) ∧ KeepTy 9 w16 wr ∧ KeepTy 58 w16 wr) (fun i _ => m16 - (intOf i).toNat)
          case atStart => exact ⟨0, l16, [], .slice none 0 0, rfl, by omega, rfl, by simp, HL16.out, S16.out, World.ownsRow_nil _ _ _ _, KeepTy.refl _ _, KeepTy.refl _ _⟩
          case round =>
            obtain ⟨k, s, L, v, rfl, hk, hL, hall, hsl, hens, hown, hkt, hkf⟩ := hrel
            have HA := Lib.hid hall
            have HE := Lib.hid hens
            have HO := Lib.hid hown
            have HL := Lib.hid hL
            have HSL := Lib.hid hsl
            have HK := Lib.hid hkt
            have HF := Lib.hid hkf
            clear hall hens hown hL hsl hkt hkf S16
            by_cases hlt : k < m16
            · cases hg : getN 4 s with
              | none =>
                have TB := Lib.hid (number_bad B b0 g s 4 4 wr HE.out.r rfl (getN_none hg))
                have HN : Hid (OUT = none) := Lib.hid (by
                  have h := H16.out
                  rw [HA.out, all_stop hlt (by unfold getX; rw [hg])] at h
                  exact h)
                clear hg
                go_wp2_with (go_at_call 44; (with_reducible refine TB.out.mono ?_); rintro e w2 ⟨rfl, rfl⟩)
                exact ⟨rfl, .inl ⟨HN.out, rfl⟩, HE.out.s⟩
              | some x =>
                obtain ⟨x, r⟩ := x
                have TO := Lib.hid (num4_ok B b0 g s r x wr HE.out.r hB HSL.out hg)
                have HRL : Hid (r.length ≤ 1000000000) := Lib.hid (Nat.le_trans (getN_lt hg).2 HSL.out)
                cases hg2 : getN 4 r with
                | none =>
                  have TB := Lib.hid (fun W (hW : Rd B b0 g W r) => number_bad B b0 g r 4 4 W hW rfl (getN_none hg2))
                  have HN : Hid (OUT = none) := Lib.hid (by
                    have h := H16.out
                    rw [HA.out, all_stop hlt (by unfold getX; rw [hg]; simp only; rw [hg2]; rfl)] at h
                    exact h)
                  clear hg hg2
                  go_wp2_with (first
                    | (go_at_call 44; (with_reducible refine TO.out.mono ?_); rintro e w2 ⟨rfl, hr, ho⟩; have E2 := Lib.hid ((HE.out.call hg0 ho hr).mid hB hg0 (show Below (w.heap.size + 2) w2 (w2.alloc (.cells #[.int .i64 x, .int .i64 0] 60)) from (Below.refl _ _).alloc (by have := ((HE.out.call hg0 ho hr).e).lt; omega) _)); have tokx : True := trivial; clear hr ho TO)
                    | (have _t := tokx; go_at_call 44; (with_reducible refine (TB.out _ E2.out.r).mono ?_); rintro e w3 ⟨rfl, rfl⟩))
                  exact ⟨rfl, .inl ⟨HN.out, rfl⟩, E2.out.s⟩
                | some y =>
                  obtain ⟨y, r2⟩ := y
                  have TO2 := Lib.hid (fun W (hW : Rd B b0 g W r) => num4_ok B b0 g r r2 y W hW hB HRL.out hg2)
                  have HM := Lib.hid ((HA.out).trans (all_step (x := ((x : Int), (y : Int))) (r := r2) hlt (by unfold getX; rw [hg]; simp only; rw [hg2]; rfl)))
                  have HRL2 : Hid (r2.length ≤ 1000000000) := Lib.hid (Nat.le_trans (getN_lt hg2).2 HRL.out)
                  clear hg hg2
                  go_wp2_with (first
                    | (go_at_call 44; (with_reducible refine TO.out.mono ?_); rintro e w2 ⟨rfl, hr, ho⟩
                       have Ea := HE.out.call hg0 ho hr
                       have hlt2 := Ea.e.lt
                       have E2 := Lib.hid (Ea.mid hB hg0 (show Below (w.heap.size + 2) w2 (w2.alloc (.cells #[.int .i64 x, .int .i64 0] 60)) from (Below.refl _ _).alloc (by omega) _))
                       have O2 := Lib.hid ((own_only HO.out ho (by omega)).alloc (.cells #[.int .i64 x, .int .i64 0] 60))
                       have O2l := Lib.hid ((own_only HO.out ho (by omega)).lt)
                       have F2 := Lib.hid (RowAt.new w2 60 [.int .i64 x, .int .i64 0])
                       obtain ⟨_, _, hrr, _⟩ := HE.out.r
                       have K2 := Lib.hid ((HK.out.trans (KeepTy.only ho hrr (by decide))).trans (KeepTy.below ((Below.refl _ _).alloc (Nat.le_refl _) (.cells #[.int .i64 x, .int .i64 0] 60))))
                       have J2 := Lib.hid ((HF.out.trans (KeepTy.only ho hrr (by decide))).trans (KeepTy.below ((Below.refl _ _).alloc (Nat.le_refl _) (.cells #[.int .i64 x, .int .i64 0] 60))))
                       have tokx : True := trivial
                       clear hr ho TO Ea hrr)
                    | (have _t := tokx; go_at_call 44; (with_reducible refine (TO2.out _ E2.out.r).mono ?_); rintro e w3 ⟨rfl, hr, ho⟩
                       have Eb := E2.out.call hg0 ho hr
                       have F3 := F2.out.only ho (by omega)
                       have O3 := own_only O2.out ho (by omega)
                       obtain ⟨_, _, hrr, _⟩ := E2.out.r
                       have K3 := K2.out.trans (KeepTy.only ho hrr (by decide))
                       have J3 := J2.out.trans (KeepTy.only ho hrr (by decide))
                       have u0 := F3.cell (j := 1) rfl
                       have u1 := F3.frozen (j := 1) (by simp)
                       obtain ⟨w4, hw4⟩ : ∃ W, w3.setCell ⟨w2.heap.size, 1, none⟩ (.int .i64 y) = W := ⟨_, rfl⟩
                       have F4 := F3.set_ (j := 1) (by simp) (.int .i64 y)
                       have E4 := Eb.mid hB hg0 (below_put (w.heap.size + 2) w3 ⟨w2.heap.size, 1, none⟩ (.int .i64 y) (by show w.heap.size + 2 ≤ w2.heap.size; omega))
                       have O4 := own_far O3 ⟨w2.heap.size, 1, none⟩ (.int .i64 y) (fun k hk => by have := (O2l.out k hk).2; show k ≠ w2.heap.size; omega)
                       have K4 := K3.trans (KeepTy.put (o := 1) F3 (by decide) (.int .i64 y))
                       have J4 := J3.trans (KeepTy.put (o := 1) F3 (by decide) (.int .i64 y))
                       rw [hw4] at F4 E4 O4 K4 J4
                       have F4 := Lib.hid F4
                       have E4 := Lib.hid E4
                       have O4 := Lib.hid O4
                       have K4 := Lib.hid K4
                       have J4 := Lib.hid J4
                       have y0 := F4.out.cell (j := 0) rfl
                       have y1 := F4.out.cell (j := 1) rfl
                       have y14 := E4.out.e.cell (j := 14) rfl
                       clear hr ho Eb F3 O3 hrr K3 J3)
                    | (at_builtin; refine wpList_app ext_ty rfl _ _ rfl (w.heap.size + 2) _ _ _ rfl O4.out 1 1 [.int .i64 x, .int .i64 y] rfl (by rfl) (extsV_one [((x : Int), (y : Int))]) (by omega) (by simp only [maxLen]; omega) (by have := E4.out.e.lt; omega) ?_; intro v5 w5 hown5 hgr5; obtain ⟨A5, c5, rfl, _⟩ := own_slice hown5
                       have E5 := Lib.hid (E4.out.mid hB hg0 ((Below.refl (w.heap.size + 2) w4).grown hgr5 (by have := E4.out.e.lt; omega) (fun g hg => (O4.out.lt g hg).1)))
                       have O5 := Lib.hid hown5
                       have K5 := Lib.hid (K4.out.trans (KeepTy.grown O4.out hgr5 (by decide)))
                       have J5 := Lib.hid (J4.out.trans (KeepTy.grown O4.out hgr5 (by decide)))
                       have z14 := E5.out.e.cell (j := 14) rfl
                       have zf14 := E5.out.e.frozen (j := 14) (by simp)
                       clear hown5 hgr5))
                  refine ⟨⟨k + 1, r2, L ++ [((x : Int), (y : Int))], _, by go_num, by omega, by simp [HL.out], HM.out, HRL2.out, E5.out.put hB hg0 (j := 14) (by simp) _, own_put (by rw [extsV_append]; exact O5.out) _ _ (by show w.heap.size + 1 < _; omega), K5.out.trans (KeepTy.put (o := 14) E5.out.e (by decide) _), J5.out.trans (KeepTy.put (o := 14) E5.out.e (by decide) _)⟩, by simp only [intOf]; omega⟩
            · obtain rfl : m16 = k := by omega
              have hh := H16.out
              rw [HA.out, all_end] at hh
              simp only at hh
              have HR := Lib.hid hh
              have ON := Lib.hid (own_keepTy ON16.out HK.out)
              have OF := Lib.hid (own_keepTy OF16.out HF.out)
              obtain ⟨A1, c1, hva, SN⟩ := own_slice ON.out
              obtain ⟨A2, c2, hvb, SF⟩ := own_slice OF.out
              obtain ⟨A3, c3, hv, SX⟩ := own_slice HO.out
              subst hva hvb hv
              obtain ⟨CS, hCS⟩ : ∃ CS : List Value, [.string X9, .slice A1 m12 c1, .string X10, .string ⟨#[]⟩, .string ⟨#[]⟩, .int .i64 m2, .string X11, .int .i64 m3, .slice A2 m14 c2, .int .i64 (i64 m4), .int .i64 (i64 m5), .int .i64 (i64 m6), .int .i64 m7, .int .u32 m8, .slice A3 m16 c3] = CS := ⟨_, rfl⟩
              rw [hCS] at HE
              have HCS := Lib.hid hCS
              have HCl : Hid ((Tryd.prog.info? 33).map (·.size) = some CS.length) := Lib.hid (by rw [← hCS]; kernel_rfl)
              have HCl2 : Hid (CS.length = 15) := Lib.hid (by rw [← hCS]; rfl)
              have HC1 : Hid (∀ v ∈ CS, v.oneCell' = true) := Lib.hid (by rw [← hCS]; simp [Value.oneCell'])
              have SN := Lib.hid SN
              have SF := Lib.hid SF
              have SX := Lib.hid SX
              clear H16 HA hh HSL hCS ON16 OF16 HK HF
              go_wp2_with (first
                | (refine wpList_load_g (wanted_un rfl) 33 _ rfl (w.heap.size + 1) 0 rfl CS _ (rangeOf HE.out.e) Tryd.underlying33 rfl HCl.out ?_)
                | (refine wpList_store_row rfl 33 _ _ rfl w.heap.size _ CS [.string ⟨#[]⟩, .slice none 0 0, .string ⟨#[]⟩, .string ⟨#[]⟩, .string ⟨#[]⟩, .int .i64 0, .string ⟨#[]⟩, .int .i64 0, .slice none 0 0, .int .i64 0, .int .i64 0, .int .i64 0, .int .i64 0, .int .u32 0, .slice none 0 0] rfl rfl HE.out.z (by rw [HCl2.out]; rfl) HCl.out HC1.out ?_; intro wz hrz hoz; have RZ := Lib.hid hrz; have OZ := Lib.hid hoz; clear hrz hoz))
              have bz := OZ.out.below (Below.refl w.heap.size wr) (Nat.le_refl _)
              refine bodyPost_ret (v := .agg CS.toArray) ?_ rfl ?_
              · exact results_cell Tryd.results19 _ wz ⟨w.heap.size, 0, none⟩ rfl _ (run_loadVar_mid wz w.heap.size 0 33 CS _ (rangeOf RZ.out) Tryd.underlying33 rfl HCl.out)
              · refine ⟨.inr ⟨⟨s9, LN, s10, [], [], m2, s11, m3, LF, i64 m4, i64 m5, i64 m6, m7, m8, L⟩, s, ⟨A1, m12, c1, A2, m14, c2, A3, m16, c3⟩, HR.out, ?_, ⟨own_only ON.out OZ.out (by omega), own_only OF.out OZ.out (by omega), own_only HO.out OZ.out (by omega)⟩, HE.out.r.keep hB hg0 bz⟩, HE.out.s.trans (below_save bz)⟩
                rw [← HCS.out, ← HX9.out, ← HX10.out, ← HX11.out]
                rfl
end Go.Proofs.YtkodeeneljkgeaaDoor
