/- Ec: several texts, one behind the other. -/
import Derived.Test.YtkodeeneljkgeaaDoorEn13
/- Layer 19: entries compared, put together as octets, by the code and by the document; are its lists short enough? Condition: the entry's own (EntS), its octets' number. -/
namespace IH
def sameE (a b : Entry) : Bool :=
  ((a.uri == b.uri) && ((a.variant == b.variant) && (((a.method == b.method) && ((a.target == b.target) && ((a.status == b.status) && ((a.reason == b.reason) && (a.minor == b.minor))))) && (((a.asked == b.asked) && (a.got == b.got)) && ((a.order == b.order) && ((a.size == b.size) && (a.sum == b.sum)))))))
  && ((a.names == b.names) && ((a.fields == b.fields) && (a.body == b.body)))
theorem sameE_iff {a b : Entry} : sameE a b = true ↔ a = b := by
  obtain ⟨a1, a2, a3, a4, a5, a6, a7, a8, a9, a10, a11, a12, a13, a14, a15⟩ := a
  obtain ⟨b1, b2, b3, b4, b5, b6, b7, b8, b9, b10, b11, b12, b13, b14, b15⟩ := b
  simp only [sameE, Bool.and_eq_true, beq_iff_eq, Entry.mk.injEq]
  constructor
  · rintro ⟨⟨h1, h2, ⟨h3, h4, h5, h6, h7⟩, ⟨h8, h9⟩, h10, h11, h12⟩, h13, h14, h15⟩
    exact ⟨h1, h13, h2, h3, h4, h5, h6, h7, h14, h8, h9, h10, h11, h12, h15⟩
  · rintro ⟨h1, h13, h2, h3, h4, h5, h6, h7, h14, h8, h9, h10, h11, h12, h15⟩
    exact ⟨⟨h1, h2, ⟨h3, h4, h5, h6, h7⟩, ⟨h8, h9⟩, h10, h11, h12⟩, h13, h14, h15⟩
theorem sameE_refl (a : Entry) : sameE a a = true := sameE_iff.2 rfl
def fewE (e : Entry) : Bool :=
  !(decide (300 < e.uri.length) || (decide (300 < e.variant.length) || (decide (500 < e.reason.length) || (decide (140 < e.names.length) || (decide (140 < e.fields.length) || decide (20 < e.body.length))))))
  && (e.names.all (fun s => decide (s.length ≤ 200)) && e.fields.all (fun f => decide (f.1.length ≤ 200) && decide (f.2.length ≤ 500)))
structure FewE (e : Entry) : Prop where
  u : e.uri.length ≤ 300
  v : e.variant.length ≤ 300
  r : e.reason.length ≤ 500
  n : e.names.length ≤ 140
  f : e.fields.length ≤ 140
  b : e.body.length ≤ 20
  ns : ∀ s ∈ e.names, s.length ≤ 200
  fs : ∀ f ∈ e.fields, f.1.length ≤ 200 ∧ f.2.length ≤ 500
theorem fewE_iff {e : Entry} : fewE e = true ↔ FewE e := by
  simp only [fewE, Bool.and_eq_true, Bool.not_eq_true', Bool.or_eq_false_iff, decide_eq_false_iff_not, List.all_eq_true, decide_eq_true_eq]
  constructor
  · rintro ⟨⟨h1, h2, h3, h4, h5, h6⟩, h7, h8⟩
    exact ⟨by omega, by omega, by omega, by omega, by omega, by omega, h7, h8⟩
  · rintro ⟨h1, h2, h3, h4, h5, h6, h7, h8⟩
    exact ⟨⟨by omega, by omega, by omega, by omega, by omega, by omega⟩, h7, h8⟩
theorem flat_le {α : Type} {f : α → List UInt8} {c : Nat} : ∀ L : List α, (∀ x ∈ L, (f x).length ≤ c) → (L.flatMap f).length ≤ L.length * c
  | [], _ => by simp
  | x :: l, h => by
    have h1 := h x (by simp)
    have h2 := flat_le l fun y hy => h y (by simp [hy])
    rw [List.flatMap_cons, List.length_append, List.length_cons, Nat.add_mul, Nat.one_mul]
    omega
theorem packL_length (e : Entry) : (packL e).length = 45 + e.uri.length + e.variant.length + e.reason.length + (e.names.flatMap textB).length + (e.fields.flatMap fieldB).length + (e.body.flatMap extB).length := by
  unfold packL
  simp only [List.length_append, numB_length, textB_size, List.length_singleton]
  generalize (e.names.flatMap textB).length = a
  generalize (e.fields.flatMap fieldB).length = b
  generalize (e.body.flatMap extB).length = c
  generalize e.uri.length = d
  generalize e.variant.length = f
  generalize e.reason.length = g
  omega
theorem few_pack {e : Entry} (h : FewE e) : (packL e).length ≤ 200000 := by
  have h1 := flat_le (f := textB) (c := 202) e.names fun s hs => by rw [textB_size]; have := h.ns s hs; omega
  have h2 := flat_le (f := fieldB) (c := 704) e.fields fun s hs => by unfold fieldB; rw [List.length_append, textB_size, textB_size]; have := h.fs s hs; omega
  have h3 := flat_le (f := extB) (c := 8) e.body fun s hs => by unfold extB; rw [List.length_append, numB_length, numB_length]; omega
  have h4 := h.u
  have h5 := h.v
  have h6 := h.r
  have h7 := h.n
  have h8 := h.f
  have h9 := h.b
  rw [packL_length]
  generalize (e.names.flatMap textB).length = a at *
  generalize (e.fields.flatMap fieldB).length = b at *
  generalize (e.body.flatMap extB).length = c at *
  clear h
  omega
end IH
namespace Go.Proofs.YtkodeeneljkgeaaDoor
open Go.RowKit IH
set_option maxRecDepth 100000
theorem start_of (a b : Entry) (w : World) : (binOp .eql 26 (.agg #[.string ⟨a.method.toArray⟩, .string ⟨a.target.toArray⟩, .int .i64 a.status, .string ⟨a.reason.toArray⟩, .int .i64 a.minor]) (.agg #[.string ⟨b.method.toArray⟩, .string ⟨b.target.toArray⟩, .int .i64 b.status, .string ⟨b.reason.toArray⟩, .int .i64 b.minor])).run Tryd.prog w = .ok (.bool ((a.method == b.method) && ((a.target == b.target) && ((a.status == b.status) && ((a.reason == b.reason) && (a.minor == b.minor)))))) w := by
  have h := start_eql ⟨a.method.toArray⟩ ⟨a.target.toArray⟩ ⟨a.reason.toArray⟩ ⟨b.method.toArray⟩ ⟨b.target.toArray⟩ ⟨b.reason.toArray⟩ a.status a.minor b.status b.minor w
  rw [toList_mk, toList_mk, toList_mk, toList_mk, toList_mk, toList_mk] at h
  exact h
theorem esame_any (a b : Entry) (p q : EntA) (w : World) (ha : EntIn w w.heap.size a p) (hb : EntIn w w.heap.size b q) (hs : p.n1 ≤ 1000000000 ∧ p.n2 ≤ 1000000000 ∧ p.n3 ≤ 1000000000) :
    Calls Tryd.prog 11 #[.agg (entC a p).toArray, .agg (entC b q).toArray] w fun e w' => e = .returned (.bool (sameE a b)) ∧ Below w.heap.size w w' :=
  esame_raw ⟨a.uri.toArray⟩ ⟨a.variant.toArray⟩ ⟨a.method.toArray⟩ ⟨a.target.toArray⟩ ⟨a.reason.toArray⟩ ⟨b.uri.toArray⟩ ⟨b.variant.toArray⟩ ⟨b.method.toArray⟩ ⟨b.target.toArray⟩ ⟨b.reason.toArray⟩ p.A1 p.A2 p.A3 q.A1 q.A2 q.A3 p.n1 p.c1 p.n2 p.c2 p.n3 p.c3 q.n1 q.c1 q.n2 q.c2 q.n3 q.c3
    a.status a.minor a.asked a.got a.order a.size a.sum b.status b.minor b.asked b.got b.order b.size b.sum w _ _ _ _ _ _ _ _ _ _
    (by rw [toList_mk, toList_mk]) (by rw [toList_mk, toList_mk]) (start_of a b) (times_eql _ _ _ _) rfl rfl rfl
    (fun W hW => sEqual_strs _ _ _ _ _ _ _ _ W (ha.at_ hW).names (hb.at_ hW).names hs.1) (fun W hW => sEqual_flds _ _ _ _ _ _ _ _ W (ha.at_ hW).fields (hb.at_ hW).fields hs.2.1) (fun W hW => sEqual_exts _ _ _ _ _ _ _ _ W (ha.at_ hW).body (hb.at_ hW).body hs.2.2)
theorem rsame19_any (a b : Entry) (p q : EntA) (w : World) (ha : EntIn w w.heap.size a p) (hb : EntIn w w.heap.size b q) (hs : p.n1 ≤ 1000000000 ∧ p.n2 ≤ 1000000000 ∧ p.n3 ≤ 1000000000) :
    Calls Tryd.prog 9 #[.agg (entC a p).toArray, .agg (entC b q).toArray] w fun e w' => e = .returned (.bool (sameE a b)) ∧ Below w.heap.size w w' :=
  rsame_raw ⟨a.uri.toArray⟩ ⟨a.variant.toArray⟩ ⟨a.method.toArray⟩ ⟨a.target.toArray⟩ ⟨a.reason.toArray⟩ ⟨b.uri.toArray⟩ ⟨b.variant.toArray⟩ ⟨b.method.toArray⟩ ⟨b.target.toArray⟩ ⟨b.reason.toArray⟩ p.A1 p.A2 p.A3 q.A1 q.A2 q.A3 p.n1 p.c1 p.n2 p.c2 p.n3 p.c3 q.n1 q.c1 q.n2 q.c2 q.n3 q.c3
    a.status a.minor a.asked a.got a.order a.size a.sum b.status b.minor b.asked b.got b.order b.size b.sum w _ _ _ _ _ _ _ _ _ _
    (by rw [toList_mk, toList_mk]) (by rw [toList_mk, toList_mk]) (start_of a b) (times_eql _ _ _ _) rfl rfl rfl a.body b.body ha.body hb.body hs.2.2 rfl
    (fun W hW => refSame1_two _ _ _ _ _ _ _ _ W (ha.at_ hW).names (hb.at_ hW).names hs.1) (fun W hW => refSame3_two _ _ _ _ _ _ _ _ W (ha.at_ hW).fields (hb.at_ hW).fields hs.2.1)
theorem epack_any (e : Entry) (p : EntA) (w : World) (hin : EntIn w w.heap.size e p) (hs : EntS e p) (hr : rightE e = true) (hk : PackOk e) (hl : (packL e).length ≤ 500000000) :
    Calls Tryd.prog 13 #[.agg (entC e p).toArray] w fun x w' => ((8000 < (packL e).length → x = .returned (.tuple #[.slice none 0 0, .int .i64 12])) ∧ ((packL e).length ≤ 8000 → ∃ v, x = .returned (.tuple #[v, .int .i64 0]) ∧ w'.ownsRow w.heap.size 5 1 v (packL e).length (bytesV (packL e)))) ∧ Below w.heap.size w w' := by
  obtain ⟨st, e1⟩ := Int.eq_ofNat_of_zero_le hk.s0
  obtain ⟨mi, e2⟩ := Int.eq_ofNat_of_zero_le hk.m0
  obtain ⟨as_, e3⟩ := Int.eq_ofNat_of_zero_le hk.a0
  obtain ⟨go_, e4⟩ := Int.eq_ofNat_of_zero_le hk.g0
  obtain ⟨or_, e5⟩ := Int.eq_ofNat_of_zero_le hk.o0
  obtain ⟨sz, e6⟩ := Int.eq_ofNat_of_zero_le hk.z0
  obtain ⟨su, e7⟩ := Int.eq_ofNat_of_zero_le hk.u0
  have hn1 : e.names.length = p.n1 := by have := hin.names.1; rw [strsV_length] at this; omega
  have h := epack_raw ⟨e.uri.toArray⟩ ⟨e.variant.toArray⟩ ⟨e.method.toArray⟩ ⟨e.target.toArray⟩ ⟨e.reason.toArray⟩ p.A1 p.n1 p.c1 p.A2 p.n2 p.c2 p.A3 p.n3 p.c3 st mi as_ go_ or_ sz su e.names e.fields e.body w hin.names hin.fields hin.body hs.n1 hs.n2 hs.n3
    (by have := hk.s1; omega) (by have := hk.m1; omega) (by have := hk.a1; omega) (by have := hk.g1; omega) (by have := hk.o1; omega) (by have := hk.z1; omega) (by have := hk.u1; omega) hk.ext
    (fun W hW => by
      have h := eright_any e p W (hin.at_ hW) hs
      rw [hr] at h
      unfold entC at h
      rw [e1, e2, e3, e4, e5, e6, e7] at h
      exact h) (packL e) hl (by
      unfold packL
      rw [e1, e2, e3, e4, e5, e6, e7, hn1, fld_count hin.fields, ext_count hin.body]
      rfl)
  unfold entC
  rw [e1, e2, e3, e4, e5, e6, e7]
  exact h
theorem rpack_any (e : Entry) (p : EntA) (w : World) (hin : EntIn w w.heap.size e p) (hs : EntS e p) (hk : PackOk e) (hl : (packL e).length ≤ 500000000) :
    Calls Tryd.prog 15 #[.agg (entC e p).toArray] w fun x w' => ∃ v, x = .returned v ∧ w'.ownsRow w.heap.size 5 1 v (packL e).length (bytesV (packL e)) ∧ Below w.heap.size w w' := by
  obtain ⟨st, e1⟩ := Int.eq_ofNat_of_zero_le hk.s0
  obtain ⟨mi, e2⟩ := Int.eq_ofNat_of_zero_le hk.m0
  obtain ⟨as_, e3⟩ := Int.eq_ofNat_of_zero_le hk.a0
  obtain ⟨go_, e4⟩ := Int.eq_ofNat_of_zero_le hk.g0
  obtain ⟨or_, e5⟩ := Int.eq_ofNat_of_zero_le hk.o0
  obtain ⟨sz, e6⟩ := Int.eq_ofNat_of_zero_le hk.z0
  obtain ⟨su, e7⟩ := Int.eq_ofNat_of_zero_le hk.u0
  have hn1 : e.names.length = p.n1 := by have := hin.names.1; rw [strsV_length] at this; omega
  have hsum : (⟨e.uri.toArray⟩ : ByteArray).size + (⟨e.variant.toArray⟩ : ByteArray).size + (⟨e.reason.toArray⟩ : ByteArray).size + (e.names.flatMap textB).length + (e.fields.flatMap fieldB).length ≤ 1000000000 := by
    rw [size_mk, size_mk, size_mk]
    rw [packL_length] at hl
    omega
  have h := rpack_raw ⟨e.uri.toArray⟩ ⟨e.variant.toArray⟩ ⟨e.method.toArray⟩ ⟨e.target.toArray⟩ ⟨e.reason.toArray⟩ p.A1 p.n1 p.c1 p.A2 p.n2 p.c2 p.A3 p.n3 p.c3 st mi as_ go_ or_ sz su e.names e.fields e.body w hin.names hin.fields hin.body hs.n1 hs.n2 hs.n3
    (by have := hk.s1; omega) (by have := hk.a1; omega) (by have := hk.g1; omega) (by have := hk.o1; omega) (by have := hk.z1; omega) (by have := hk.u1; omega) hk.ext hsum (packL e) (by
      unfold packL
      rw [e1, e2, e3, e4, e5, e6, e7, hn1, fld_count hin.fields, ext_count hin.body]
      rfl)
  unfold entC
  rw [e1, e2, e3, e4, e5, e6, e7]
  exact h
end Go.Proofs.YtkodeeneljkgeaaDoor

/- Layer 19's laws: are an entry's lists short enough; the document's examples. Condition: the entry's own. -/
namespace Go.Proofs.YtkodeeneljkgeaaDoor
open Go.RowKit IH
set_option maxRecDepth 100000
theorem awake19_any (w : World) : Calls Tryd.prog 6 #[] w fun e w' => e = .returned (.bool true) ∧ w = w' := by
  have K := fun w => ekey_any ⟨#[104, 116, 116, 112, 58, 47, 47, 97, 47]⟩ ⟨#[120, 10]⟩ (by decide) (by decide) w
  obtain ⟨S, hS⟩ : ∃ S : ByteArray, (⟨#[104, 116, 116, 112, 58, 47, 47, 97, 47]⟩ ++ ⟨#[10]⟩ ++ ⟨#[120, 10]⟩ : ByteArray) = S := ⟨_, rfl⟩
  have hSl : S.toList = [104, 116, 116, 112, 58, 47, 47, 97, 47, 10, 120, 10] := by rw [← hS, ByteArray.toList_eq]; decide
  simp only [hS] at K
  clear hS
  have S1 := fun w => esectors_any 65 w (by omega)
  have S0 := fun w => esectors_any 0 w (by omega)
  rw [show need19 65 = 2 from rfl] at S1
  rw [show need19 0 = 0 from rfl] at S0
  replace K := Lib.hid K
  replace S1 := Lib.hid S1
  replace S0 := Lib.hid S0
  go_enter Tryd.func6, Tryd.ntmps6
  go_wp2_with (first
    | (go_at_call 16; (with_reducible refine (K.out _).mono ?_); rintro e w2 ⟨rfl, rfl⟩)
    | (go_at_call 17; (with_reducible refine (S1.out _).mono ?_); rintro e w3 ⟨rfl, rfl⟩)
    | (go_at_call 17; (with_reducible refine (S0.out _).mono ?_); rintro e w4 ⟨rfl, rfl⟩))
  go_ret
  exact ⟨by first | rfl | (simp; done) | decide, rfl⟩
set_option maxHeartbeats 16000000 in
theorem few_any (e : Entry) (p : EntA) (w : World) (hin : EntIn w w.heap.size e p) :
    Calls Tryd.prog 10 #[.agg (entC e p).toArray] w fun x w' => x = .returned (.bool (fewE e)) ∧ Below w.heap.size w w' := by
  have hn1 : e.names.length = p.n1 := by have := hin.names.1; rw [strsV_length] at this; omega
  have hn2 := fld_count hin.fields
  have hn3 := ext_count hin.body
  obtain ⟨w1, hw1⟩ : ∃ W, w.alloc (.cells (entC e p).toArray 33) = W := ⟨_, rfl⟩
  have BW := below_al w (.cells (entC e p).toArray 33)
  have RW := RowAt.new w 33 (entC e p)
  rw [hw1] at BW RW
  have H1 := Lib.hid (hin.names.below BW)
  have H2 := Lib.hid (hin.fields.below BW)
  have HB := Lib.hid BW
  have d0 := RW.cell (j := 0) rfl
  have d1 := RW.cell (j := 1) rfl
  have d2 := RW.cell (j := 2) rfl
  have d6 := RW.cell (j := 6) rfl
  have d8 := RW.cell (j := 8) rfl
  have d14 := RW.cell (j := 14) rfl
  obtain ⟨T, hT⟩ : ∃ T, fewE e = T := ⟨_, rfl⟩
  have HT := Lib.hid hT
  rw [hT]
  have hsU : (⟨e.uri.toArray⟩ : ByteArray).size = e.uri.length := size_mk _
  have hsV : (⟨e.variant.toArray⟩ : ByteArray).size = e.variant.length := size_mk _
  have hsR : (⟨e.reason.toArray⟩ : ByteArray).size = e.reason.length := size_mk _
  have hm1 : p.n1 ≤ 9223372036854775807 := by have := hin.names.2.1; have := hin.names.2.2.1; simp only [maxLen] at this; omega
  have hm2 : p.n2 ≤ 9223372036854775807 := by have := hin.fields.2.1; have := hin.fields.2.2.1; simp only [maxLen] at this; omega
  obtain ⟨A1, n1, c1, A2, n2, c2, A3, n3, c3⟩ := p
  simp only at *
  unfold entC at hw1 ⊢
  simp only at hw1 ⊢
  obtain ⟨t1, h1⟩ : ∃ t, decide (300 < e.uri.length) = t := ⟨_, rfl⟩
  obtain ⟨t2, h2⟩ : ∃ t, decide (300 < e.variant.length) = t := ⟨_, rfl⟩
  obtain ⟨t3, h3⟩ : ∃ t, decide (500 < e.reason.length) = t := ⟨_, rfl⟩
  obtain ⟨t4, h4⟩ : ∃ t, decide (140 < n1) = t := ⟨_, rfl⟩
  obtain ⟨t5, h5⟩ : ∃ t, decide (140 < n2) = t := ⟨_, rfl⟩
  obtain ⟨t6, h6⟩ : ∃ t, decide (20 < n3) = t := ⟨_, rfl⟩
  obtain ⟨b, hb⟩ : ∃ b, (t1 || (t2 || (t3 || (t4 || (t5 || t6))))) = b := ⟨_, rfl⟩
  have HB1 := Lib.hid hb
  have HF : Hid (T = (!b && (e.names.all (fun s => decide (s.length ≤ 200)) && e.fields.all (fun f => decide (f.1.length ≤ 200) && decide (f.2.length ≤ 500))))) := Lib.hid (by
    rw [← HT.out, ← hb, ← h1, ← h2, ← h3, ← h4, ← h5, ← h6]; unfold fewE; rw [hn1, hn2, hn3])
  have HL1 := Lib.hid hn1
  have HL2 := Lib.hid hn2
  generalize (⟨e.uri.toArray⟩ : ByteArray) = U at *
  generalize (⟨e.variant.toArray⟩ : ByteArray) = V at *
  generalize (⟨e.method.toArray⟩ : ByteArray) = M at *
  generalize (⟨e.target.toArray⟩ : ByteArray) = TG at *
  generalize (⟨e.reason.toArray⟩ : ByteArray) = R at *
  have q1 : decide ((300 : Int) < (U.size : Int)) = t1 := by rw [← h1, decide_eq_decide]; omega
  have q2 : decide ((300 : Int) < (V.size : Int)) = t2 := by rw [← h2, decide_eq_decide]; omega
  have q3 : decide ((500 : Int) < (R.size : Int)) = t3 := by rw [← h3, decide_eq_decide]; omega
  have q4 : decide ((140 : Int) < (n1 : Int)) = t4 := by rw [← h4, decide_eq_decide]; omega
  have q5 : decide ((140 : Int) < (n2 : Int)) = t5 := by rw [← h5, decide_eq_decide]; omega
  have q6 : decide ((20 : Int) < (n3 : Int)) = t6 := by rw [← h6, decide_eq_decide]; omega
  clear h1 h2 h3 h4 h5 h6 hsU hsV hsR hT hb hn1 hn2 hn3 hin BW RW HT
  go_enter Tryd.func10, Tryd.ntmps10
  go_upto_region 1 with fail
  go_cut [39] (fun s wx => s = .bool b ∧ wx = w1)
  case first =>
    refine wp_region_seq ?_
    iterate 5
      refine seq_take (v := ?_) (wanted_un rfl) ?_ ?_
      rotate_left
      · go_simp
        try with_reducible rfl
      try simp only [Act.put, List.setIfInBounds_toArray, List.set_cons_zero, List.set_cons_succ]
    cases t1
    rotate_left
    · iterate 4
        refine seq_skip (wanted_no rfl rfl rfl rfl) ?_
        try simp only [Act.put, List.setIfInBounds_toArray, List.set_cons_zero, List.set_cons_succ]
      iterate 2
        refine seq_take (v := ?_) (wanted_un rfl) ?_ ?_
        rotate_left
        · go_simp
          try with_reducible rfl
        try simp only [Act.put, List.setIfInBounds_toArray, List.set_cons_zero, List.set_cons_succ]
      iterate 5
        refine seq_skip (wanted_no rfl rfl rfl rfl) ?_
        try simp only [Act.put, List.setIfInBounds_toArray, List.set_cons_zero, List.set_cons_succ]
      iterate 2
        refine seq_take (v := ?_) (wanted_un rfl) ?_ ?_
        rotate_left
        · go_simp
          try with_reducible rfl
        try simp only [Act.put, List.setIfInBounds_toArray, List.set_cons_zero, List.set_cons_succ]
      iterate 4
        refine seq_skip (wanted_no rfl rfl rfl rfl) ?_
        try simp only [Act.put, List.setIfInBounds_toArray, List.set_cons_zero, List.set_cons_succ]
      iterate 2
        refine seq_take (v := ?_) (wanted_un rfl) ?_ ?_
        rotate_left
        · go_simp
          try with_reducible rfl
        try simp only [Act.put, List.setIfInBounds_toArray, List.set_cons_zero, List.set_cons_succ]
      iterate 4
        refine seq_skip (wanted_no rfl rfl rfl rfl) ?_
        try simp only [Act.put, List.setIfInBounds_toArray, List.set_cons_zero, List.set_cons_succ]
      iterate 2
        refine seq_take (v := ?_) (wanted_un rfl) ?_ ?_
        rotate_left
        · go_simp
          try with_reducible rfl
        try simp only [Act.put, List.setIfInBounds_toArray, List.set_cons_zero, List.set_cons_succ]
      iterate 4
        refine seq_skip (wanted_no rfl rfl rfl rfl) ?_
        try simp only [Act.put, List.setIfInBounds_toArray, List.set_cons_zero, List.set_cons_succ]
      iterate 1
        refine seq_take (v := ?_) (wanted_un rfl) ?_ ?_
        rotate_left
        · go_simp
          try with_reducible rfl
        try simp only [Act.put, List.setIfInBounds_toArray, List.set_cons_zero, List.set_cons_succ]
      refine seq_done ?_
      go_wp2_with fail
      go_meet
      exact ⟨by rw [← HB1.out]; first | rfl | (simp; done), rfl⟩
    iterate 4
      refine seq_take (v := ?_) (wanted_yes rfl rfl rfl rfl) ?_ ?_
      rotate_left
      · go_simp
        try with_reducible rfl
      try simp only [Act.put, List.setIfInBounds_toArray, List.set_cons_zero, List.set_cons_succ]
    iterate 2
      refine seq_take (v := ?_) (wanted_un rfl) ?_ ?_
      rotate_left
      · go_simp
        try with_reducible rfl
      try simp only [Act.put, List.setIfInBounds_toArray, List.set_cons_zero, List.set_cons_succ]
    cases t2
    rotate_left
    · iterate 5
        refine seq_skip (wanted_no rfl rfl rfl rfl) ?_
        try simp only [Act.put, List.setIfInBounds_toArray, List.set_cons_zero, List.set_cons_succ]
      iterate 2
        refine seq_take (v := ?_) (wanted_un rfl) ?_ ?_
        rotate_left
        · go_simp
          try with_reducible rfl
        try simp only [Act.put, List.setIfInBounds_toArray, List.set_cons_zero, List.set_cons_succ]
      iterate 4
        refine seq_skip (wanted_no rfl rfl rfl rfl) ?_
        try simp only [Act.put, List.setIfInBounds_toArray, List.set_cons_zero, List.set_cons_succ]
      iterate 2
        refine seq_take (v := ?_) (wanted_un rfl) ?_ ?_
        rotate_left
        · go_simp
          try with_reducible rfl
        try simp only [Act.put, List.setIfInBounds_toArray, List.set_cons_zero, List.set_cons_succ]
      iterate 4
        refine seq_skip (wanted_no rfl rfl rfl rfl) ?_
        try simp only [Act.put, List.setIfInBounds_toArray, List.set_cons_zero, List.set_cons_succ]
      iterate 2
        refine seq_take (v := ?_) (wanted_un rfl) ?_ ?_
        rotate_left
        · go_simp
          try with_reducible rfl
        try simp only [Act.put, List.setIfInBounds_toArray, List.set_cons_zero, List.set_cons_succ]
      iterate 4
        refine seq_skip (wanted_no rfl rfl rfl rfl) ?_
        try simp only [Act.put, List.setIfInBounds_toArray, List.set_cons_zero, List.set_cons_succ]
      iterate 1
        refine seq_take (v := ?_) (wanted_un rfl) ?_ ?_
        rotate_left
        · go_simp
          try with_reducible rfl
        try simp only [Act.put, List.setIfInBounds_toArray, List.set_cons_zero, List.set_cons_succ]
      refine seq_done ?_
      go_wp2_with fail
      go_meet
      exact ⟨by rw [← HB1.out]; first | rfl | (simp; done), rfl⟩
    iterate 5
      refine seq_take (v := ?_) (wanted_yes rfl rfl rfl rfl) ?_ ?_
      rotate_left
      · go_simp
        try with_reducible rfl
      try simp only [Act.put, List.setIfInBounds_toArray, List.set_cons_zero, List.set_cons_succ]
    iterate 2
      refine seq_take (v := ?_) (wanted_un rfl) ?_ ?_
      rotate_left
      · go_simp
        try with_reducible rfl
      try simp only [Act.put, List.setIfInBounds_toArray, List.set_cons_zero, List.set_cons_succ]
    cases t3
    rotate_left
    · iterate 4
        refine seq_skip (wanted_no rfl rfl rfl rfl) ?_
        try simp only [Act.put, List.setIfInBounds_toArray, List.set_cons_zero, List.set_cons_succ]
      iterate 2
        refine seq_take (v := ?_) (wanted_un rfl) ?_ ?_
        rotate_left
        · go_simp
          try with_reducible rfl
        try simp only [Act.put, List.setIfInBounds_toArray, List.set_cons_zero, List.set_cons_succ]
      iterate 4
        refine seq_skip (wanted_no rfl rfl rfl rfl) ?_
        try simp only [Act.put, List.setIfInBounds_toArray, List.set_cons_zero, List.set_cons_succ]
      iterate 2
        refine seq_take (v := ?_) (wanted_un rfl) ?_ ?_
        rotate_left
        · go_simp
          try with_reducible rfl
        try simp only [Act.put, List.setIfInBounds_toArray, List.set_cons_zero, List.set_cons_succ]
      iterate 4
        refine seq_skip (wanted_no rfl rfl rfl rfl) ?_
        try simp only [Act.put, List.setIfInBounds_toArray, List.set_cons_zero, List.set_cons_succ]
      iterate 1
        refine seq_take (v := ?_) (wanted_un rfl) ?_ ?_
        rotate_left
        · go_simp
          try with_reducible rfl
        try simp only [Act.put, List.setIfInBounds_toArray, List.set_cons_zero, List.set_cons_succ]
      refine seq_done ?_
      go_wp2_with fail
      go_meet
      exact ⟨by rw [← HB1.out]; first | rfl | (simp; done), rfl⟩
    iterate 4
      refine seq_take (v := ?_) (wanted_yes rfl rfl rfl rfl) ?_ ?_
      rotate_left
      · go_simp
        try with_reducible rfl
      try simp only [Act.put, List.setIfInBounds_toArray, List.set_cons_zero, List.set_cons_succ]
    iterate 2
      refine seq_take (v := ?_) (wanted_un rfl) ?_ ?_
      rotate_left
      · go_simp
        try with_reducible rfl
      try simp only [Act.put, List.setIfInBounds_toArray, List.set_cons_zero, List.set_cons_succ]
    cases t4
    rotate_left
    · iterate 4
        refine seq_skip (wanted_no rfl rfl rfl rfl) ?_
        try simp only [Act.put, List.setIfInBounds_toArray, List.set_cons_zero, List.set_cons_succ]
      iterate 2
        refine seq_take (v := ?_) (wanted_un rfl) ?_ ?_
        rotate_left
        · go_simp
          try with_reducible rfl
        try simp only [Act.put, List.setIfInBounds_toArray, List.set_cons_zero, List.set_cons_succ]
      iterate 4
        refine seq_skip (wanted_no rfl rfl rfl rfl) ?_
        try simp only [Act.put, List.setIfInBounds_toArray, List.set_cons_zero, List.set_cons_succ]
      iterate 1
        refine seq_take (v := ?_) (wanted_un rfl) ?_ ?_
        rotate_left
        · go_simp
          try with_reducible rfl
        try simp only [Act.put, List.setIfInBounds_toArray, List.set_cons_zero, List.set_cons_succ]
      refine seq_done ?_
      go_wp2_with fail
      go_meet
      exact ⟨by rw [← HB1.out]; first | rfl | (simp; done), rfl⟩
    iterate 4
      refine seq_take (v := ?_) (wanted_yes rfl rfl rfl rfl) ?_ ?_
      rotate_left
      · go_simp
        try with_reducible rfl
      try simp only [Act.put, List.setIfInBounds_toArray, List.set_cons_zero, List.set_cons_succ]
    iterate 2
      refine seq_take (v := ?_) (wanted_un rfl) ?_ ?_
      rotate_left
      · go_simp
        try with_reducible rfl
      try simp only [Act.put, List.setIfInBounds_toArray, List.set_cons_zero, List.set_cons_succ]
    cases t5
    rotate_left
    · iterate 4
        refine seq_skip (wanted_no rfl rfl rfl rfl) ?_
        try simp only [Act.put, List.setIfInBounds_toArray, List.set_cons_zero, List.set_cons_succ]
      iterate 1
        refine seq_take (v := ?_) (wanted_un rfl) ?_ ?_
        rotate_left
        · go_simp
          try with_reducible rfl
        try simp only [Act.put, List.setIfInBounds_toArray, List.set_cons_zero, List.set_cons_succ]
      refine seq_done ?_
      go_wp2_with fail
      go_meet
      exact ⟨by rw [← HB1.out]; first | rfl | (simp; done), rfl⟩
    iterate 4
      refine seq_take (v := ?_) (wanted_yes rfl rfl rfl rfl) ?_ ?_
      rotate_left
      · go_simp
        try with_reducible rfl
      try simp only [Act.put, List.setIfInBounds_toArray, List.set_cons_zero, List.set_cons_succ]
    iterate 1
      refine seq_take (v := ?_) (wanted_un rfl) ?_ ?_
      rotate_left
      · go_simp
        try with_reducible rfl
      try simp only [Act.put, List.setIfInBounds_toArray, List.set_cons_zero, List.set_cons_succ]
    refine seq_done ?_
    go_wp2_with fail
    go_meet
    exact ⟨by rw [← HB1.out]; first | rfl | (simp; done), rfl⟩
  case rest =>
    obtain ⟨rfl, hwc⟩ := hcut
    subst wc
    clear q1 q2 q3 q4 q5 q6 d0 d2 d6 d14 HB1
    cases b
    · have HF2 : Hid (T = (e.names.all (fun s => decide (s.length ≤ 200)) && e.fields.all (fun f => decide (f.1.length ≤ 200) && decide (f.2.length ≤ 500)))) := Lib.hid (by rw [HF.out]; simp)
      clear HF
      go_wp2
      go_loopw [3] (fun i wr => ∃ k : Nat, i = .int .i64 k ∧ k ≤ n1 ∧ (∀ j s, j < k → e.names[j]? = some s → s.length ≤ 200) ∧ wr = w1) (fun i _ => n1 - (intOf i).toNat)
      case atStart => exact ⟨0, rfl, by omega, fun j s h => absurd h (by omega), rfl⟩
      case round =>
        obtain ⟨k, rfl, hk, hg, hwr⟩ := hrel
        subst wr
        replace hg := Lib.hid hg
        by_cases hlt : k < n1
        · obtain ⟨s, hs⟩ : ∃ s, e.names[k]? = some s := ⟨_, List.getElem?_eq_getElem (by rw [HL1.out]; exact hlt)⟩
          obtain ⟨bb, off, rfl, _, hcells⟩ := str_in H1.out hs
          have c0 := hcells k s hs
          have hsz : (⟨s.toArray⟩ : ByteArray).size = s.length := size_mk _
          generalize (⟨s.toArray⟩ : ByteArray) = S at *
          have HS := Lib.hid hs
          have HSZ := Lib.hid hsz
          clear hcells hs hsz
          by_cases h2 : (200 : Int) < (S.size : Int)
          · have HN : Hid (T = false) := Lib.hid (by
              rw [HF2.out]
              have : e.names.all (fun s => decide (s.length ≤ 200)) = false := by
                rw [← Bool.not_eq_true, List.all_eq_true]
                intro h
                have := of_decide_eq_true (h s (List.mem_of_getElem? HS.out))
                have := HSZ.out
                omega
              rw [this, Bool.false_and])
            go_wp2
            go_ret
            exact ⟨ret_bool HN.out.symm, HB.out⟩
          · go_wp2
            go_roundw
            case rel =>
              refine ⟨k + 1, by go_num, by omega, fun j s' hj hs' => ?_, by first | rfl | trivial⟩
              rcases (show j = k ∨ j < k by omega) with rfl | hj
              · rw [HS.out] at hs'
                injection hs' with hs'
                subst hs'
                have := HSZ.out
                omega
              · exact hg.out j s' hj hs'
            case measure => simp [intOf]; omega
        · have HF3 : Hid (T = e.fields.all (fun f => decide (f.1.length ≤ 200) && decide (f.2.length ≤ 500))) := Lib.hid (by
            rw [HF2.out]
            have : e.names.all (fun s => decide (s.length ≤ 200)) = true := by
              rw [List.all_eq_true]
              intro s hs
              obtain ⟨j, hj⟩ := List.getElem?_of_mem hs
              have hjl := (List.getElem?_eq_some_iff.1 hj).1
              exact decide_eq_true (hg.out j s (by have := HL1.out; omega) hj)
            rw [this, Bool.true_and])
          clear HF2 hg
          go_wp2
          go_loopw [4] (fun i wr => ∃ k : Nat, i = .int .i64 k ∧ k ≤ n2 ∧ (∀ j f, j < k → e.fields[j]? = some f → f.1.length ≤ 200 ∧ f.2.length ≤ 500) ∧ wr = w1) (fun i _ => n2 - (intOf i).toNat)
          case atStart => exact ⟨0, rfl, by omega, fun j s h => absurd h (by omega), rfl⟩
          case round =>
            obtain ⟨k, rfl, hk, hg, hwr⟩ := hrel
            subst wr
            replace hg := Lib.hid hg
            by_cases hlt : k < n2
            · obtain ⟨f, hs⟩ : ∃ s, e.fields[k]? = some s := ⟨_, List.getElem?_eq_getElem (by rw [HL2.out]; exact hlt)⟩
              obtain ⟨bb, off, rfl, _, c0, c1⟩ := fld_at H2.out hs
              have hz1 : (⟨f.1.toArray⟩ : ByteArray).size = f.1.length := size_mk _
              have hz2 : (⟨f.2.toArray⟩ : ByteArray).size = f.2.length := size_mk _
              generalize (⟨f.1.toArray⟩ : ByteArray) = S1 at *
              generalize (⟨f.2.toArray⟩ : ByteArray) = S2 at *
              have HS := Lib.hid hs
              have HZ1 := Lib.hid hz1
              have HZ2 := Lib.hid hz2
              clear hs hz1 hz2
              have bad : Hid ((200 < S1.size ∨ 500 < S2.size) → T = false) := Lib.hid (fun h0 => by
                rw [HF3.out, ← Bool.not_eq_true, List.all_eq_true]
                intro h
                have h := h f (List.mem_of_getElem? HS.out)
                simp only [Bool.and_eq_true, decide_eq_true_eq] at h
                have := HZ1.out
                have := HZ2.out
                omega)
              by_cases h2 : (200 : Int) < (S1.size : Int)
              · have HN : Hid (T = false) := Lib.hid (bad.out (by omega))
                go_wp2
                go_ret
                exact ⟨ret_bool HN.out.symm, HB.out⟩
              · by_cases h3 : (500 : Int) < (S2.size : Int)
                · have HN : Hid (T = false) := Lib.hid (bad.out (by omega))
                  go_wp2
                  go_ret
                  exact ⟨ret_bool HN.out.symm, HB.out⟩
                · go_wp2
                  go_roundw
                  case rel =>
                    refine ⟨k + 1, by go_num, by omega, fun j s' hj hs' => ?_, by first | rfl | trivial⟩
                    rcases (show j = k ∨ j < k by omega) with rfl | hj
                    · rw [HS.out] at hs'
                      injection hs' with hs'
                      subst hs'
                      have := HZ1.out
                      have := HZ2.out
                      omega
                    · exact hg.out j s' hj hs'
                  case measure => simp [intOf]; omega
            · have HN : Hid (T = true) := Lib.hid (by
                rw [HF3.out, List.all_eq_true]
                intro f hf
                obtain ⟨j, hj⟩ := List.getElem?_of_mem hf
                have hjl := (List.getElem?_eq_some_iff.1 hj).1
                have := hg.out j f (by have := HL2.out; omega) hj
                simp only [Bool.and_eq_true, decide_eq_true_eq]
                exact this)
              clear hg
              go_wp2
              go_ret
              exact ⟨ret_bool HN.out.symm, HB.out⟩
    · have HN : Hid (T = false) := Lib.hid (by rw [HF.out]; rfl)
      go_wp2
      go_ret
      exact ⟨ret_bool HN.out.symm, HB.out⟩
end Go.Proofs.YtkodeeneljkgeaaDoor
