/- Te: several texts, one behind the other. -/
import Derived.Test.YtniiadhhefgmcaaGreatDoorTel1
import Derived.Test.YtniiadhhefgmcaaGreatDoorFq
import Derived.Laws.StructEq
import Derived.Test.YtniiadhhefgmcaaGreatDoorXa
/- Layer 8: two messages that are one are the same, by the document. Condition: none on lengths but for the fields' number. -/
namespace Go.Proofs.YtniiadhhefgmcaaGreatDoor
open Go.RowKit IH
set_option maxRecDepth 100000
theorem sta_eql (X Y Z : ByteArray) (a b : Int) (w : World) : (binOp .eql 23 (.agg #[.string X, .string Y, .int .i64 a, .string Z, .int .i64 b]) (.agg #[.string X, .string Y, .int .i64 a, .string Z, .int .i64 b])).run Tryz.prog w = .ok (.bool true) w := by
  have u2 := Tryz.underlying9
  have u3 := Tryz.underlying3
  have hS : Program.underlying Tryz.prog 23 = some (.struct (Program.fieldsOf Tryz.prog 23)) := by kernel_rfl
  have hp : Program.stoodInHeld Tryz.prog 23 = false := by kernel_rfl
  rw [run_eql_struct, show (10000 : Nat) = 9999 + 1 from rfl, run_equalIn_agg w 9999 23 _ _ hS hp]
  simp only [Program.fieldsOf, Tryz.underlying23]
  go_simp
  try simp
theorem range_front {w : World} {g : Nat} {e : TypeId} {F T : List Value} (h : RowAt w g e (F ++ T)) : w.rangeAt g 0 F := fun j v hj => by
  have hl := (List.getElem?_eq_some_iff.1 hj).1
  rw [Nat.zero_add]
  exact h.cell (by rw [List.getElem?_append_left hl]; exact hj)
set_option maxHeartbeats 8000000 in
theorem rsame8_any (s : Sta) (L : List Fld) (X : List UInt8) (A1 A2 A3 A4 : Option Addr) (n1 n2 n3 n4 c1 c2 c3 c4 : Nat) (w : World) (h1 : SliceIn w w.heap.size 2 A1 n1 c1 (fldsV L)) (h2 : SliceIn w w.heap.size 1 A2 n2 c2 (bytesV X)) (h3 : SliceIn w w.heap.size 2 A3 n3 c3 (fldsV L)) (h4 : SliceIn w w.heap.size 1 A4 n4 c4 (bytesV X)) (hn : n1 ≤ 1000000) :
    Calls Tryz.prog 21 #[.agg (msgC s (.slice A1 n1 c1) (.slice A2 n2 c2)).toArray, .agg (msgC s (.slice A3 n3 c3) (.slice A4 n4 c4)).toArray] w fun e w' => e = .returned (.bool true) ∧ Below w.heap.size w w' := by
  have HSi : Hid ((Tryz.prog.info? 23).map (·.size) = some 5) := Lib.hid (by kernel_rfl)
  obtain ⟨Sm, St, Sr, hs5, hsm⟩ := msg_cells s
  rw [hsm, hsm]
  clear hs5 hsm
  obtain ⟨ss, hss⟩ : ∃ x, s.status = x := ⟨_, rfl⟩
  obtain ⟨mi, hmi⟩ : ∃ x, s.minor = x := ⟨_, rfl⟩
  rw [hss, hmi]
  clear hss hmi
  obtain ⟨w1, hw1⟩ : ∃ W : World, w.alloc (.cells #[.string Sm, .string St, .int .i64 ss, .string Sr, .int .i64 mi, .slice A1 n1 c1, .slice A2 n2 c2] 27) = W := ⟨_, rfl⟩
  obtain ⟨w2, hw2⟩ : ∃ W : World, w1.alloc (.cells #[.string Sm, .string St, .int .i64 ss, .string Sr, .int .i64 mi, .slice A3 n3 c3, .slice A4 n4 c4] 27) = W := ⟨_, rfl⟩
  have B1 : Below w.heap.size w w1 := by rw [← hw1]; exact (Below.refl _ _).alloc (Nat.le_refl _) _
  have B2 : Hid (Below w.heap.size w w2) := Lib.hid (below_step B1 (by rw [← hw2]; exact (Below.refl _ _).alloc (Nat.le_refl _) _))
  have Ra1 : RowAt w1 w.heap.size 27 [.string Sm, .string St, .int .i64 ss, .string Sr, .int .i64 mi, .slice A1 n1 c1, .slice A2 n2 c2] := by rw [← hw1]; exact RowAt.new w 27 [.string Sm, .string St, .int .i64 ss, .string Sr, .int .i64 mi, .slice A1 n1 c1, .slice A2 n2 c2]
  have Ra : Hid (RowAt w2 w.heap.size 27 [.string Sm, .string St, .int .i64 ss, .string Sr, .int .i64 mi, .slice A1 n1 c1, .slice A2 n2 c2]) := Lib.hid (by rw [← hw2]; exact Ra1.alloc _)
  have Rb : Hid (RowAt w2 w1.heap.size 27 [.string Sm, .string St, .int .i64 ss, .string Sr, .int .i64 mi, .slice A3 n3 c3, .slice A4 n4 c4]) := Lib.hid (by rw [← hw2]; exact RowAt.new w1 27 [.string Sm, .string St, .int .i64 ss, .string Sr, .int .i64 mi, .slice A3 n3 c3, .slice A4 n4 c4])
  have a5 := Ra.out.cell (j := 5) rfl
  have b5 := Rb.out.cell (j := 5) rfl
  have EQ := fun W => sta_eql Sm St Sr ss mi W
  have SM := Lib.hid (refSame3_any A1 n1 c1 A3 n3 c3 L w2 ((h1.below B2.out).more B2.out.size) ((h3.below B2.out).more B2.out.size) hn)
  have H2 := Lib.hid h2
  have H4 := Lib.hid h4
  obtain ⟨K, hK⟩ : ∃ K : ByteArray, (⟨X.toArray⟩ : ByteArray) = K := ⟨_, rfl⟩
  have HK := Lib.hid hK
  have bK : (K.toList == K.toList) = true := beq_self_eq_true _
  have tok1 : Hid True := Lib.hid trivial
  clear h1 h2 h3 h4 hK B1 Ra1
  go_enter Tryz.func21, Tryz.ntmps21
  go_wp2_with (first
    | (have _t := tok1; refine wpList_load_g (wanted_un rfl) 23 _ rfl w.heap.size 0 rfl [.string Sm, .string St, .int .i64 ss, .string Sr, .int .i64 mi] _ (range_front (T := [.slice A1 n1 c1, .slice A2 n2 c2]) Ra.out) Tryz.underlying23 rfl HSi.out ?_; have tok2 : Hid True := Lib.hid trivial; clear tok1 _t)
    | (have _t := tok2; refine wpList_load_g (wanted_un rfl) 23 _ rfl w1.heap.size 0 rfl [.string Sm, .string St, .int .i64 ss, .string Sr, .int .i64 mi] _ (range_front (T := [.slice A3 n3 c3, .slice A4 n4 c4]) Rb.out) Tryz.underlying23 rfl HSi.out ?_; clear tok2 _t)
    | (go_at_call 46; (with_reducible refine SM.out.mono ?_); rintro x3 w3 ⟨rfl, hb3⟩; have B3 := Lib.hid (below_step B2.out hb3); have a6 := (Ra.out.below hb3 Ra.out.lt).cell (j := 6) rfl; have b6 := (Rb.out.below hb3 Rb.out.lt).cell (j := 6) rfl; have s2 := run_string_of (P := Tryz.prog) ((H2.out.below B3.out).more B3.out.size) 25 9 5 Tryz.underlying25 Tryz.underlying5 Tryz.underlying9; have s4 := run_string_of (P := Tryz.prog) ((H4.out.below B3.out).more B3.out.size) 25 9 5 Tryz.underlying25 Tryz.underlying5 Tryz.underlying9; rw [HK.out] at s2 s4; clear hb3 a5 b5))
  go_ret
  exact ⟨rfl, B3.out⟩
end Go.Proofs.YtniiadhhefgmcaaGreatDoor

/- Layer 8: message.Parse by what the document tells of all octets; the document's example. Condition: the world's shape, at most 10^8 octets. -/
namespace Go.Proofs.YtniiadhhefgmcaaGreatDoor
open Go.RowKit IH
set_option maxRecDepth 100000
end Go.Proofs.YtniiadhhefgmcaaGreatDoor
