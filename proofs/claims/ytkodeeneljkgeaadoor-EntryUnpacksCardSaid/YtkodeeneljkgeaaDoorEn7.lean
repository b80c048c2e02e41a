/- Layer 19: which entries are right, by the document. Condition: the entry's own (EntS). -/
import Derived.Test.YtkodeeneljkgeaaDoorEn6
namespace Go.Proofs.YtkodeeneljkgeaaDoor
open Go.RowKit IH
set_option maxRecDepth 100000
theorem cut_whole (l : List UInt8) : ((hd l == l) && (tl l).isEmpty) = !l.contains 10 := by
  rcases parts l with h | ⟨a, b, rfl, h⟩
  · obtain ⟨h1, h2⟩ := hd_none h
    have h3 : l.contains 10 = false := by
      rw [← Bool.not_eq_true, List.contains_iff_mem]
      exact fun hm => h 10 hm rfl
    rw [h1, h2, h3]; simp
  · obtain ⟨h1, h2⟩ := hd_some (b := b) h
    have h3 : (a ++ 10 :: b).contains 10 = true := by simp
    have h4 : (a == a ++ 10 :: b) = false := by
      rw [beq_eq_false_iff_ne]
      intro e
      have := congrArg List.length e
      simp at this
    rw [h1, h3, h4]; rfl
theorem cut_some (l : List UInt8) : ((!(hd l).isEmpty) && ((hd l == l) && (tl l).isEmpty)) = (!l.isEmpty && !l.contains 10) := by
  rw [← cut_whole]
  cases h : (hd l == l)
  · simp
  · rw [beq_iff_eq.1 h]
theorem rright19_any (e : Entry) (p : EntA) (w : World) (hin : EntIn w w.heap.size e p) (hs : EntS e p) :
    Calls Tryd.prog 12 #[.agg (entC e p).toArray] w fun x w' => x = .returned (.bool (rightE e)) ∧ Below w.heap.size w w' := by
  have zu : (⟨e.uri.toArray⟩ : ByteArray).size = e.uri.length := size_mk _
  have zv : (⟨e.variant.toArray⟩ : ByteArray).size = e.variant.length := size_mk _
  have hn1 : e.names.length = p.n1 := by have := hin.names.1; rw [strsV_length] at this; omega
  have hn3 : e.body.length = p.n3 := ext_count hin.body
  refine rright_raw ⟨e.uri.toArray⟩ ⟨e.variant.toArray⟩ ⟨e.method.toArray⟩ ⟨e.target.toArray⟩ ⟨e.reason.toArray⟩ ⟨(hd e.uri).toArray⟩ ⟨(tl e.uri).toArray⟩ p.A1 p.n1 p.c1 p.A2 p.n2 p.c2 p.A3 p.n3 p.c3 e.status e.minor e.asked e.got e.order e.size e.sum
    (right6 (startE e)) (faultL e.fields) e.names e.body w hin.names hin.body hs.n1 hs.n3 hs.names (by rw [zu]; exact hs.u) (by rw [zv]; exact hs.v)
    (fun W => (refCut_any ⟨e.uri.toArray⟩ W (by have := hs.u; rw [zu]; omega)).mono fun x w' ⟨h1, q, h2⟩ => ⟨h1, by rw [h2]; exact below_drewN (Below.refl _ _) _⟩)
    (fun W => rRight6_any (startE e) hs.sta W)
    (fun W hb => refFault_any p.A2 p.n2 p.c2 e.fields W (hin.at_ hb).fields hs.n2 (hs.fields.mono (by omega)))
    _ _ _ (rightE e) rfl rfl rfl ?_
  have q0 : ((⟨(hd e.uri).toArray⟩ : ByteArray).toList == (⟨e.uri.toArray⟩ : ByteArray).toList) = (hd e.uri == e.uri) := by rw [ByteArray.toList_eq, ByteArray.toList_eq]
  have q1 := cut_some e.uri
  have q2 : (faultL e.fields == 0) = decide (faultL e.fields = 0) := beqI _ _
  have q3 : (e.status == 0) = decide (e.status = 0) := beqI _ _
  have q4 : decide (¬ (100 : Int) < ((⟨e.uri.toArray⟩ : ByteArray).size : Int) + 1 + ((⟨e.variant.toArray⟩ : ByteArray).size : Int)) = decide (e.uri.length + 1 + e.variant.length ≤ 100) := by rw [decide_eq_decide, zu, zv]; omega
  rw [emp_isEmpty, emp_isEmpty, q0, q2, q3, q4]
  unfold rightE sumX
  rw [Bool.eq_iff_iff] at q1 ⊢
  simp only [Bool.and_eq_true, decide_eq_true_eq, Bool.not_eq_true', upTo_true, decide_eq_false_iff_not, hn1, hn3] at q1 ⊢
  constructor
  · rintro ⟨⟨⟨⟨⟨a1, a2⟩, a3⟩, ⟨⟨⟨b1, b2⟩, b3⟩, b4⟩, b5⟩, ⟨⟨c1, c2⟩, c3⟩, c4⟩, ⟨d1, d2⟩, d3⟩
    obtain ⟨g1, g2, g3⟩ := q1.2 ⟨a1, a2⟩
    refine ⟨⟨⟨⟨⟨⟨⟨⟨g1, g2⟩, g3⟩, a3⟩, ?_⟩, b4⟩, ⟨b1, b2⟩, b3⟩, ?_⟩, d1, d3⟩
    · omega
    · refine ⟨⟨⟨⟨⟨⟨⟨⟨?_, ?_⟩, ?_⟩, ?_⟩, ?_⟩, ?_⟩, ?_⟩, ?_⟩, ?_⟩ <;> omega
  · rintro ⟨⟨⟨⟨⟨⟨⟨⟨g1, g2⟩, g3⟩, a3⟩, a4⟩, b4⟩, ⟨b1, b2⟩, b3⟩, ⟨⟨⟨⟨⟨⟨⟨⟨c1, c2⟩, c3⟩, c4⟩, c5⟩, c6⟩, c7⟩, c8⟩, c9⟩⟩, d1, d3⟩
    obtain ⟨a1, a2⟩ := q1.1 ⟨g1, g2, g3⟩
    refine ⟨⟨⟨⟨⟨a1, a2⟩, a3⟩, ⟨⟨⟨b1, b2⟩, b3⟩, b4⟩, ?_⟩, ?_⟩, ⟨d1, ?_⟩, d3⟩
    · omega
    · refine ⟨⟨⟨?_, ?_⟩, ?_⟩, ?_⟩ <;> omega
    · omega
end Go.Proofs.YtkodeeneljkgeaaDoor
