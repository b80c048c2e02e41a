/- Layer 19 in plain Lean: which entries are right; those of them that aren't too long are told by their octets. No program in sight; no condition. -/
import Derived.Test.YtkodeeneljkgeaaDoorEnt1
import Derived.Test.YtkodeeneljkgeaaDoorSta1
import Derived.Test.YtkodeeneljkgeaaDoorLess
namespace IH
set_option maxRecDepth 100000

def need19 (n : Int) : Int := if n < 1 then 0 else (n - 1) / 64 + 1
def upTo (n most : Int) : Bool := decide (0 ≤ n) && decide (n ≤ most)
/-- Small tokens, each behind the one ahead of it. -/
def named19 : List (List UInt8) → Bool
  | [] => true
  | [s] => token s && (lower s == s)
  | s :: t :: r => token s && (lower s == s) && lessB s t && named19 (t :: r)
def ext19 (x : Int × Int) : Bool := upTo x.1 65536 && decide (1 ≤ x.2) && decide (x.2 ≤ 65536 - x.1)
def startE (e : Entry) : Sta := ⟨e.method, e.target, e.status, e.reason, e.minor⟩
def rightE (e : Entry) : Bool :=
  (!e.uri.isEmpty && !e.uri.contains 10 && decide (e.uri.length + 1 + e.variant.length ≤ 100)) &&
  (decide (e.status ≠ 0) && right6 (startE e) && decide (faultL e.fields = 0) && named19 e.names && decide (e.names.length ≤ 128)) &&
  (upTo e.asked 1099511627776 && upTo e.got 1099511627776 && upTo e.order 1152921504606846975 && upTo e.size 1048576) &&
  (e.body.all ext19 && decide (e.body.length ≤ 8) && decide ((e.body.map (·.2)).sum = need19 e.size))
theorem upTo_true {n m : Int} : upTo n m = true ↔ 0 ≤ n ∧ n ≤ m := by simp [upTo]
theorem fault_few {fs : List Fld} (h : faultL fs = 0) : fs.length ≤ 128 := by
  unfold faultL at h
  split at h
  · simp at h
  · split at h
    · simp at h
    · omega
theorem right_pack {e : Entry} (h : rightE e = true) (hu : 0 ≤ e.sum ∧ e.sum < 4294967296) (hn : ∀ s ∈ e.names, s.length < 65536) (hf : ∀ f ∈ e.fields, f.1.length < 65536 ∧ f.2.length < 65536) : PackOk e := by
  simp only [rightE, Bool.and_eq_true, decide_eq_true_eq, upTo_true, Bool.not_eq_true'] at h
  obtain ⟨⟨⟨⟨_, hlen⟩, ⟨⟨⟨hst, hr⟩, hfa⟩, _⟩, hnm⟩, ⟨⟨ha, hg⟩, ho⟩, hz⟩, ⟨hb, hbl⟩, _⟩ := h
  simp only [right6, Bool.and_eq_true, Bool.or_eq_true, startE] at hr
  obtain ⟨hm', hr | hr⟩ := hr
  · simp only [asks6, Bool.and_eq_true, decide_eq_true_eq] at hr
    exact absurd hr.1.2 hst
  · simp only [answers6, Bool.and_eq_true, decide_eq_true_eq, List.isEmpty_iff] at hr
    obtain ⟨⟨⟨⟨⟨r1, r2⟩, r3⟩, r4⟩, _⟩, r6⟩ := hr
    have hff := fault_few hfa
    have hm : e.minor = 0 ∨ e.minor = 1 := hm'.imp (fun h => of_decide_eq_true h) (fun h => of_decide_eq_true h)
    refine ⟨r1, r2, by omega, by omega, by omega, by omega, ha.1, by omega, hg.1, by omega, ho.1, by omega, hz.1, by omega, hu.1, hu.2, by omega, by omega, by omega, by omega, hn, by omega, hf, by omega, ?_⟩
    intro x hx
    have := List.all_eq_true.1 hb x hx
    simp only [ext19, Bool.and_eq_true, upTo_true, decide_eq_true_eq] at this
    omega
/-- The same octets just if it is the same entry. -/
theorem pack_same {a b : Entry} (ha : PackOk a) (hb : PackOk b) : packL a = packL b ↔ a = b := ⟨pack_inj ha hb, fun h => by rw [h]⟩
theorem textB_length (s : List UInt8) : (textB s).length = s.length + 2 := by unfold textB; rw [List.length_append, numB_length]; omega
end IH
