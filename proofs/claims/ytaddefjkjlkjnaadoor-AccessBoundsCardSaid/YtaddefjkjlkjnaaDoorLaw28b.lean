/- Layer 28 in plain words: what is right is read back; what law AccessPrints calls small. No condition. -/
import Derived.Test.YtaddefjkjlkjnaaDoorLaw28a
namespace Go.Proofs.YtaddefjkjlkjnaaDoor
open Go.RowKit IH
set_option maxRecDepth 100000
theorem tchar_free (c : UInt8) (h : isTchar c = true) : c ≠ 32 ∧ c ≠ 10 := by constructor <;> (rintro rfl; revert h; decide)
theorem right_fine {t : Reply} (h : right28 t = true) : Fine28 t ∧ (∀ c ∈ t.method, c ≠ 10) ∧ (∀ c ∈ t.uri, c ≠ 10) := by
  unfold right28 at h
  simp only [Bool.and_eq_true, Bool.not_eq_true', decide_eq_true_eq] at h
  obtain ⟨⟨⟨⟨hm, hu⟩, hk⟩, hn⟩, hy⟩ := h
  unfold anyFar at hn
  simp only [List.any_cons, List.any_nil, Bool.or_false, Bool.or_eq_false_iff] at hn
  obtain ⟨n1, n2, n3, n4, n5⟩ := hn
  have num : ∀ n, far28 n = false → num28 n := fun n h => by
    unfold far28 at h
    rw [Bool.or_eq_false_iff, decide_eq_false_iff_not, decide_eq_false_iff_not] at h
    exact ⟨by omega, by omega⟩
  have hm1 : (∀ c ∈ t.method, c ≠ 32 ∧ c ≠ 10) ∧ t.method ≠ [45] := by
    unfold method28 at hm
    rw [Bool.or_eq_true] at hm
    rcases hm with hm | hm
    · have h0 : t.method = [] := by simpa using hm
      rw [h0]; exact ⟨by simp, by simp⟩
    · simp only [Bool.and_eq_true, Bool.not_eq_true'] at hm
      obtain ⟨⟨h1, _⟩, h2⟩ := hm
      unfold token allOf at h1
      rw [Bool.and_eq_true] at h1
      exact ⟨fun c hc => tchar_free c (List.all_eq_true.1 h1.2 c hc), by simpa using h2⟩
  have hu1 : (∀ c ∈ t.uri, c ≠ 32 ∧ c ≠ 10) ∧ t.uri ≠ [45] := by
    unfold uri28 at hu
    simp only [Bool.and_eq_true, Bool.not_eq_true'] at hu
    obtain ⟨⟨_, h1⟩, h2⟩ := hu
    refine ⟨fun c hc => ?_, by simpa using h2⟩
    unfold seen28 at h1
    have h3 := List.all_eq_true.1 h1 c hc
    constructor <;> (rintro rfl; revert h3; decide)
  have hk1 : 1 ≤ t.kind ∧ t.kind ≤ 5 := by
    refine Decidable.byContradiction fun hne => ?_
    have : word28 t.kind = [] := by
      unfold word28
      rw [if_neg (by omega), if_neg (by omega), if_neg (by omega), if_neg (by omega), if_neg (by omega)]
    rw [this] at hk
    cases hk
  exact ⟨⟨hk1.1, hk1.2, num _ n1, num _ n2, num _ n3, num _ n4, num _ n5, fun c hc => (hm1.1 c hc).1, hm1.2, fun c hc => (hu1.1 c hc).1, hu1.2⟩, fun c hc => (hm1.1 c hc).2, fun c hc => (hu1.1 c hc).2⟩
theorem line_body (t : Reply) : line28 t = body28 t ++ [10] := by
  have e1 : ∀ s, dash28 s = dsh28 s := fun s => by cases s <;> simp [dash28, dsh28]
  have e2 : ∀ n, d10 n = dd10 n := fun n => rfl
  have e3 : ∀ k, word28 k = w28 k := fun k => word28_w28 k
  rw [line28_flat]
  unfold body28
  simp only [List.append_assoc, List.cons_append, List.nil_append, e1, e2, e3]
theorem one_self {t : Reply} (h : right28 t = true) : one28 (body28 t) = some t ∧ ∀ c ∈ body28 t, c ≠ 10 := by
  obtain ⟨hf, hm, hu⟩ := right_fine h
  obtain ⟨p, hp, ht⟩ := read_body hf
  refine ⟨?_, body_noLF hf hm hu⟩
  unfold one28
  rw [hp]
  simp only
  rw [ht, if_pos ⟨h, line_body t⟩]
theorem lines_body (L : List Reply) : lines28 L = L.flatMap fun t => body28 t ++ [10] := by
  unfold lines28
  congr 1
  funext t
  exact line_body t
def tiny28 (t : Reply) : Bool := decide (t.method.length ≤ 100) && (decide (t.uri.length ≤ 500) && decide (t.key.length ≤ 500))
theorem line_tiny {t : Reply} (h : tiny28 t = true) : (line28 t).length ≤ 4000 := by
  unfold tiny28 at h
  simp only [Bool.and_eq_true, decide_eq_true_eq] at h
  have h1 := d10_length t.moment
  have h2 := d10_length t.conn
  have h3 := word28_length t.kind
  have h4 := dash28_length t.method
  have h5 := dash28_length t.uri
  have h6 := d10_length t.status
  have h7 := d10_length t.age
  have h8 := d10_length t.lines
  have h9 := quote27_length t.key
  rw [line28_flat]
  simp only [List.length_append, List.length_cons, List.length_nil]
  omega
theorem lines_tiny {L : List Reply} (h : ∀ t ∈ L, tiny28 t = true) : (lines28 L).length ≤ 4000 * L.length := by
  unfold lines28
  induction L with
  | nil => simp
  | cons t L ih =>
    have h1 := line_tiny (h t (by simp))
    have h2 := ih fun x hx => h x (by simp [hx])
    simp only [List.flatMap_cons, List.length_append, List.length_cons]
    omega
theorem tiny_small {t : Reply} (h : tiny28 t = true) : Small28 t := by
  unfold tiny28 at h
  simp only [Bool.and_eq_true, decide_eq_true_eq] at h
  exact ⟨by omega, by omega, by omega⟩
theorem anyWrong_all (L : List Reply) : anyWrong L = !(L.all right28) := by
  unfold anyWrong
  induction L with
  | nil => rfl
  | cons t L ih => rw [List.any_cons, List.all_cons, ih, Bool.not_and]
/-- Nine cells of a reply. -/
def At9 (w : World) (b o : Nat) (t : Reply) (x y z : ByteArray) : Prop :=
  w.cell? ⟨b, o, none⟩ = some (.int .i64 t.conn) ∧ w.cell? ⟨b, o + 1, none⟩ = some (.int .i64 t.kind) ∧ w.cell? ⟨b, o + 2, none⟩ = some (.int .i64 t.moment) ∧ w.cell? ⟨b, o + 3, none⟩ = some (.int .i64 t.lines) ∧
    w.cell? ⟨b, o + 4, none⟩ = some (.string x) ∧ w.cell? ⟨b, o + 5, none⟩ = some (.string y) ∧ w.cell? ⟨b, o + 6, none⟩ = some (.string z) ∧ w.cell? ⟨b, o + 7, none⟩ = some (.int .i64 t.status) ∧ w.cell? ⟨b, o + 8, none⟩ = some (.int .i64 t.age)
theorem At9.below {w w' : World} {b o B : Nat} {t : Reply} {x y z : ByteArray} (h : At9 w b o t x y z) (hb : Below B w w') (hl : b < B) : At9 w' b o t x y z := by
  obtain ⟨h0, h1, h2, h3, h4, h5, h6, h7, h8⟩ := h
  exact ⟨(hb.cell (p := ⟨b, o, none⟩) hl).trans h0, (hb.cell (p := ⟨b, o + 1, none⟩) hl).trans h1, (hb.cell (p := ⟨b, o + 2, none⟩) hl).trans h2, (hb.cell (p := ⟨b, o + 3, none⟩) hl).trans h3, (hb.cell (p := ⟨b, o + 4, none⟩) hl).trans h4,
    (hb.cell (p := ⟨b, o + 5, none⟩) hl).trans h5, (hb.cell (p := ⟨b, o + 6, none⟩) hl).trans h6, (hb.cell (p := ⟨b, o + 7, none⟩) hl).trans h7, (hb.cell (p := ⟨b, o + 8, none⟩) hl).trans h8⟩
theorem at9_of {w : World} {L : List Reply} {A : Option Addr} {n c k : Nat} {t : Reply} (hin : SliceIn w w.heap.size 9 A n c (toldsV L)) (ht : L[k]? = some t) (hk : k < n) :
    ∃ b off, A = some ⟨b, off, none⟩ ∧ b < w.heap.size ∧ At9 w b (off + k * 9) t ⟨t.method.toArray⟩ ⟨t.uri.toArray⟩ ⟨t.key.toArray⟩ := by
  obtain ⟨b, off, rfl, hb, hc⟩ := told_at hin (Below.refl _ _) ht hk
  exact ⟨b, off, rfl, hb, by simpa using hc 0 _ rfl, hc 1 _ rfl, hc 2 _ rfl, hc 3 _ rfl, hc 4 _ rfl, hc 5 _ rfl, hc 6 _ rfl, hc 7 _ rfl, hc 8 _ rfl⟩
set_option maxHeartbeats 4000000 in
theorem small28_any (A : Option Addr) (n c : Nat) (L : List Reply) (w : World) (hin : SliceIn w w.heap.size 9 A n c (toldsV L)) (hn : n ≤ 9223372036854775807) :
    Calls Tryd.prog 24 #[.slice A n c] w fun e w' => e = .returned (.bool (decide (n ≤ 30) && L.all tiny28)) ∧ w = w' := by
  have hL : L.length = n := by have := hin.1; rw [toldsV_length] at this; omega
  by_cases h30 : 30 < n
  · rw [decide_eq_false (by omega), Bool.false_and]
    have hI : (30 : Int) < (n : Int) := by omega
    clear hin
    go_enter Tryd.func24, Tryd.ntmps24
    go_wp2
    go_ret
    exact ⟨rfl, rfl⟩
  · rw [decide_eq_true (by omega), Bool.true_and]
    have hI : (n : Int) ≤ (30 : Int) := by omega
    have hn30 : n ≤ 30 := by omega
    have Hin := Lib.hid hin
    have HL := Lib.hid hL
    clear hin hL h30
    go_enter Tryd.func24, Tryd.ntmps24
    go_wp2
    go_loop [3] (fun i => ∃ k : Nat, k ≤ n ∧ i = .int .i64 k ∧ (L.take k).all tiny28 = true) (fun i => n - (intOf i).toNat)
    case atStart => exact ⟨0, by omega, rfl, rfl⟩
    case round =>
      obtain ⟨k, hk, rfl, hall⟩ := hrel
      have HA := Lib.hid hall
      clear hall
      by_cases hlt : k < n
      · obtain ⟨t, ht⟩ : ∃ t, L[k]? = some t := ⟨_, List.getElem?_eq_getElem (by rw [HL.out]; exact hlt)⟩
        obtain ⟨b, off, rfl, hb, h9⟩ := at9_of Hin.out ht hlt
        have kI : (k : Int) < (n : Int) := by omega
        obtain ⟨X, hX⟩ : ∃ X : ByteArray, (⟨t.method.toArray⟩ : ByteArray) = X := ⟨_, rfl⟩
        obtain ⟨Y, hY⟩ : ∃ X : ByteArray, (⟨t.uri.toArray⟩ : ByteArray) = X := ⟨_, rfl⟩
        obtain ⟨Z, hZ⟩ : ∃ X : ByteArray, (⟨t.key.toArray⟩ : ByteArray) = X := ⟨_, rfl⟩
        rw [hX, hY, hZ] at h9
        obtain ⟨_, _, _, _, x4, x5, x6, _, _⟩ := h9
        have htn : tiny28 t = (decide ((X.size : Int) ≤ 100) && (decide ((Y.size : Int) ≤ 500) && decide ((Z.size : Int) ≤ 500))) := by
          unfold tiny28
          rw [← hX, ← hY, ← hZ, size_mk, size_mk, size_mk]
          congr 1
          · rw [decide_eq_decide]; omega
          · congr 1
            · rw [decide_eq_decide]; omega
            · rw [decide_eq_decide]; omega
        have HNt : tiny28 t = true → Hid ((L.take (k + 1)).all tiny28 = true) := fun h => Lib.hid (by rw [List.take_add_one, ht, List.all_append, HA.out]; simp [h])
        have HNf : tiny28 t = false → Hid (L.all tiny28 = false) := fun h => Lib.hid (by
          rw [List.all_eq_false]
          exact ⟨t, List.mem_of_getElem? ht, by simp [h]⟩)
        rw [htn] at HNt HNf
        have HT := Lib.hid HNt
        have HF := Lib.hid HNf
        clear htn HNt HNf hX hY hZ ht
        by_cases h1 : (X.size : Int) ≤ 100
        · by_cases h2 : (Y.size : Int) ≤ 500
          · by_cases h3 : (Z.size : Int) ≤ 500
            · have HN := HT.out (by simp [h1, h2, h3])
              clear HT HF
              go_wp2
              go_round
              case rel => exact ⟨k + 1, by omega, by go_num, HN.out⟩
              case measure => simp [intOf]; omega
            · have HN := HF.out (by rw [decide_eq_false h3]; simp)
              have h3' : (500 : Int) < (Z.size : Int) := by omega
              clear HT HF h3
              go_wp2
              go_ret
              exact ⟨ret_bool HN.out.symm, rfl⟩
          · have HN := HF.out (by rw [decide_eq_false h2]; simp)
            have h2' : (500 : Int) < (Y.size : Int) := by omega
            clear HT HF h2
            go_wp2
            go_ret
            exact ⟨ret_bool HN.out.symm, rfl⟩
        · have HN := HF.out (by rw [decide_eq_false h1]; simp)
          have h1' : (100 : Int) < (X.size : Int) := by omega
          clear HT HF h1
          go_wp2
          go_ret
          exact ⟨ret_bool HN.out.symm, rfl⟩
      · obtain rfl : k = n := by omega
        have hall := HA.out
        rw [List.take_of_length_le (by rw [HL.out]; exact Nat.le_refl _)] at hall
        have HN := Lib.hid hall
        clear hall hlt
        go_wp2
        go_ret
        exact ⟨ret_bool HN.out.symm, rfl⟩
end Go.Proofs.YtaddefjkjlkjnaaDoor
