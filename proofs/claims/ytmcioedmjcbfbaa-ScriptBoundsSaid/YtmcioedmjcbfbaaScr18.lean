/- Walks of layer 27: what is asked for, taken from the front of a line. Condition: texts within 10^9 octets, fewer calls than 10^9. -/
import Derived.Test.YtmcioedmjcbfbaaScr17
import Derived.Test.YtmcioedmjcbfbaaScr4
import Derived.Test.YtmcioedmjcbfbaaShape
import Derived.Test.YtmcioedmjcbfbaaKt
namespace Go.Proofs.Ytmcioedmjcbfbaa
open Go.RowKit IH
set_option maxRecDepth 100000
theorem takeWhile_all {α : Type} (p : α → Bool) : ∀ l : List α, (∀ x ∈ l, p x = true) → l.takeWhile p = l
  | [], _ => rfl
  | x :: l, h => by rw [List.takeWhile_cons, if_pos (h x (by simp)), takeWhile_all p l fun y hy => h y (by simp [hy])]
/-- Up to the first space: its place, and what it cuts. -/
theorem word_at (t : List UInt8) : ∃ n : Nat, n ≤ t.length ∧ wordW t = t.take n ∧ restW t = t.drop n ∧ ((Lib.indexByte t 32 = -1 ∧ n = t.length) ∨ Lib.indexByte t 32 = (n : Int)) := by
  have hsp : wordW t ++ restW t = t := word_rest t
  have hI : (Lib.indexByte t 32 = -1 ∧ (wordW t).length = t.length) ∨ Lib.indexByte t 32 = ((wordW t).length : Int) := by
    by_cases hm : (32 : UInt8) ∈ t
    · right
      obtain ⟨a, b, rfl, ha⟩ := List.eq_append_cons_of_mem hm
      have ha' : ∀ x ∈ a, x ≠ 32 := fun x hx e => ha (e ▸ hx)
      have hw : wordW (a ++ 32 :: b) = a := by
        unfold wordW
        rw [List.takeWhile_append_of_pos (fun x hx => by simpa using ha' x hx)]
        simp
      rw [indexByte_mid 32 a b ha', hw]
    · left
      have hn : ∀ x ∈ t, x ≠ 32 := fun x hx e => hm (e ▸ hx)
      refine ⟨indexByte_no 32 t hn, ?_⟩
      unfold wordW
      rw [takeWhile_all _ _ fun x hx => by simpa using hn x hx]
  obtain ⟨a, ha⟩ : ∃ a, wordW t = a := ⟨_, rfl⟩
  obtain ⟨r, hr⟩ : ∃ r, restW t = r := ⟨_, rfl⟩
  rw [ha, hr] at hsp
  rw [ha] at hI
  refine ⟨a.length, by rw [← hsp, List.length_append]; omega, by rw [ha, ← hsp, List.take_left' rfl], by rw [hr, ← hsp, List.drop_left' rfl], hI⟩
theorem unq27_bound : ∀ (f : Nat) (acc : List UInt8) (k : Nat) (l : List UInt8), (unq27 f acc k l).2.2 = 0 ∨ unq27 f acc k l = ([], 0, 10)
  | 0, _, _, _ => .inr rfl
  | f + 1, acc, k, l => by
    unfold unq27
    cases l with
    | nil => exact .inr rfl
    | cons c r =>
      simp only
      split
      · exact .inl rfl
      · cases octOf (c :: r) with
        | none => exact .inr rfl
        | some d => exact unq27_bound f _ _ _
theorem unquote27_ways (t : List UInt8) : ((unquote27 t).2.2 = 0 ∧ 0 ≤ (unquote27 t).2.1 ∧ (unquote27 t).2.1.toNat ≤ t.length) ∨ unquote27 t = ([], 0, 10) := by
  have h1 : (unquote27 t).2.2 = 0 ∨ unquote27 t = ([], 0, 10) := by
    unfold unquote27
    cases t with
    | nil => exact .inr rfl
    | cons c r =>
      simp only
      split
      · exact unq27_bound _ _ _ _
      · exact .inr rfl
  rcases h1 with h | h
  · left
    obtain ⟨r, h3, h4⟩ := unquote27_inv (s := t) (b := (unquote27 t).1) (n := (unquote27 t).2.1) (by rw [← h])
    refine ⟨h, by omega, ?_⟩
    rw [h4]
    have := congrArg List.length h3
    rw [List.length_append] at this
    omega
  · exact .inr h
theorem pre32 (s : ByteArray) : (Lib.hasPrefix s.data.toList [32] = false ∧ ∀ (a : UInt8) (d : Deed), askD a d s.data.toList = none) ∨
    (Lib.hasPrefix s.data.toList [32] = true ∧ ∃ t, s.data.toList = 32 :: t ∧ Lib.trimPrefix s.data.toList [32] = t) := by
  cases h : s.data.toList with
  | nil => exact .inl ⟨rfl, fun a d => by unfold askD tOct tKeep tNum; simp⟩
  | cons c t =>
    by_cases hc : c = 32
    · subst hc
      exact .inr ⟨rfl, t, rfl, rfl⟩
    · left
      have hb : ((32 : UInt8) == c) = false := by rw [beq_eq_false_iff_ne]; exact fun hh => hc hh.symm
      exact ⟨by show (([32] : List UInt8).isPrefixOf (c :: t)) = false; rw [List.isPrefixOf, hb]; rfl, fun a d => by unfold askD tOct tKeep tNum; simp [hc]⟩
theorem SIndexByte_any (s : ByteArray) (w : World) :
    Calls Try.prog 57 #[.string s, .int .u8 32] w fun e w' => e = .returned (.int .i64 (Lib.indexByte s.data.toList 32)) ∧ w = w' :=
  (Try.strings_IndexByte s 32 w).mono fun _ _ ⟨h1, h2⟩ => ⟨h1, h2.symm⟩
/-- What 'take' answers. -/
def tookV (o : Option (Deed × List UInt8)) (e : Ending) : Prop := match o with
  | none => ∃ r : ByteArray, e = .returned (.tuple #[.string r, .bool false])
  | some x => e = .returned (.tuple #[.string ⟨x.2.toArray⟩, .bool true])
def tookD (o : Option (Deed × List UInt8)) (w : World) (g B : Nat) : Prop := match o with
  | none => True
  | some x => DeedAt w g 98 B x.1
set_option maxHeartbeats 4000000 in
/-- A line without a space ahead. -/
theorem take_none (ask : Int) (s : ByteArray) (hp : Lib.hasPrefix s.data.toList [32] = false) (p : Value) (w : World) :
    Calls Try.prog 59 #[p, .int .u8 ask, .string s] w fun e w' => (∃ r : ByteArray, e = .returned (.tuple #[.string r, .bool false])) ∧ w = w' := by
  have CP := CutPrefix_any s ⟨#[32]⟩
  have e : (⟨#[32]⟩ : ByteArray).data.toList = [32] := rfl
  rw [e, hp] at CP
  have CP' := Lib.hid CP
  clear e hp CP
  go_enter Try.func59, Try.ntmps59
  go_wp2_with (go_at_call 85; refine (CP'.out _).mono ?_; rintro e w' ⟨rfl, rfl⟩)
  go_ret2
  exact ⟨⟨_, rfl⟩, rfl⟩
set_option maxHeartbeats 4000000 in
theorem take_oct (s : ByteArray) (hs : s.size ≤ 1000000000) (g B : Nat) (w : World) (hB : B ≤ g) (d : Deed) (hr : DeedAt w g 98 B d) (t : List UInt8) (ht : s.data.toList = 32 :: t) (hp : Lib.hasPrefix s.data.toList [32] = true) (htr : Lib.trimPrefix s.data.toList [32] = t) :
    Calls Try.prog 59 #[.pointer (some ⟨g, 0, none⟩), .int .u8 111, .string s] w fun e w' => tookV (askD 111 d s.data.toList) e ∧ tookD (askD 111 d s.data.toList) w' g B ∧ Below B w w' := by
  have CP := CutPrefix_any s ⟨#[32]⟩
  have e : (⟨#[32]⟩ : ByteArray).data.toList = [32] := rfl
  rw [e, hp, htr] at CP
  have CP' := Lib.hid CP
  have hsz : (⟨t.toArray⟩ : ByteArray).size ≤ 1000000000 := by
    rw [size_mk]
    have := congrArg List.length ht
    rw [data_len] at this
    simp at this
    omega
  obtain ⟨T, hT⟩ : ∃ T : ByteArray, (⟨t.toArray⟩ : ByteArray) = T := ⟨_, rfl⟩
  have hTl : T.data.toList = t := by rw [← hT]
  rw [hT] at CP' hsz
  have UQ := fun w => Unquote27_any T hsz w
  rw [hTl] at UQ
  have hres : askD 111 d s.data.toList = if (unquote27 t).2.2 = 0 then some ({ d with b := (unquote27 t).1 }, t.drop (unquote27 t).2.1.toNat) else none := by
    rw [ht, ask111]
    unfold tOct
    simp only [if_true]
    by_cases h0 : (unquote27 t).2.2 = 0
    · rw [if_pos h0, if_pos h0]; rfl
    · rw [if_neg h0, if_neg h0]; rfl
  rw [hres]
  have hways := unquote27_ways t
  obtain ⟨vB, vC, vK, hr, ho⟩ := hr
  have Hr := Lib.hid hr
  have Ho := Lib.hid ho
  have hgl := hr.lt
  have hTs : T.size = t.length := by rw [← data_len, hTl]
  clear hr ho hres CP e hp htr ht hs hT
  rcases hways with ⟨h1, h2, h3⟩ | h1
  · obtain ⟨n, hn⟩ : ∃ n : Nat, (unquote27 t).2.1 = (n : Int) := ⟨_, (Int.toNat_of_nonneg h2).symm⟩
    rw [hn, h1] at UQ
    rw [hn] at h3 ⊢
    rw [if_pos h1]
    obtain ⟨b, hb⟩ : ∃ b, (unquote27 t).1 = b := ⟨_, rfl⟩
    rw [hb] at UQ ⊢
    have UQ' := Lib.hid UQ
    have hnT : n ≤ T.size := by rw [hTs]; simpa using h3
    have HD : Hid (T.extract n T.size = ⟨(t.drop n).toArray⟩) := Lib.hid (bytes_inj (by rw [drop_data, hTl]))
    clear UQ h1 h2 h3 hn hb hTs hTl
    go_enter Try.func59, Try.ntmps59
    go_wp2_with (first
      | (go_at_call 85; refine (CP'.out _).mono ?_; rintro e w' ⟨rfl, rfl⟩)
      | (go_at_call 30; refine (UQ'.out _).mono ?_; rintro e w2 ⟨v, rfl, hv, hb2⟩; obtain ⟨A3, q3, rfl, _⟩ := own_slice hv; have R2 := Lib.hid (Hr.out.below hb2 hgl); have O2 := Lib.hid (Ho.out.keep (Kept3.below hb2)); have B2 := Lib.hid (hb2.mono (show B ≤ w.heap.size by omega)); have V2 := Lib.hid (own_base hv (show B ≤ w.heap.size by omega)); have f3 := R2.out.frozen (j := 3) (show 3 < 8 by omega); have d3 := R2.out.cell (j := 3) rfl; clear hb2 hv))
    go_ret2
    refine ⟨?_, ?_, B2.out.setCell hB _⟩
    · unfold tookV
      simp only [Int.toNat_natCast]
      rw [HD.out]
      rfl
    · unfold tookD
      have K5 := fun v => Kept3.only (Only.setCell g 3 w2 v) R2.out (by decide)
      have O5 := fun v => O2.out.keep (K5 v)
      exact ⟨_, vC, vK, R2.out.set_ (j := 3) (show 3 < 8 by omega) _, ⟨own_keep V2.out fun k cur hh => K5 _ k cur _ (.inl rfl) hh, (O5 _).c, (O5 _).k⟩⟩
  · rw [h1] at UQ ⊢
    have UQ' := Lib.hid UQ
    clear UQ h1 hTs hTl
    go_enter Try.func59, Try.ntmps59
    go_wp2_with (first
      | (go_at_call 85; refine (CP'.out _).mono ?_; rintro e w' ⟨rfl, rfl⟩)
      | (go_at_call 30; refine (UQ'.out _).mono ?_; rintro e w2 ⟨v, rfl, hv, hb2⟩; obtain ⟨A3, q3, rfl, _⟩ := own_slice hv; have R2 := Lib.hid (Hr.out.below hb2 hgl); have B2 := Lib.hid (hb2.mono (show B ≤ w.heap.size by omega)); have f3 := R2.out.frozen (j := 3) (show 3 < 8 by omega); have d3 := R2.out.cell (j := 3) rfl; clear hb2 hv))
    go_ret2
    exact ⟨⟨_, rfl⟩, trivial, B2.out.setCell hB _⟩
theorem keeps_at (T : ByteArray) (hT : T.size ≤ 1000000000) (l : List UInt8) (hl : T.data.toList = l) (w : World) :
    Calls Try.prog 86 #[.string T] w fun e w' => ∃ v, e = .returned (.tuple #[v, .bool (keepP l).isSome]) ∧ w'.ownsRow w.heap.size 4 1 v ((keepP l).getD []).length (boolsV ((keepP l).getD [])) ∧ Below w.heap.size w w' := by
  subst hl
  exact keeps_any T hT w
theorem dnum_at (a : UInt8) (ask : Int) (ha : (a = 99 ∧ ask = 99) ∨ (a = 110 ∧ ask = 110) ∨ (a = 116 ∧ ask = 116) ∨ (a = 112 ∧ ask = 112) ∨ (a = 102 ∧ ask = 102)) (s : ByteArray) (hs : s.size ≤ 1000000000) (l : List UInt8) (hl : s.data.toList = l) (g B : Nat) (w : World) (hB : B ≤ g) (d : Deed) (hc : d.calls.length ≤ 1000000000) (hr : DeedAt w g 98 B d) :
    Calls Try.prog 87 #[.pointer (some ⟨g, 0, none⟩), .int .u8 ask, .string s] w fun e w' => e = .returned (.bool (numP l).isSome) ∧ DeedAt w' g 98 B (putD a d (numC l).1) ∧ Below B w w' := by
  subst hl
  exact dnumA_any a ask ha s hs g B w hB d hc hr
theorem ext_end (T : ByteArray) : T.extract T.size T.size = ByteArray.empty := bytes_inj (by rw [drop_data, ← data_len, List.drop_length]; rfl)
theorem ext_all (T : ByteArray) : T.extract 0 T.size = T := bytes_inj (by rw [take_data T _ (Nat.le_refl _), ← data_len, List.take_length])
set_option maxHeartbeats 4000000 in
theorem take_keep (s : ByteArray) (hs : s.size ≤ 1000000000) (g B : Nat) (w : World) (hB : B ≤ g) (d : Deed) (hr : DeedAt w g 98 B d) (t : List UInt8) (ht : s.data.toList = 32 :: t) (hp : Lib.hasPrefix s.data.toList [32] = true) (htr : Lib.trimPrefix s.data.toList [32] = t) :
    Calls Try.prog 59 #[.pointer (some ⟨g, 0, none⟩), .int .u8 107, .string s] w fun e w' => tookV (askD 107 d s.data.toList) e ∧ tookD (askD 107 d s.data.toList) w' g B ∧ Below B w w' := by
  have CP := CutPrefix_any s ⟨#[32]⟩
  have e : (⟨#[32]⟩ : ByteArray).data.toList = [32] := rfl
  rw [e, hp, htr] at CP
  have CP' := Lib.hid CP
  have hsz : (⟨t.toArray⟩ : ByteArray).size ≤ 1000000000 := by
    rw [size_mk]
    have := congrArg List.length ht
    rw [data_len] at this
    simp at this
    omega
  obtain ⟨T, hT⟩ : ∃ T : ByteArray, (⟨t.toArray⟩ : ByteArray) = T := ⟨_, rfl⟩
  have hTl : T.data.toList = t := by rw [← hT]
  rw [hT] at CP' hsz
  have IX := Lib.hid (fun w => SIndexByte_any T w)
  rw [hTl] at IX
  obtain ⟨n, hn, hw1, hw2, hI⟩ := word_at t
  have hTs : T.size = t.length := by rw [← data_len, hTl]
  have hres : askD 107 d s.data.toList = (keepP (t.take n)).map fun x => ({ d with keep := x }, t.drop n) := by
    rw [ht, ask107]
    unfold tKeep
    simp only [if_true]
    rw [hw1, hw2, Option.map_map]
    rfl
  rw [hres]
  have hX : (T.extract 0 n).data.toList = t.take n := by rw [take_data T n (by omega), hTl]
  have hXs : (T.extract 0 n).size ≤ 1000000000 := by rw [← data_len, hX, List.length_take]; omega
  have KP := fun w => keeps_at (T.extract 0 n) hXs (t.take n) hX w
  have HD : Hid (T.extract n T.size = ⟨(t.drop n).toArray⟩) := Lib.hid (bytes_inj (by rw [drop_data, hTl]))
  obtain ⟨vB, vC, vK, hr, ho⟩ := hr
  have Hr := Lib.hid hr
  have Ho := Lib.hid ho
  have hgl := hr.lt
  obtain ⟨K, hK⟩ : ∃ K, keepP (t.take n) = K := ⟨_, rfl⟩
  rw [hK] at KP ⊢
  have KP' := Lib.hid KP
  rw [← hTs] at hn hI
  clear hr ho hres CP e hp htr ht hs hT hw1 hw2 hX hXs KP hK hTs hTl
  obtain ⟨J, hJ⟩ : ∃ J, Lib.indexByte t 32 = J := ⟨_, rfl⟩
  rw [hJ] at IX hI
  clear hJ
  rcases hI with ⟨rfl, rfl⟩ | rfl
  all_goals
    go_enter Try.func59, Try.ntmps59
    go_wp2_with (first
      | (go_at_call 85; refine (CP'.out _).mono ?_; rintro e w' ⟨rfl, rfl⟩)
      | (go_at_call 57; refine (IX.out _).mono ?_; rintro e w' ⟨rfl, rfl⟩)
      | (go_at_call 86; (first | (with_reducible refine (KP'.out _).mono ?_) | (rw [ext_all] at KP'; (with_reducible refine (KP'.out _).mono ?_))); rintro e w2 ⟨v, rfl, hv, hb2⟩; obtain ⟨A3, q3, rfl, _⟩ := own_slice hv; have R2 := Lib.hid (Hr.out.below hb2 hgl); have O2 := Lib.hid (Ho.out.keep (Kept3.below hb2)); have B2 := Lib.hid (hb2.mono (show B ≤ w.heap.size by omega)); have V2 := Lib.hid (own_base hv (show B ≤ w.heap.size by omega)); have f5 := R2.out.frozen (j := 5) (show 5 < 8 by omega); have d5 := R2.out.cell (j := 5) rfl; clear hb2 hv))
    go_ret2
    refine ⟨?_, ?_, B2.out.setCell hB _⟩
    · cases K with
      | none => exact ⟨_, rfl⟩
      | some k =>
        unfold tookV
        simp only [Option.map_some, Option.isSome_some]
        first | (rw [← HD.out]; rfl) | (rw [← HD.out, ext_end]; rfl)
    · cases K with
      | none => exact trivial
      | some k =>
        unfold tookD
        simp only [Option.map_some]
        have K5 := fun v => Kept3.only (Only.setCell g 5 w2 v) R2.out (by decide)
        have O5 := fun v => O2.out.keep (K5 v)
        exact ⟨vB, vC, _, R2.out.set_ (j := 5) (show 5 < 8 by omega) _, ⟨(O5 _).b, (O5 _).c, own_keep V2.out fun k cur hh => K5 _ k cur _ (.inr (.inr rfl)) hh⟩⟩
set_option maxHeartbeats 4000000 in
theorem take_num (a : UInt8) (ask : Int) (ha : (a = 99 ∧ ask = 99) ∨ (a = 110 ∧ ask = 110) ∨ (a = 116 ∧ ask = 116) ∨ (a = 112 ∧ ask = 112) ∨ (a = 102 ∧ ask = 102)) (s : ByteArray) (hs : s.size ≤ 1000000000) (g B : Nat) (w : World) (hB : B ≤ g) (d : Deed) (hc : d.calls.length ≤ 1000000000) (hr : DeedAt w g 98 B d) (t : List UInt8) (ht : s.data.toList = 32 :: t) (hp : Lib.hasPrefix s.data.toList [32] = true) (htr : Lib.trimPrefix s.data.toList [32] = t) :
    Calls Try.prog 59 #[.pointer (some ⟨g, 0, none⟩), .int .u8 ask, .string s] w fun e w' => tookV (askD a d s.data.toList) e ∧ tookD (askD a d s.data.toList) w' g B ∧ Below B w w' := by
  have CP := CutPrefix_any s ⟨#[32]⟩
  have e : (⟨#[32]⟩ : ByteArray).data.toList = [32] := rfl
  rw [e, hp, htr] at CP
  have CP' := Lib.hid CP
  have hsz : (⟨t.toArray⟩ : ByteArray).size ≤ 1000000000 := by
    rw [size_mk]
    have := congrArg List.length ht
    rw [data_len] at this
    simp at this
    omega
  obtain ⟨T, hT⟩ : ∃ T : ByteArray, (⟨t.toArray⟩ : ByteArray) = T := ⟨_, rfl⟩
  have hTl : T.data.toList = t := by rw [← hT]
  rw [hT] at CP' hsz
  have IX := Lib.hid (fun w => SIndexByte_any T w)
  rw [hTl] at IX
  obtain ⟨n, hn, hw1, hw2, hI⟩ := word_at t
  have hTs : T.size = t.length := by rw [← data_len, hTl]
  have hres : askD a d s.data.toList = (numP (t.take n)).map fun x => (putD a d x, t.drop n) := by
    rw [ht]
    unfold askD
    rw [if_neg (by rcases ha with ⟨rfl, _⟩ | ⟨rfl, _⟩ | ⟨rfl, _⟩ | ⟨rfl, _⟩ | ⟨rfl, _⟩ <;> decide), if_neg (by rcases ha with ⟨rfl, _⟩ | ⟨rfl, _⟩ | ⟨rfl, _⟩ | ⟨rfl, _⟩ | ⟨rfl, _⟩ <;> decide)]
    unfold tNum
    simp only [if_true]
    rw [hw1, hw2, Option.map_map]
    rfl
  rw [hres]
  have hX : (T.extract 0 n).data.toList = t.take n := by rw [take_data T n (by omega), hTl]
  have hXs : (T.extract 0 n).size ≤ 1000000000 := by rw [← data_len, hX, List.length_take]; omega
  have DN := fun w hr => dnum_at a ask ha (T.extract 0 n) hXs (t.take n) hX g B w hB d hc hr
  have HD : Hid (T.extract n T.size = ⟨(t.drop n).toArray⟩) := Lib.hid (bytes_inj (by rw [drop_data, hTl]))
  have hnum : ∀ x, numP (t.take n) = some x → (numC (t.take n)).1 = x := fun x hx => by rw [(numC_says (t.take n)).2 x hx]
  obtain ⟨K, hK⟩ : ∃ K, numP (t.take n) = K := ⟨_, rfl⟩
  obtain ⟨N, hN⟩ : ∃ N, (numC (t.take n)).1 = N := ⟨_, rfl⟩
  rw [hK] at DN hnum ⊢
  rw [hN] at DN hnum
  have DN' := Lib.hid DN
  have TV : Hid (∀ r : ByteArray, r = ⟨(t.drop n).toArray⟩ → tookV (K.map fun x => (putD a d x, t.drop n)) (.returned (.tuple #[.string r, .bool K.isSome]))) := Lib.hid (by
    intro r hr
    subst hr
    cases K with
    | none => exact ⟨_, rfl⟩
    | some k => exact rfl)
  have TD : Hid (∀ w2, DeedAt w2 g 98 B (putD a d N) → tookD (K.map fun x => (putD a d x, t.drop n)) w2 g B) := Lib.hid (by
    intro w2 h2
    cases K with
    | none => exact trivial
    | some k =>
      unfold tookD
      simp only [Option.map_some]
      rw [← hnum k rfl]
      exact h2)
  have Hd : Hid (DeedAt w.drew g 98 B d) := Lib.hid (hr.below (below_drewN (Below.refl _ _) 1))
  rw [← hTs] at hn hI
  have e1 : (ask == 111) = false := by rcases ha with ⟨_, rfl⟩ | ⟨_, rfl⟩ | ⟨_, rfl⟩ | ⟨_, rfl⟩ | ⟨_, rfl⟩ <;> decide
  have e2 : (ask == 107) = false := by rcases ha with ⟨_, rfl⟩ | ⟨_, rfl⟩ | ⟨_, rfl⟩ | ⟨_, rfl⟩ | ⟨_, rfl⟩ <;> decide
  clear hr hres CP e hp htr ht hs hT hw1 hw2 hX hXs DN hK hTs hTl ha hnum hN
  obtain ⟨J, hJ⟩ : ∃ J, Lib.indexByte t 32 = J := ⟨_, rfl⟩
  rw [hJ] at IX hI
  clear hJ
  rcases hI with ⟨rfl, rfl⟩ | rfl
  all_goals
    go_enter Try.func59, Try.ntmps59
    go_wp2_with (first
      | (go_at_call 85; refine (CP'.out _).mono ?_; rintro e w' ⟨rfl, rfl⟩)
      | (go_at_call 57; refine (IX.out _).mono ?_; rintro e w' ⟨rfl, rfl⟩))
    refine wp_region_tree0 (fun w' => Below B w w') (.take 0 (.take 1 (.take 2 (.take 3 (.take 4 (.take 5 (.take 6 (.take 7 (.node (.fork 8 (.take 9 (.take 10 (.done))) (.stop))))))))))) (by kernel_rfl) (by kernel_rfl) (of_decide_eq_true (by kernel_rfl)) rfl (by kernel_rfl) (below_drewN (Below.refl B w) 1) ?_
    intro hH
    iterate 8
      refine tree_take (v := ?_) rfl (by rfl) ?_ ?_
      rotate_left
      · intro w2 hSw
        clear hSw
        go_simp
        try with_reducible rfl
      try simp only [Act.put, List.setIfInBounds_toArray, List.set_cons_zero, List.set_cons_succ]
    refine tree_node ?_
    refine tree_move rfl (by rfl) (fun K hK => ?_) ?_
    · go_simp
      (first | (with_reducible refine (DN'.out _ Hd.out).mono ?_) | (rw [ext_all] at DN'; (with_reducible refine (DN'.out _ Hd.out).mono ?_)))
      rintro e w2 ⟨rfl, hd2, hb2⟩
      have D2 := Lib.hid hd2
      clear hd2
      refine hK.out _ _ ((hH.out).trans hb2) ?_
      clear hH hK hb2 K
      intro hH
      try simp only [Act.put, List.setIfInBounds_toArray, List.set_cons_zero, List.set_cons_succ]
      iterate 2
        refine tree_take (v := ?_) rfl (by rfl) ?_ ?_
        rotate_left
        · intro w2 hSw
          clear hSw
          go_simp
          try with_reducible rfl
        try simp only [Act.put, List.setIfInBounds_toArray, List.set_cons_zero, List.set_cons_succ]
      refine tree_done ?_
      have B2 := Lib.hid hH.out
      clear hH
      go_wp2
      go_ret2
      exact ⟨TV.out _ (by first | exact HD.out | (rw [← ext_end T]; exact HD.out)), TD.out _ D2.out, B2.out⟩
    exact tree_stop
/-- Whatever is asked for. -/
theorem take_any (a : UInt8) (ask : Int) (ha : (a = 99 ∧ ask = 99) ∨ (a = 110 ∧ ask = 110) ∨ (a = 116 ∧ ask = 116) ∨ (a = 112 ∧ ask = 112) ∨ (a = 102 ∧ ask = 102) ∨ (a = 107 ∧ ask = 107) ∨ (a = 111 ∧ ask = 111)) (s : ByteArray) (hs : s.size ≤ 1000000000) (g B : Nat) (w : World) (hB : B ≤ g) (d : Deed) (hc : d.calls.length ≤ 1000000000) (hr : DeedAt w g 98 B d) :
    Calls Try.prog 59 #[.pointer (some ⟨g, 0, none⟩), .int .u8 ask, .string s] w fun e w' => tookV (askD a d s.data.toList) e ∧ tookD (askD a d s.data.toList) w' g B ∧ Below B w w' := by
  rcases pre32 s with ⟨hp, hno⟩ | ⟨hp, t, ht, htr⟩
  · rw [hno a d]
    refine (take_none ask s hp _ w).mono ?_
    rintro e w' ⟨h1, rfl⟩
    exact ⟨h1, trivial, Below.refl _ _⟩
  · rcases ha with h | h | h | h | h | ⟨rfl, rfl⟩ | ⟨rfl, rfl⟩
    · exact take_num a ask (.inl h) s hs g B w hB d hc hr t ht hp htr
    · exact take_num a ask (.inr (.inl h)) s hs g B w hB d hc hr t ht hp htr
    · exact take_num a ask (.inr (.inr (.inl h))) s hs g B w hB d hc hr t ht hp htr
    · exact take_num a ask (.inr (.inr (.inr (.inl h)))) s hs g B w hB d hc hr t ht hp htr
    · exact take_num a ask (.inr (.inr (.inr (.inr h)))) s hs g B w hB d hc hr t ht hp htr
    · exact take_keep s hs g B w hB d hr t ht hp htr
    · exact take_oct s hs g B w hB d hr t ht hp htr
end Go.Proofs.Ytmcioedmjcbfbaa
