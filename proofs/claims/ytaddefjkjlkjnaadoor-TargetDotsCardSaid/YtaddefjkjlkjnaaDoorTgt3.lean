/- Layer 5 in plain Lean: what the laws ask of URIs (read again, led back, without dots). No program in sight; no condition. -/
import Derived.Test.YtaddefjkjlkjnaaDoorTgt2
namespace IH
set_option maxRecDepth 100000

theorem ofU_err (t s : List UInt8) : (ofU t s).2 = 0 ∨ (ofU t s).1 = zeroU := by
  unfold ofU
  split
  · exact .inr rfl
  · split
    · exact .inr rfl
    · split
      · rcases joinU_err (seatL s) (placeL t) with h | h
        · exact .inl h
        · exact .inr (by rw [h])
      · exact parseU_err t
theorem parseU_ok {s : List UInt8} (h : (parseU s).2 = 0) : parseU s = ((parseU s).1, 0) := by rw [← h]
theorem back_parse {s : List UInt8} {u : Uri} (hs : s.length ≤ 4000) (h : parseU s = (u, 0)) : parseU (printU u) = (u, 0) := by
  obtain ⟨hn, _, _, hl, _⟩ := parseU_normal h
  have := printU_length hn.p0 hn.p1
  exact parse_printU hn (by omega)
theorem back_of {s host : List UInt8} {v : Uri} (hs : s.length ≤ 4000) (hh : host.length ≤ 300) (h : ofU s host = (v, 0)) :
    parseU (printU v) = (v, 0) ∧ s ≠ [] ∧ (s.head? = some 47 → ofU v.path host = (v, 0)) := by
  obtain ⟨hn, hl⟩ := ofU_normal h
  have hp := printU_length hn.p0 hn.p1
  refine ⟨parse_printU hn (by omega), ?_, ?_⟩
  · rintro rfl
    unfold ofU at h
    split at h
    · simp at h
    · split at h
      · simp at h
      · rw [if_neg (by simp)] at h
        have : parseU [] = (zeroU, 10) := rfl
        rw [this] at h; simp at h
  · intro h47
    unfold ofU at h
    split at h
    · simp at h
    · split at h
      · simp at h
      · rename_i hs1
        obtain ⟨h1, h2⟩ := joinU_ok h
        have l2 := place_length h2
        unfold ofU
        rw [if_neg (by omega), if_neg hs1, if_pos hn.path.head, h1, hn.path.self]
        rfl
theorem begins_print (u : Uri) : begins5 (printU u) = true := by
  have e : printU u = http7 ++ (u.host ++ (if u.port = 80 then [] else 58 :: printN u.port 10) ++ u.path) := by simp [printU]
  rw [e]
  unfold begins5
  rw [List.take_left' (by rfl)]
  simp [http7]
  decide
theorem begins_slash {p : List UInt8} (h : p.head? = some 47) : begins5 p = false := by
  cases p with
  | nil => cases h
  | cons c r =>
    simp only [List.head?_cons, Option.some.injEq] at h
    subst h
    simp [begins5, http7, lower]
    intro _ e
    exact absurd e (by decide)
theorem begins_ne {p : List UInt8} (h : begins5 p = true) : p ≠ [] := by
  rintro rfl
  revert h; decide
theorem coded_all (q : Bool) : ∀ l : List UInt8, (l.all fun c => c != 37 && okC q c) = true → codedL q l = some l
  | [], _ => by simp [codedL]
  | c :: r, h => by
    simp only [List.all_cons, Bool.and_eq_true, bne_iff_ne] at h
    rw [coded_cons q c r h.1.1, if_pos h.1.2, coded_all q r (by simpa using h.2)]
    rfl
/-- "/zz9/y?z" -/
def zz9 : List UInt8 := [47, 122, 122, 57, 47, 121, 63, 122]
theorem zz9_normal : Normal zz9 := by
  refine ⟨rfl, ?_⟩
  have e1 : zz9.takeWhile (· != 63) = [47, 122, 122, 57, 47, 121] := by decide
  have e2 : (zz9.dropWhile (· != 63)).drop 1 = [122] := by decide
  unfold placeL
  rw [e1, e2, coded_all false _ (by decide), coded_all true _ (by decide)]
  simp only
  rw [if_neg (by simp), if_neg (by simp), if_pos (by decide)]
  have : segL [47, 122, 122, 57, 47, 121] = [47, 122, 122, 57, 47, 121] := by decide
  rw [this]; rfl
theorem own_self {s : List UInt8} {u : Uri} (hs : s.length ≤ 2000) (h : parseU s = (u, 0)) : resolveU u [] = (u, 0) ∧ resolveU u (printU u) = (u, 0) := by
  have hb := back_parse (by omega) h
  obtain ⟨hn, _, _, hl, _⟩ := parseU_normal h
  have hp := printU_length hn.p0 hn.p1
  constructor
  · unfold resolveU
    rw [if_neg (by rw [hb]; simp), if_neg (by simp), if_pos rfl]
  · unfold resolveU
    rw [if_neg (by rw [hb]; simp), if_neg (by omega), if_neg (begins_ne (begins_print u)), if_pos (begins_print u)]
    exact hb
theorem own_path {s : List UInt8} {u : Uri} (hs : s.length ≤ 2000) (h : parseU s = (u, 0)) (h2 : u.path[1]? ≠ some 47) : resolveU { u with path := zz9 } u.path = (u, 0) := by
  obtain ⟨hn, _, h3, hl, _⟩ := parseU_normal h
  have hv : NormalU { u with path := zz9 } := ⟨hn.host, hn.p0, hn.p1, zz9_normal⟩
  have hp := printU_length hv.p0 hv.p1
  have hz : zz9.length = 8 := rfl
  simp only at hp
  have hr := parse_printU hv (by omega)
  have hh := hn.path.head
  have hne : u.path ≠ [] := by intro e; rw [e] at hh; cases hh
  unfold resolveU
  rw [if_neg (by rw [hr]; simp), if_neg (by omega), if_neg hne, begins_slash hh, if_neg (by simp), if_neg, if_pos hh, hn.path.self]
  · rfl
  · intro e
    apply h2
    have := congrArg (fun l => l[1]?) e
    simpa using this
theorem own_other {s t : List UInt8} {u d : Uri} (hs : s.length ≤ 2000) (ht : t.length ≤ 2000) (h : parseU s = (u, 0)) (hd : parseU t = (d, 0)) : resolveU u t = (d, 0) := by
  have hb := back_parse (by omega) h
  have hg : begins5 t = true := by
    rcases hq : begins5 t with _ | _
    · unfold parseU at hd
      rw [if_neg (by omega), hq] at hd
      simp at hd
    · rfl
  unfold resolveU
  rw [if_neg (by rw [hb]; simp), if_neg (by omega), if_neg (begins_ne hg), if_pos hg, hd]

/-! No dots. -/
/-- Octet by octet, with the segment so far; q: behind the question mark. -/
def Good : List UInt8 → List UInt8 → Bool → Prop
  | seg, [], q => q = true ∨ dots seg = false
  | seg, c :: r, q => if q = false ∧ (c = 47 ∨ c = 63) then dots seg = false ∧ Good [] r (c == 63) else Good (seg ++ [c]) r q
theorem good_query : ∀ (r seg : List UInt8), Good seg r true
  | [], _ => .inl rfl
  | c :: r, seg => by
    unfold Good
    rw [if_neg (by simp)]
    exact good_query r _
theorem good_seg : ∀ (x seg r : List UInt8), (∀ c ∈ x, c ≠ 47 ∧ c ≠ 63) → Good (seg ++ x) r false → Good seg (x ++ r) false
  | [], seg, r, _, h => by simpa using h
  | c :: x, seg, r, hx, h => by
    obtain ⟨h1, h2⟩ := hx c (by simp)
    rw [List.cons_append]
    unfold Good
    rw [if_neg (by simp [h1, h2])]
    exact good_seg x (seg ++ [c]) r (fun d hd => hx d (by simp [hd])) (by simpa using h)
theorem good_flat : ∀ (l : List (List UInt8)) (x r : List UInt8), quietS l → (∀ s ∈ l, ∀ c ∈ s, c ≠ 47 ∧ c ≠ 63) → (∀ c ∈ x, c ≠ 47 ∧ c ≠ 63) → dots x = false → (r = [] ∨ r.head? = some 63) → Good [] (x ++ flat l ++ r) false := by
  intro l
  induction l with
  | nil =>
    intro x r _ _ hx hd hr
    rw [show x ++ flat [] ++ r = x ++ r by simp [flat]]
    refine good_seg x [] r hx ?_
    rw [List.nil_append]
    cases r with
    | nil => exact .inr hd
    | cons c r =>
      rcases hr with hr | hr
      · cases hr
      · simp only [List.head?_cons, Option.some.injEq] at hr
        subst hr
        unfold Good
        rw [if_pos (by simp)]
        exact ⟨hd, good_query r _⟩
  | cons s l ih =>
    intro x r hq hs hx hd hr
    have e : x ++ flat (s :: l) ++ r = x ++ 47 :: (s ++ flat l ++ r) := by simp [flat]
    rw [e]
    refine good_seg x [] _ hx ?_
    rw [List.nil_append]
    unfold Good
    rw [if_pos (by simp)]
    exact ⟨hd, ih s r (fun t ht => hq t (by simp [ht])) (fun t ht => hs t (by simp [ht])) (hs s (by simp)) (hq s (by simp)) hr⟩
/-- What a normal place is made of. -/
theorem place_parts {s r : List UInt8} (h : placeL s = some r) : ∃ l q t, l ≠ [] ∧ r = flat l ++ t ∧ quietS l ∧ (∀ s ∈ l, ∀ c ∈ s, c ≠ 47 ∧ c ≠ 63) ∧ normQ false (flat l) ∧ normQ true q ∧ (t = [] ∨ t = 63 :: q) := by
  unfold placeL at h
  cases hp : codedL false (s.takeWhile (· != 63)) with
  | none => rw [hp] at h; cases h
  | some p =>
    cases hq : codedL true ((s.dropWhile (· != 63)).drop 1) with
    | none => rw [hp, hq] at h; cases h
    | some q =>
      rw [hp, hq] at h
      simp only at h
      split at h
      · cases h
      · rename_i hc
        simp only [Option.some.injEq] at h
        obtain ⟨P, hP⟩ : ∃ P, (if p = [] then [47] else p) = P := ⟨_, rfl⟩
        have hP1 : P.head? = some 47 := by
          rw [← hP]
          split
          · rfl
          · rename_i h0
            rcases Classical.em (p.head? = some 47) with h1 | h1
            · exact h1
            · exact absurd ⟨h0, h1⟩ hc
        have hP2 : normQ false P := by
          rw [← hP]
          split
          · simp [normQ, codedL]; decide
          · exact coded_again false _ _ hp
        rw [hP] at h
        obtain ⟨l, h0, h1, h2, h3⟩ := seg_parts hP1
        have hN : normQ false (flat l) := by rw [← h1]; exact norm_seg hP1 hP2
        have h63 := coded_no63 _ _ hN
        refine ⟨l, q, if 63 ∈ s then 63 :: q else [], h0, by rw [← h1]; exact h.symm, h2, fun s hs c hc => ⟨h3 s hs c hc, h63 c (List.mem_flatMap.2 ⟨s, hs, by simp [hc]⟩)⟩, hN, coded_again true _ _ hq, ?_⟩
        split
        · exact .inr rfl
        · exact .inl rfl
/-- A coded octet in what is normal stands whole, and is its own. -/
def whole3 (r : List UInt8) : Prop := ∃ a b t, r = 37 :: a :: b :: t ∧ codedL true [37, a, b] = some [37, a, b]
theorem norm_pct (q : Bool) : ∀ l : List UInt8, normQ q l → ∀ i, l[i]? = some 37 → whole3 (l.drop i) := by
  refine coded_ind ?_ ?_ ?_ ?_ ?_
  · intro _ i h; simp at h
  · intro c r hc ih hn i h
    unfold normQ at hn
    rw [coded_cons q c r hc] at hn
    split at hn
    · obtain ⟨p, hp, he⟩ := Option.map_eq_some_iff.1 hn
      simp only [List.cons.injEq, true_and] at he
      subst he
      cases i with
      | zero => simp at h; exact absurd h hc
      | succ i => exact ih hp i (by simpa using h)
    · cases hn
  · intro a b r ih hn i h
    unfold normQ at hn
    rw [coded_hex] at hn
    split at hn
    · rename_i hk
      obtain ⟨p, hp, he⟩ := Option.map_eq_some_iff.1 hn
      obtain ⟨_, _, _, _, _, a6, _⟩ := hex_great a hk.1
      obtain ⟨_, _, _, _, _, b6, _⟩ := hex_great b hk.2
      have hE : enc5 a b = [37, greatC a, greatC b] := by
        unfold enc5 at he ⊢
        split
        · rename_i hf
          rw [if_pos hf] at he
          simp only [List.cons_append, List.cons.injEq] at he
          exact absurd he.1 (free_ok _ hf).1
        · rfl
      rw [hE] at he
      simp only [List.cons_append, List.nil_append, List.cons.injEq, true_and] at he
      obtain ⟨ea, eb, er⟩ := he
      have hn' : normQ q r := by unfold normQ; rw [hp, er]
      have hw : codedL true [37, a, b] = some [37, a, b] := by
        rw [coded_hex, if_pos hk, hE, ea, eb]; simp [codedL]
      match i, h with
      | 0, _ => exact ⟨a, b, r, rfl, hw⟩
      | 1, h => simp at h; rw [← ea] at h; exact absurd h a6
      | 2, h => simp at h; rw [← eb] at h; exact absurd h b6
      | i + 3, h => exact ih hn' i (by simpa using h)
    · cases hn
  · intro hn; unfold normQ at hn; rw [coded_end1] at hn; cases hn
  · intro a hn; unfold normQ at hn; rw [coded_end2] at hn; cases hn
theorem whole3_more {x y : List UInt8} (h : whole3 x) : whole3 (x ++ y) := by
  obtain ⟨a, b, t, rfl, h⟩ := h
  exact ⟨a, b, t ++ y, by simp, h⟩
theorem dots_none {s r : List UInt8} (h : placeL s = some r) : Good [] r false ∧ (∀ i, r[i]? = some 37 → whole3 (r.drop i)) ∧ r.head? = some 47 := by
  have hh := (place_normal h).head
  obtain ⟨l, q, t, h0, rfl, h1, h2, h3, h4, h5⟩ := place_parts h
  refine ⟨?_, ?_, hh⟩
  · have := good_flat l [] t h1 h2 (fun c hc => by cases hc) rfl (by rcases h5 with rfl | rfl <;> simp)
    simpa using this
  · intro i hi
    rcases Nat.lt_or_ge i (flat l).length with hl | hl
    · rw [List.getElem?_append_left hl] at hi
      rw [List.drop_append_of_le_length (by omega)]
      exact whole3_more (norm_pct false _ h3 i hi)
    · rw [List.getElem?_append_right hl] at hi
      rw [List.drop_append, List.drop_eq_nil_of_le hl, List.nil_append]
      rcases h5 with rfl | rfl
      · simp at hi
      · obtain ⟨j, hj⟩ : ∃ j, i - (flat l).length = j := ⟨_, rfl⟩
        rw [hj] at hi ⊢
        cases j with
        | zero => simp at hi
        | succ j => exact norm_pct true q h4 j (by simpa using hi)
theorem dots_of {s host : List UInt8} {u : Uri} (h : ofU s host = (u, 0)) : Good [] u.path false ∧ (∀ i, u.path[i]? = some 37 → whole3 (u.path.drop i)) ∧ u.path.head? = some 47 :=
  dots_none (ofU_normal h).1.path.self
end IH
