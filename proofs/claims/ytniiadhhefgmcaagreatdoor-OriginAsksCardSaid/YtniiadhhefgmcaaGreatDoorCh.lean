/- Ch: several texts, one behind the other. -/
import Derived.Test.YtniiadhhefgmcaaGreatDoorCy
import Derived.Test.YtniiadhhefgmcaaGreatDoorFq
import Derived.Test.YtniiadhhefgmcaaGreatDoorOz
/- Walks of layer 7: pieces put in chunks, by the code and by the document. Conditions: at most 10^6 pieces, of at most 10^7 octets together. -/
namespace Go.Proofs.YtniiadhhefgmcaaGreatDoor
open Go.RowKit IH
set_option maxRecDepth 100000
theorem total_get {L : List (List UInt8)} {k : Nat} {p : List UInt8} (h : L[k]? = some p) : p.length ≤ IH.total L := by
  induction L generalizing k with
  | nil => simp at h
  | cons a L ih =>
    have e : IH.total (a :: L) = a.length + IH.total L := by simp [IH.total]
    cases k with
    | zero => simp only [List.getElem?_cons_zero, Option.some.injEq] at h; subst h; omega
    | succ k => simp only [List.getElem?_cons_succ] at h; have := ih h; omega
theorem encP_len (p : List UInt8) (h : p.length ≤ 10000000) : (encP p).length ≤ p.length + 11 := by
  unfold encP
  split
  · simp
  · have := hexd_short 6 p.length (by omega) (by omega)
    simp only [List.length_append, List.length_cons, List.length_nil]
    omega
theorem enc_len : ∀ (L : List (List UInt8)), (∀ p ∈ L, p.length ≤ 10000000) → (L.flatMap encP).length ≤ IH.total L + 11 * L.length
  | [], _ => by simp
  | a :: L, h => by
    have h1 := encP_len a (h a (by simp))
    have h2 := enc_len L fun p hp => h p (by simp [hp])
    have e : IH.total (a :: L) = a.length + IH.total L := by simp [IH.total]
    rw [List.flatMap_cons, List.length_append, List.length_cons, e]
    omega
theorem total_take (L : List (List UInt8)) (k : Nat) : IH.total (L.take k) ≤ IH.total L := by
  induction L generalizing k with
  | nil => simp [IH.total]
  | cons a L ih =>
    cases k with
    | zero => simp [IH.total]
    | succ k =>
      have := ih k
      have e : IH.total (a :: L) = a.length + IH.total L := by simp [IH.total]
      have e2 : IH.total (a :: L.take k) = a.length + IH.total (L.take k) := by simp [IH.total]
      rw [List.take_succ_cons, e, e2]; omega
theorem enc_snoc {L : List (List UInt8)} {k : Nat} {p : List UInt8} (h : L[k]? = some p) : (L.take (k + 1)).flatMap encP = (L.take k).flatMap encP ++ encP p := by
  rw [List.take_add_one, h]; simp
theorem encP_nil : encP [] = [] := rfl
theorem encP_of {p : List UInt8} (h : 0 < p.length) : encP p = digs 16 64 p.length ++ 13 :: 10 :: (p ++ [13, 10]) := by
  unfold encP
  rw [if_neg (by intro e; subst e; simp at h)]
/-- A piece's cell. -/
theorem piece_at {w : World} {B n c : Nat} {A : Option Addr} {L : List (List UInt8)} {V : List Value} (hin : SliceIn w B 1 A n c V) (hR : PiecesR w B L V) {k : Nat} {p : List UInt8} (hk : L[k]? = some p) :
    ∃ (b off : Nat) (A' : Option Addr) (c' : Nat), A = some ⟨b, off, none⟩ ∧ b < B ∧ w.cell? ⟨b, off + k, none⟩ = some (.slice A' p.length c') ∧ SliceIn w B 1 A' p.length c' (bytesV p) := by
  obtain ⟨A', n', c', hV, hs⟩ := hR.2 k p hk
  have hkV := (List.getElem?_eq_some_iff.1 hV).1
  have hl : p.length = n' := by have := hs.1; rw [bytesV_length, Nat.mul_one] at this; exact this
  subst hl
  have h1 := hin.1
  obtain ⟨b, off, e, hb, hc⟩ := hin.2.2.2 (by omega)
  exact ⟨b, off, A', c', e, hb, hc k _ hV, hs⟩
set_option maxHeartbeats 8000000 in
theorem enc_any (A : Option Addr) (n c : Nat) (L : List (List UInt8)) (V : List Value) (w : World) (hin : SliceIn w w.heap.size 1 A n c V) (hR : PiecesR w w.heap.size L V) (hn : n ≤ 1000000) (ht : IH.total L ≤ 10000000) :
    Calls Tryz.prog 76 #[.slice A n c] w fun e w' => ∃ v, e = .returned v ∧ w'.ownsRow w.heap.size 5 1 v (encL L).length (bytesV (encL L)) ∧ Below w.heap.size w w' := by
  have hL : L.length = n := by have h1 := hin.1; have h2 := hR.1; omega
  have hnc := hin.2.1
  have bd : ∀ k, k ≤ n → ((L.take k).flatMap encP).length ≤ 21000000 := by
    intro k hk
    have h1 := enc_len (L.take k) fun p hp => by
      obtain ⟨i, hi⟩ := List.getElem?_of_mem (List.mem_of_mem_take hp)
      have := total_get hi; omega
    have h2 := total_take L k
    rw [List.length_take] at h1
    omega
  have Hin := Lib.hid hin
  have HR := Lib.hid hR
  have HL := Lib.hid hL
  have BD := Lib.hid bd
  have HT := Lib.hid ht
  clear hin hR hL bd ht
  go_enter Tryz.func76, Tryz.ntmps76
  go_wp2
  go_loopw [3, 8] (fun v i wr => ∃ k : Nat, i = .int .i64 k ∧ k ≤ n ∧ wr.ownsRow w.heap.size 5 1 v ((L.take k).flatMap encP).length (bytesV ((L.take k).flatMap encP)) ∧ Below w.heap.size w wr) (fun _ i _ => n - (intOf i).toNat)
  case atStart => exact ⟨0, rfl, by omega, by simpa [bytesV] using World.ownsRow_nil _ _ _ _, Below.refl _ _⟩
  case round =>
    obtain ⟨k, rfl, hk, hown, hbel⟩ := hrel
    have Hown := Lib.hid hown
    have Hbel := Lib.hid hbel
    have hlen := BD.out k hk
    clear hown hbel
    by_cases hlt : k < n
    · obtain ⟨p, hp⟩ : ∃ p, L[k]? = some p := ⟨_, List.getElem?_eq_getElem (by rw [HL.out]; exact hlt)⟩
      obtain ⟨b, off, A', c', rfl, hb, hcell, hs⟩ := piece_at (Hin.out.below Hbel.out) (HR.out.below Hbel.out) hp
      have hsn := enc_snoc hp
      have hpl := total_get hp
      have hpb : p.length ≤ 10000000 := by have := HT.out; omega
      have HS := Lib.hid hs
      by_cases h0 : p.length = 0
      · obtain rfl : p = [] := List.eq_nil_of_length_eq_zero h0
        rw [encP_nil, List.append_nil] at hsn
        have HN := Lib.hid hsn
        clear hsn hpl hp hs hb h0
        go_wp2
        go_roundw
        case rel => exact ⟨k + 1, by go_num, by omega, by rw [HN.out]; exact Hown.out, Hbel.out⟩
        case measure => simp [intOf]; omega
      · have h0I : (0 : Int) < (p.length : Int) := by omega
        rw [encP_of (by omega)] at hsn
        have PR := fun w => Print16_any (p.length : Int) (by omega) (by omega) w
        rw [Int.toNat_natCast] at PR
        have hdl := hexd_short 6 p.length (by omega) (by omega)
        obtain ⟨D, hD⟩ : ∃ D, digs 16 64 p.length = D := ⟨_, rfl⟩
        rw [hD] at PR hdl hsn
        obtain ⟨X, hX⟩ : ∃ X : ByteArray, (⟨D.toArray⟩ : ByteArray) = X := ⟨_, rfl⟩
        have hXd : X.data.toList = D := by rw [← hX]
        have hXs : X.size ≤ 7 := by rw [← data_len, hXd]; omega
        rw [hX] at PR
        have hYd : (X ++ (⟨#[13, 10]⟩ : ByteArray)).data.toList = D ++ [13, 10] := by rw [append_data, hXd]
        have hYs : (X ++ (⟨#[13, 10]⟩ : ByteArray)).size ≤ 9 := by rw [← data_len, hYd, List.length_append, ← hXd, data_len]; simp; omega
        have HYd := Lib.hid hYd
        have HN : Hid ((L.take (k + 1)).flatMap encP = (((L.take k).flatMap encP ++ (D ++ [13, 10])) ++ p) ++ [13, 10]) := Lib.hid (by rw [hsn]; simp)
        obtain ⟨O, hO⟩ : ∃ O, (L.take k).flatMap encP = O := ⟨_, rfl⟩
        rw [hO] at Hown hlen HN
        replace PR := Lib.hid PR
        have HPL := Lib.hid (show (p.length : Nat) = p.length from rfl)
        have hB0 := Hbel.out.size
        clear hsn hpl hp hs hb hD hX hXd hYd hO hdl h0
        obtain ⟨pn, hpn⟩ : ∃ pn, p.length = pn := ⟨_, rfl⟩
        rw [hpn] at HS hcell PR h0I hpb
        clear HPL
        have hO3l : (O ++ (D ++ [13, 10])).length ≤ 21000009 := by rw [List.length_append, ← HYd.out, data_len]; omega
        have HE4 := Lib.hid (show (O ++ (D ++ [13, 10])).length + pn = (O ++ (D ++ [13, 10]) ++ p).length by rw [← hpn]; exact List.length_append.symm)
        have hO4l : (O ++ (D ++ [13, 10]) ++ p).length ≤ 31000009 := by rw [List.length_append, hpn]; omega
        have HPN := Lib.hid hpn
        clear hpn
        go_wp2_with (first
          | (go_at_call 89; (with_reducible refine (PR.out _).mono ?_); rintro e w2 ⟨rfl, q, hq⟩; have O2 : Hid (w2.ownsRow w.heap.size 5 1 u3 O.length (bytesV O)) := Lib.hid (by rw [hq]; exact Hown.out); have B2 : Hid (Below w.heap.size w w2) := Lib.hid (by rw [hq]; exact below_drewN Hbel.out q); have s2 := B2.out.size; have X2 : Hid (SliceIn w2 w.heap.size 1 A' pn c' (bytesV p)) := Lib.hid (by rw [hq]; exact HS.out); clear hq; have tok1 : True := trivial)
          | (at_builtin; have _t := tok1; refine wpList_app_str rfl _ _ rfl w.heap.size _ _ O rfl O2.out _ rfl (by omega) s2 ?_; intro v3 w3 hown3 hgr3; rw [HYd.out] at hown3; have O3 := Lib.hid (own_count hown3 (show O.length + _ = (O ++ (D ++ [13, 10])).length by rw [List.length_append, ← HYd.out, data_len])); have B3 := Lib.hid (B2.out.grown hgr3 s2 (fun g hg => (O2.out.lt g hg).1)); have s3 := B3.out.size; have X3 := Lib.hid (X2.out.grown hgr3 s2 (fun g hg => (O2.out.lt g hg).1)); clear tok1 _t hown3 hgr3; have tok2 : True := trivial)
          | (at_builtin; have _t := tok2; (refine wpList_appS u8_ty rfl _ _ rfl w.heap.size _ _ _ rfl O3.out w.heap.size _ _ _ _ rfl X3.out (bytesV_one _) (by omega) (by simp only [maxLen]; omega) s3 ?_; intro v4 w4 hown4 hgr4; rw [← bytesV_append] at hown4; have O4 := Lib.hid (own_count hown4 HE4.out); have B4 := Lib.hid (B3.out.grown hgr4 s3 (fun g hg => (O3.out.lt g hg).1)); have s4 := B4.out.size; clear tok2 _t hown4 hgr4; have tok3 : True := trivial))
          | (at_builtin; have _t := tok3; (refine wpList_app_str rfl _ _ rfl w.heap.size _ _ (O ++ (D ++ [13, 10]) ++ p) rfl O4.out _ rfl (by show (O ++ (D ++ [13, 10]) ++ p).length + 2 ≤ 140737488355328; omega) s4 ?_; intro v5 w5 hown5 hgr5; have O5 := Lib.hid hown5; have B5 := Lib.hid (B4.out.grown hgr5 s4 (fun g hg => (O4.out.lt g hg).1)); clear tok3 _t hown5 hgr5)))
        go_roundw
        case rel =>
          refine ⟨k + 1, by go_num, by omega, ?_, B5.out⟩
          rw [HN.out, List.length_append]
          exact O5.out
        case measure => simp [intOf]; omega
    · obtain rfl : k = n := by omega
      rw [List.take_of_length_le (by rw [HL.out]; exact Nat.le_refl _)] at Hown hlen
      have hB0 := Hbel.out.size
      clear hlt
      go_wp2_with (at_builtin; (refine wpList_app_str rfl _ _ rfl w.heap.size _ _ (L.flatMap encP) rfl Hown.out _ rfl (by show (L.flatMap encP).length + 5 ≤ 140737488355328; omega) hB0 ?_; intro v5 w5 hown5 hgr5))
      go_ret
      refine ⟨_, rfl, ?_, Hbel.out.grown hgr5 hB0 (fun g hg => (Hown.out.lt g hg).1)⟩
      unfold encL
      rw [List.length_append]
      exact hown5
end Go.Proofs.YtniiadhhefgmcaaGreatDoor

/- Walk of layer 7's document: pieces put in chunks. Conditions: at most 10^6 pieces, of at most 10^7 octets together. -/
namespace Go.Proofs.YtniiadhhefgmcaaGreatDoor
open Go.RowKit IH
set_option maxRecDepth 100000
end Go.Proofs.YtniiadhhefgmcaaGreatDoor

