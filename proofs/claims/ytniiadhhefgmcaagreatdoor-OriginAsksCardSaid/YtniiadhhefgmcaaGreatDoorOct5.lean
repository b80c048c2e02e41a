/- Walks of layer 1: lists cut at commas. No condition but that lengths are within bounds. -/
import Derived.Test.YtniiadhhefgmcaaGreatDoorKt
import Derived.Test.YtniiadhhefgmcaaGreatDoorPm
import Derived.Test.YtniiadhhefgmcaaGreatDoorOv
namespace Go.Proofs.YtniiadhhefgmcaaGreatDoor
open Go.RowKit IH
set_option maxRecDepth 100000

theorem byte_lit (c : UInt8) (n : Nat) (h : n < 256) : (((c.toNat : Int) == (n : Int)) = true) ↔ c = UInt8.ofNat n := by
  rw [beq_iff_eq, ← UInt8.toNat_inj]
  simp only [UInt8.toNat_ofNat']
  omega

/-- Where the code's search for a comma stands: at k, what is left says the rest; or one behind the end. -/
def commaAt (l : List UInt8) (k : Nat) (ins : Bool) : Prop :=
  (k ≤ l.length ∧ comma false false l = k + comma ins false (l.drop k)) ∨ (k = l.length + 1 ∧ comma false false l = l.length)

set_option maxHeartbeats 2000000 in
theorem comma_any (s : ByteArray) (hs : s.size ≤ 1000000000) (w : World) :
    Calls Tryz.prog 122 #[.string s] w fun e w' => e = .returned (.int .i64 (comma false false s.data.toList)) ∧ w = w' := by
  go_enter Tryz.func122, Tryz.ntmps122
  go_wp2
  go_loop [3, 4] (fun b i => ∃ (k : Nat) (ins : Bool), k ≤ s.size + 1 ∧ b = .bool ins ∧ i = .int .i64 k ∧ commaAt s.data.toList k ins) (fun _ i => s.size + 1 - (intOf i).toNat)
  case atStart => exact ⟨0, false, by omega, rfl, rfl, .inl ⟨by omega, by simp⟩⟩
  case round =>
    obtain ⟨k, ins, hk, rfl, rfl, hix⟩ := hrel
    by_cases hlt : k < s.size
    · have hix' : comma false false s.data.toList = k + comma ins false (s[k] :: s.data.toList.drop (k + 1)) := by
        rcases hix with ⟨_, h⟩ | ⟨h, _⟩
        · rw [h, data_drop s k hlt]
        · rw [data_len] at h; omega
      clear hix
      obtain ⟨c, hc⟩ : ∃ c, s[k] = c := ⟨_, rfl⟩
      rw [hc, comma_cons] at hix'
      by_cases h34 : c = 34
      · subst h34
        have h1 : commaAt s.data.toList (k + 1) (!ins) := .inl ⟨by rw [data_len]; omega, by simp at hix'; omega⟩
        have H1 := Lib.hid h1; clear h1 hix'
        cases ins
        all_goals
          go_wp2
          go_round
          case rel => exact ⟨k + 1, _, by omega, rfl, by go_num, H1.out⟩
          case measure => simp [intOf]; omega
      · have b34 : ((c.toNat : Int) == 34) = false := by rw [Bool.eq_false_iff]; exact fun h => h34 ((byte_lit c 34 (by omega)).1 h)
        by_cases h92 : c = 92
        · subst h92
          cases ins
          · have h1 : commaAt s.data.toList (k + 1) false := .inl ⟨by rw [data_len]; omega, by simp at hix'; omega⟩
            have H1 := Lib.hid h1; clear h1 hix' h34
            go_wp2
            go_round
            case rel => exact ⟨k + 1, _, by omega, rfl, by go_num, H1.out⟩
            case measure => simp [intOf]; omega
          · have h1 : commaAt s.data.toList (k + 2) true := by
              simp at hix'
              by_cases hk1 : k + 1 < s.size
              · rw [data_drop s (k + 1) hk1, comma_cons] at hix'
                simp [Nat.add_assoc] at hix'
                exact .inl ⟨by rw [data_len]; omega, by omega⟩
              · rw [List.drop_eq_nil_of_le (by rw [data_len]; omega)] at hix'
                simp [comma] at hix'
                exact .inr ⟨by rw [data_len]; omega, by rw [data_len]; omega⟩
            have H1 := Lib.hid h1; clear h1 hix' h34
            go_wp2
            go_round
            case rel => exact ⟨k + 2, _, by omega, rfl, by go_num, H1.out⟩
            case measure => simp [intOf]; omega
        · have b92 : ((c.toNat : Int) == 92) = false := by rw [Bool.eq_false_iff]; exact fun h => h92 ((byte_lit c 92 (by omega)).1 h)
          by_cases h44 : c = 44
          · subst h44
            cases ins
            · have h1 : comma false false s.data.toList = k := by rw [hix']; simp
              have H1 := Lib.hid h1; clear h1
              clear hix' h34 h92
              go_wp2
              go_ret
              exact ⟨ret_int (by rw [H1.out]), rfl⟩
            · have h1 : commaAt s.data.toList (k + 1) true := .inl ⟨by rw [data_len]; omega, by simp at hix'; omega⟩
              have H1 := Lib.hid h1; clear h1 hix' h34 h92
              go_wp2
              go_round
              case rel => exact ⟨k + 1, _, by omega, rfl, by go_num, H1.out⟩
              case measure => simp [intOf]; omega
          · have b44 : ((c.toNat : Int) == 44) = false := by rw [Bool.eq_false_iff]; exact fun h => h44 ((byte_lit c 44 (by omega)).1 h)
            have h1 : commaAt s.data.toList (k + 1) ins := .inl ⟨by rw [data_len]; omega, by simp [h34, h92, h44] at hix'; omega⟩
            have H1 := Lib.hid h1; clear h1 hix' h34 h92 h44
            go_wp2
            go_round
            case rel => exact ⟨k + 1, _, by omega, rfl, by go_num, H1.out⟩
            case measure => simp [intOf]; omega
    · have h1 : comma false false s.data.toList = s.size := by
        rcases hix with ⟨h0, h⟩ | ⟨_, h⟩
        · rw [List.drop_eq_nil_of_le (by rw [data_len]; omega)] at h
          rw [data_len] at h0
          rw [h]; simp [comma]; omega
        · rw [h, data_len]
      have H1 := Lib.hid h1; clear h1
      clear hix
      go_wp2
      go_ret
      exact ⟨ret_int (by rw [H1.out]), rfl⟩

def strsV (L : List (List UInt8)) : List Value := L.map fun l => .string ⟨l.toArray⟩
theorem strsV_length (L : List (List UInt8)) : (strsV L).length = L.length := by simp [strsV]
theorem strsV_append (a b : List (List UInt8)) : strsV (a ++ b) = strsV a ++ strsV b := by simp [strsV]
theorem strsV_get (L : List (List UInt8)) (j : Nat) : (strsV L)[j]? = L[j]?.map fun l => .string ⟨l.toArray⟩ := by simp [strsV]
theorem strsV_one (L : List (List UInt8)) : ∀ u ∈ strsV L, u.oneCell' = true := by
  intro u hu
  obtain ⟨c, _, rfl⟩ := List.mem_map.1 hu
  rfl
def total (L : List (List UInt8)) : Nat := (L.map List.length).sum
theorem total_take_le (L : List (List UInt8)) (k : Nat) : total (L.take k) ≤ total L := by
  have : total L = total (L.take k) + total (L.drop k) := by
    unfold total
    rw [← List.sum_append, ← List.map_append, List.take_append_drop]
  omega
set_option maxHeartbeats 4000000 in
theorem Split_any (A : Option Addr) (n c : Nat) (L : List (List UInt8)) (w : World) (hin : SliceIn w w.heap.size 1 A n c (strsV L)) (hs : total L ≤ 1000000000) :
    Calls Tryz.prog 94 #[.slice A n c] w fun e w' => ∃ v, e = .returned v ∧ w'.ownsRow w.heap.size 9 1 v (splitL L).length (strsV (splitL L)) ∧ Below w.heap.size w w' := by
  have hn : n ≤ 9223372036854775807 := by have := hin.2.1; have := hin.2.2.1; simp only [maxLen] at this; omega
  have hL : L.length = n := by have := hin.1; rw [strsV_length] at this; omega
  go_enter Tryz.func94, Tryz.ntmps94
  go_wp2
  go_loopw [3, 10] (fun v i wr => ∃ k : Nat, k ≤ n ∧ i = .int .i64 k ∧ wr.ownsRow w.heap.size 9 1 v (splitL (L.take k)).length (strsV (splitL (L.take k))) ∧ Below w.heap.size w wr) (fun _ i _ => n - (intOf i).toNat)
  case atStart => exact ⟨0, by omega, rfl, World.ownsRow_nil _ _ _ _, Below.refl _ _⟩
  case round =>
    obtain ⟨k, hk, rfl, hrow, hbel⟩ := hrel
    have Hrow := Lib.hid hrow; clear hrow
    by_cases hlt : k < n
    · obtain ⟨l, hl⟩ : ∃ l, L[k]? = some l := ⟨_, List.getElem?_eq_getElem (by omega)⟩
      obtain ⟨b, off, rfl, hb, hc⟩ := hin.2.2.2 (by omega)
      have hcell : wr.cell? ⟨b, off + k, none⟩ = some (.string ⟨l.toArray⟩) := by
        rw [hbel.cell hb]
        exact hc k _ (by rw [strsV_get, hl]; rfl)
      have Hl := Lib.hid hl; clear hl hc
      obtain ⟨wo, rfl⟩ : ∃ wo : World, wo = wr := ⟨_, rfl⟩
      have hlen : (splitL (L.take k)).length + l.length ≤ total (L.take (k + 1)) ∧ total (L.take (k + 1)) ≤ 1000000000 := by
        have h1 := splitL_length (L.take k)
        have h2 := total_take_le L (k + 1)
        have h3 : total (L.take (k + 1)) = total (L.take k) + l.length := by
          unfold total
          rw [List.take_add_one, Hl.out]
          simp
        have h4 : total (L.take k) = ((L.take k).map List.length).sum := rfl
        omega
      have hsplit : splitL (L.take (k + 1)) = splitL (L.take k) ++ split1 l := by
        unfold splitL
        rw [List.take_add_one, Hl.out]
        simp
      have Hsplit := Lib.hid hsplit; clear hsplit
      go_wp2
      clear hcell
      go_loopw [3, 5] (fun v x wr => ∃ (R : List (List UInt8)) (t : ByteArray), x = .string t ∧ R.length + t.size ≤ total (L.take (k + 1)) ∧ splitL (L.take (k + 1)) = R ++ split1 t.data.toList ∧ wr.ownsRow w.heap.size 9 1 v R.length (strsV R) ∧ Below w.heap.size w wr) (fun _ x _ => strSize x)
      case atStart => exact ⟨_, _, rfl, by rw [size_mk]; exact hlen.1, by simpa using Hsplit.out, Hrow.out, hbel⟩
      case round =>
        clear Hrow hbel Hl Hsplit
        obtain ⟨R, t, rfl, hsz, hsp, hrow, hbel⟩ := hrel
        have Hrow := Lib.hid hrow; clear hrow
        have Hsp := Lib.hid hsp; clear hsp
        by_cases ht : t.toList = []
        · have e : splitL (L.take (k + 1)) = R := by
            rw [ByteArray.toList_eq] at ht
            rw [Hsp.out, ht, split1_nil, List.append_nil]
          have E := Lib.hid e; clear e
          go_wp2
          go_roundw
          case rel => exact ⟨k + 1, by omega, by go_num, by rw [E.out]; exact Hrow.out, hbel⟩
          case measure => simp [intOf]; omega
        · have ht' : t.toList.isEmpty = false := by simpa using ht
          have hne : t.data.toList ≠ [] := by rw [← ByteArray.toList_eq]; exact ht
          clear ht
          have hst := split1_step t.data.toList hne
          have hcl := comma_le false false t.data.toList
          rw [data_len] at hcl
          have C := Lib.hid (comma_any t (by omega)); 
          have h0 : 0 < t.size := by rw [← data_len]; exact List.length_pos_iff.2 hne
          obtain ⟨N, hN⟩ : ∃ N, comma false false t.data.toList = N := ⟨_, rfl⟩
          rw [hN] at C hst hcl
          clear hN hne
          have Hst := Lib.hid hst; clear hst
          go_wp2_with (first
            | (go_at_call 122; refine (C.out _).mono ?_; rintro e w' ⟨rfl, rfl⟩)
            | (go_at_call 123; refine (Trim_any _ (by simp; omega) _).mono ?_))
          rw [take_data t N hcl]
          rintro e w2 ⟨rfl, hb2⟩
          obtain ⟨X, hX⟩ : ∃ X, X = (⟨(trim (t.data.toList.take N)).toArray⟩ : ByteArray) := ⟨_, rfl⟩
          rw [← hX]
          have hXl : X.data.toList = trim (t.data.toList.take N) := by rw [hX]
          have hrow2 := own_below Hrow.out hb2
          have hbel2 : Below w.heap.size w w2 := hbel.trans (hb2.mono hbel.size)
          clear hX C hbel hb2 Hrow
          have Hrow := Lib.hid hrow2; clear hrow2
          have hd : t.size - (N + 1) ≤ t.size - (min (N + 1) t.size) := by omega
          have hdrop : (t.extract (min ((N : Int) + 1) (t.size : Int)).toNat t.size).data.toList = t.data.toList.drop (N + 1) := by
            rw [drop_data, show (min ((N : Int) + 1) (t.size : Int)).toNat = min (N + 1) t.size by omega]
            rcases Nat.lt_or_ge (N + 1) t.size with h | h
            · rw [Nat.min_eq_left (by omega)]
            · rw [Nat.min_eq_right h, List.drop_eq_nil_of_le (by rw [data_len]; omega), List.drop_eq_nil_of_le (by rw [data_len]; omega)]
          have Hd := Lib.hid hdrop; clear hdrop
          by_cases hx : X.toList = []
          · have e : emit (t.data.toList.take N) = [] := by
              rw [ByteArray.toList_eq, hXl] at hx
              simp [emit, hx]
            have hs2 := Hst.out
            rw [e, List.nil_append] at hs2
            have Hs2 := Lib.hid hs2
            clear e hXl hs2 Hst
            go_wp2
            go_roundw
            case rel => exact ⟨R, _, rfl, by simp; omega, by rw [Hd.out, ← Hs2.out]; exact Hsp.out, Hrow.out, hbel2⟩
            case measure => simp [strSize]; omega
          · have hx' : X.toList.isEmpty = false := by simpa using hx
            have e : emit (t.data.toList.take N) = [X.data.toList] := by
              rw [ByteArray.toList_eq, hXl] at hx
              rw [hXl]
              simp [emit, hx]
            have hs2 := Hst.out
            rw [e] at hs2
            have Hs2 := Lib.hid hs2
            have hpos : 0 < N := by
              have h1 := trim_length (t.data.toList.take N)
              rw [← hXl, data_len, List.length_take] at h1
              have h2 : X.size ≠ 0 := by
                rw [← data_len]
                rw [ByteArray.toList_eq] at hx
                exact fun h => hx (List.eq_nil_of_length_eq_zero h)
              omega
            clear e hXl hs2 Hst hx
            go_wp2_with (at_builtin; refine wpList_app str_ty rfl _ _ rfl w.heap.size _ R.length _ rfl Hrow.out 1 1 _ rfl (by rfl) (one1 _ rfl) (by omega) (by simp only [maxLen]; omega) hbel2.size ?_; intro v' w3 hown' hgr)
            go_roundw
            case rel =>
              refine ⟨R ++ [X.data.toList], _, rfl, by simp; omega, ?_, ?_, hbel2.grown hgr hbel2.size (fun g hg => (Hrow.out.lt g hg).1)⟩
              · rw [Hd.out, Hsp.out, Hs2.out, List.append_assoc]
              · rw [strsV_append, List.length_append]
                have e : strsV [X.data.toList] = [Value.string X] := by simp only [strsV, List.map_cons, List.map_nil, Lib.mk_data]
                rw [e]
                exact hown'
            case measure => simp [strSize]; omega
    · obtain rfl : k = n := by omega
      have e : L.take k = L := List.take_of_length_le (by omega)
      rw [e] at Hrow
      clear e
      go_wp2
      go_ret
      exact ⟨_, rfl, Hrow.out, hbel⟩
end Go.Proofs.YtniiadhhefgmcaaGreatDoor

