/- Walks of layer 1: the document's answer for lists. No condition but that lengths are within bounds. -/
import Derived.Test.YtniiadhhefgmcaaGreatDoorOct5
namespace Go.Proofs.YtniiadhhefgmcaaGreatDoor
open Go.RowKit IH
set_option maxRecDepth 100000

/-- Where the document's walk over one text stands. -/
def walkAt (T : List (List UInt8)) (l : List UInt8) (R : List (List UInt8)) (f i : Nat) (ins skip : Bool) : Prop :=
  (i ≤ l.length ∧ f ≤ i ∧ T = R ++ walk ((l.take i).drop f) ins skip (l.drop i)) ∨ (i = l.length + 1 ∧ T = R)

theorem walkAt_len {T R : List (List UInt8)} {l : List UInt8} {f i : Nat} {ins skip : Bool} (h : walkAt T l R f i ins skip) : R.length ≤ T.length := by
  rcases h with ⟨_, _, h⟩ | ⟨_, h⟩
  · rw [h]; simp
  · rw [h]; exact Nat.le_refl _
theorem cur_snoc (l : List UInt8) (f i : Nat) (c : UInt8) (h : l[i]? = some c) (hf : f ≤ i) : (l.take (i + 1)).drop f = (l.take i).drop f ++ [c] := by
  obtain ⟨hi, rfl⟩ := List.getElem?_eq_some_iff.1 h
  rw [List.take_add_one, h, List.drop_append_of_le_length (by simp; omega)]
  rfl
theorem walkAt_end {T R : List (List UInt8)} {l : List UInt8} {f i : Nat} {ins skip : Bool} (h : walkAt T l R f i ins skip) (hi : i = l.length) :
    T = R ++ emit ((l.take i).drop f) := by
  rcases h with ⟨_, _, h⟩ | ⟨h, _⟩
  · have e : l.drop i = [] := List.drop_eq_nil_of_le (by omega)
    rw [h, e]; rfl
  · omega
theorem walkAt_comma {T R : List (List UInt8)} {l : List UInt8} {f i : Nat} {skip : Bool} (h : walkAt T l R f i false skip) (hc : l[i]? = some 44) :
    walkAt T l (R ++ emit ((l.take i).drop f)) (i + 1) (i + 1) false skip := by
  obtain ⟨hi, hh⟩ := List.getElem?_eq_some_iff.1 hc
  rcases h with ⟨_, _, h⟩ | ⟨h, _⟩
  · refine .inl ⟨by omega, Nat.le_refl _, ?_⟩
    have e : (l.take (i + 1)).drop (i + 1) = [] := List.drop_eq_nil_of_le (by rw [List.length_take]; omega)
    rw [h, List.drop_eq_getElem_cons hi, hh, walk_cons, if_pos ⟨rfl, rfl⟩, e, List.append_assoc]
  · omega
theorem walkAt_skip {T R : List (List UInt8)} {l : List UInt8} {f i : Nat} {ins : Bool} {c : UInt8} (h : walkAt T l R f i ins true) (hc : l[i]? = some c) (hn : ¬ (c = 44 ∧ ins = false)) :
    walkAt T l R f (i + 1) ins false := by
  obtain ⟨hi, hh⟩ := List.getElem?_eq_some_iff.1 hc
  rcases h with ⟨_, hf, h⟩ | ⟨h, _⟩
  · refine .inl ⟨by omega, by omega, ?_⟩
    rw [h, List.drop_eq_getElem_cons hi, hh, walk_cons, if_neg hn, if_pos rfl, cur_snoc l f i c hc hf]
  · omega
theorem walkAt_next {T R : List (List UInt8)} {l : List UInt8} {f i : Nat} {ins : Bool} {c : UInt8} (h : walkAt T l R f i ins false) (hc : l[i]? = some c) (hn : ¬ (c = 44 ∧ ins = false)) :
    walkAt T l R f (i + 1) (if c = 34 then !ins else ins) (decide (c = 92) && (if c = 34 then !ins else ins)) := by
  obtain ⟨hi, hh⟩ := List.getElem?_eq_some_iff.1 hc
  rcases h with ⟨_, hf, h⟩ | ⟨h, _⟩
  · refine .inl ⟨by omega, by omega, ?_⟩
    rw [h, List.drop_eq_getElem_cons hi, hh, walk_cons, if_neg hn, if_neg (by simp), cur_snoc l f i c hc hf]
  · omega

set_option maxHeartbeats 8000000 in
theorem refSplit_any (A : Option Addr) (n c : Nat) (L : List (List UInt8)) (w : World) (hin : SliceIn w w.heap.size 1 A n c (strsV L)) (hs : total L ≤ 1000000000) :
    Calls Tryz.prog 80 #[.slice A n c] w fun e w' => ∃ v, e = .returned v ∧ w'.ownsRow w.heap.size 9 1 v (splitL L).length (strsV (splitL L)) ∧ Below w.heap.size w w' := by
  have hn : n ≤ 9223372036854775807 := by have := hin.2.1; have := hin.2.2.1; simp only [maxLen] at this; omega
  have hL : L.length = n := by have := hin.1; rw [strsV_length] at this; omega
  go_enter Tryz.func80, Tryz.ntmps80
  go_wp2
  go_loopw [3, 4] (fun v i wr => ∃ k : Nat, k ≤ n ∧ i = .int .i64 k ∧ wr.ownsRow w.heap.size 9 1 v (splitL (L.take k)).length (strsV (splitL (L.take k))) ∧ Below w.heap.size w wr) (fun _ i _ => n - (intOf i).toNat)
  case atStart => exact ⟨0, by omega, rfl, World.ownsRow_nil _ _ _ _, Below.refl _ _⟩
  case round =>
    obtain ⟨k, hk, rfl, hrow, hbel⟩ := hrel
    have Hrow := Lib.hid hrow; clear hrow
    by_cases hlt : k < n
    · obtain ⟨l, hl⟩ : ∃ l, L[k]? = some l := ⟨_, List.getElem?_eq_getElem (by omega)⟩
      obtain ⟨b, off, rfl, hb, hc⟩ := hin.2.2.2 (by omega)
      have hcell : wr.cell? ⟨b, off + k, none⟩ = some (.string ⟨l.toArray⟩) := by
        rw [hbel.cell hb]
        exact hc k _ (by rw [strsV_get, hl]; rfl)
      have Hl := Lib.hid hl; clear hl hc
      obtain ⟨wo, rfl⟩ : ∃ wo : World, wo = wr := ⟨_, rfl⟩
      have hlen : (splitL (L.take (k + 1))).length ≤ 1000000000 ∧ l.length ≤ 1000000000 := by
        have h1 := splitL_length (L.take (k + 1))
        have h2 := total_take_le L (k + 1)
        have h3 : total (L.take (k + 1)) = total (L.take k) + l.length := by
          unfold total
          rw [List.take_add_one, Hl.out]
          simp
        have h4 : total (L.take (k + 1)) = ((L.take (k + 1)).map List.length).sum := rfl
        omega
      have hsplit : splitL (L.take (k + 1)) = splitL (L.take k) ++ walk [] false false l := by
        rw [walk_split]
        unfold splitL
        rw [List.take_add_one, Hl.out]
        simp
      have hw : walkAt (splitL (L.take (k + 1))) l (splitL (L.take k)) 0 0 false false := .inl ⟨by omega, by omega, by simpa using hsplit⟩
      have Hw := Lib.hid hw; clear hsplit hw
      obtain ⟨s, hsl⟩ : ∃ s : ByteArray, s = ⟨l.toArray⟩ := ⟨_, rfl⟩
      have hls : s.data.toList = l := by rw [hsl]
      rw [← hsl] at hcell
      subst hls
      clear hsl
      rw [data_len] at hlen
      go_wp2
      clear hcell
      go_loopw [3, 6, 7, 8, 9] (fun v f a b i wr => ∃ (R : List (List UInt8)) (fr ix : Nat) (ins skip : Bool), f = .int .i64 fr ∧ a = .bool ins ∧ b = .bool skip ∧ i = .int .i64 ix ∧ ix ≤ s.size + 1 ∧ fr ≤ ix ∧ (skip = true → ins = true) ∧
        walkAt (splitL (L.take (k + 1))) s.data.toList R fr ix ins skip ∧ wr.ownsRow w.heap.size 9 1 v R.length (strsV R) ∧ Below w.heap.size w wr) (fun _ _ _ _ i _ => s.size + 1 - (intOf i).toNat)
      case atStart => exact ⟨_, 0, 0, false, false, rfl, rfl, rfl, rfl, by omega, by omega, by simp, Hw.out, Hrow.out, hbel⟩
      case round =>
        clear Hrow hbel Hl Hw
        obtain ⟨R, fr, ix, ins, skip, rfl, rfl, rfl, rfl, hix, hfr, hsk, hat, hrow, hbel⟩ := hrel
        have Hrow := Lib.hid hrow; clear hrow
        have hR := Nat.le_trans (walkAt_len hat) hlen.1
        have Hat := Lib.hid hat; clear hat
        have Hsk := Lib.hid hsk; clear hsk
        by_cases hle : ix ≤ s.size
        · by_cases hend : ix = s.size
          · have hnx : walkAt (splitL (L.take (k + 1))) s.data.toList (R ++ emit ((s.data.toList.take ix).drop fr)) (ix + 1) (ix + 1) ins skip :=
              .inr ⟨by rw [data_len]; omega, walkAt_end Hat.out (by rw [data_len]; exact hend)⟩
            have Hnx := Lib.hid hnx; clear hnx Hat
            have hbe : ((ix : Int) == (s.size : Int)) = true := by rw [beq_iff_eq]; omega
            have Hend := Lib.hid hend; clear hend
            have hle2 : s.size ≤ ix := by have := Hend.out; omega
            have hlen2 : fr ≤ s.size := by omega
            have T := Lib.hid (refTrim_2 (s.extract fr ix) (by simp; omega))
            have hcur : (s.extract fr ix).data.toList = (s.data.toList.take ix).drop fr := by
              rw [Lib.extract_data, List.drop_take]
            rw [hcur] at T
            obtain ⟨X, hX⟩ : ∃ X, X = (⟨(trim ((s.data.toList.take ix).drop fr)).toArray⟩ : ByteArray) := ⟨_, rfl⟩
            rw [← hX] at T
            have hXl : X.data.toList = trim ((s.data.toList.take ix).drop fr) := by rw [hX]
            clear hX hcur
            by_cases hx : X.toList = []
            · have e : emit ((s.data.toList.take ix).drop fr) = [] := by
                rw [ByteArray.toList_eq, hXl] at hx
                simp [emit, hx]
              have hn2 := Hnx.out
              rw [e, List.append_nil] at hn2
              have Hn2 := Lib.hid hn2
              clear e hXl hn2
              go_wp2_with (go_at_call 102; refine (T.out _).mono ?_; rintro e w2 ⟨rfl, rfl⟩)
              go_roundw
              case rel => exact ⟨R, ix + 1, ix + 1, _, _, by go_num, rfl, rfl, by go_num, by omega, by omega, Hsk.out, Hn2.out, Hrow.out, hbel⟩
              case measure => simp [intOf]; omega
            · have hx' : X.toList.isEmpty = false := by simpa using hx
              have e : emit ((s.data.toList.take ix).drop fr) = [X.data.toList] := by
                rw [ByteArray.toList_eq, hXl] at hx
                rw [hXl]
                simp [emit, hx]
              have hn2 := Hnx.out
              rw [e] at hn2
              have Hn2 := Lib.hid hn2
              clear e hXl hn2 hx
              go_wp2_with (first
                | (go_at_call 102; refine (T.out _).mono ?_; rintro e w2 ⟨rfl, rfl⟩)
                | (at_builtin; refine wpList_app str_ty rfl _ _ rfl w.heap.size _ R.length _ rfl Hrow.out 1 1 _ rfl (by rfl) (one1 _ rfl) (by omega) (by simp only [maxLen]; omega) hbel.size ?_; intro v' w3 hown' hgr))
              go_roundw
              case rel =>
                refine ⟨R ++ [X.data.toList], ix + 1, ix + 1, _, _, by go_num, rfl, rfl, by go_num, by omega, by omega, Hsk.out, Hn2.out, ?_, hbel.grown hgr hbel.size (fun g hg => (Hrow.out.lt g hg).1)⟩
                rw [strsV_append, List.length_append]
                have e : strsV [X.data.toList] = [Value.string X] := by simp only [strsV, List.map_cons, List.map_nil, Lib.mk_data]
                rw [e]
                exact hown'
              case measure => simp [intOf]; omega
          · have hlt2 : ix < s.size := by omega
            have hbe : ((ix : Int) == (s.size : Int)) = false := by rw [beq_eq_false_iff_ne]; omega
            obtain ⟨c, hc⟩ : ∃ c, s[ix] = c := ⟨_, rfl⟩
            have hget : s.data.toList[ix]? = some c := by rw [← hc]; exact get_data s ix hlt2
            have Hget := Lib.hid hget; clear hget hend
            by_cases h44 : c = 44 ∧ ins = false
            · obtain ⟨h44, rfl⟩ := h44
              have hsk0 : skip = false := by
                cases skip
                · rfl
                · have := Hsk.out rfl; cases this
              subst hsk0
              have hnx : walkAt (splitL (L.take (k + 1))) s.data.toList (R ++ emit ((s.data.toList.take ix).drop fr)) (ix + 1) (ix + 1) false false :=
                walkAt_comma Hat.out (by rw [Hget.out, h44])
              have Hnx := Lib.hid hnx; clear hnx Hat
              have b44 : ((c.toNat : Int) == 44) = true := (byte_lit c 44 (by omega)).2 h44
              clear h44
              have hlen2 : fr ≤ s.size := by omega
              have T := Lib.hid (refTrim_2 (s.extract fr ix) (by simp; omega))
              have hcur : (s.extract fr ix).data.toList = (s.data.toList.take ix).drop fr := by
                rw [Lib.extract_data, List.drop_take]
              rw [hcur] at T
              obtain ⟨X, hX⟩ : ∃ X, X = (⟨(trim ((s.data.toList.take ix).drop fr)).toArray⟩ : ByteArray) := ⟨_, rfl⟩
              rw [← hX] at T
              have hXl : X.data.toList = trim ((s.data.toList.take ix).drop fr) := by rw [hX]
              clear hX hcur
              by_cases hx : X.toList = []
              · have e : emit ((s.data.toList.take ix).drop fr) = [] := by
                  rw [ByteArray.toList_eq, hXl] at hx
                  simp [emit, hx]
                have hn2 := Hnx.out
                rw [e, List.append_nil] at hn2
                have Hn2 := Lib.hid hn2
                clear e hXl hn2
                go_wp2_with (go_at_call 102; refine (T.out _).mono ?_; rintro e w2 ⟨rfl, rfl⟩)
                go_roundw
                case rel => exact ⟨R, ix + 1, ix + 1, _, _, by go_num, rfl, rfl, by go_num, by omega, by omega, Hsk.out, Hn2.out, Hrow.out, hbel⟩
                case measure => simp [intOf]; omega
              · have hx' : X.toList.isEmpty = false := by simpa using hx
                have e : emit ((s.data.toList.take ix).drop fr) = [X.data.toList] := by
                  rw [ByteArray.toList_eq, hXl] at hx
                  rw [hXl]
                  simp [emit, hx]
                have hn2 := Hnx.out
                rw [e] at hn2
                have Hn2 := Lib.hid hn2
                clear e hXl hn2 hx
                go_wp2_with (first
                  | (go_at_call 102; refine (T.out _).mono ?_; rintro e w2 ⟨rfl, rfl⟩)
                  | (at_builtin; refine wpList_app str_ty rfl _ _ rfl w.heap.size _ R.length _ rfl Hrow.out 1 1 _ rfl (by rfl) (one1 _ rfl) (by omega) (by simp only [maxLen]; omega) hbel.size ?_; intro v' w3 hown' hgr))
                go_roundw
                case rel =>
                  refine ⟨R ++ [X.data.toList], ix + 1, ix + 1, _, _, by go_num, rfl, rfl, by go_num, by omega, by omega, Hsk.out, Hn2.out, ?_, hbel.grown hgr hbel.size (fun g hg => (Hrow.out.lt g hg).1)⟩
                  rw [strsV_append, List.length_append]
                  have e : strsV [X.data.toList] = [Value.string X] := by simp only [strsV, List.map_cons, List.map_nil, Lib.mk_data]
                  rw [e]
                  exact hown'
                case measure => simp [intOf]; omega
            · have g44 : ((c.toNat : Int) == 44) = false ∨ ins = true := by
                cases ins
                · left
                  rw [Bool.eq_false_iff]
                  exact fun h => h44 ⟨(byte_lit c 44 (by omega)).1 h, rfl⟩
                · right; rfl
              cases skip
              · have hnx := walkAt_next Hat.out Hget.out h44
                have Hnx := Lib.hid hnx; clear hnx Hat h44
                by_cases h34 : c = 34
                · subst h34
                  cases ins
                  · have Hnx2 : Hid (walkAt (splitL (L.take (k + 1))) s.data.toList R fr (ix + 1) true false) := Lib.hid (by simpa using Hnx.out)
                    go_wp2
                    go_roundw
                    case rel => exact ⟨R, fr, ix + 1, _, _, rfl, rfl, rfl, by go_num, by omega, by omega, by simp, Hnx2.out, Hrow.out, hbel⟩
                    case measure => simp [intOf]; omega
                  · have Hnx2 : Hid (walkAt (splitL (L.take (k + 1))) s.data.toList R fr (ix + 1) false false) := Lib.hid (by simpa using Hnx.out)
                    go_wp2
                    go_roundw
                    case rel => exact ⟨R, fr, ix + 1, _, _, rfl, rfl, rfl, by go_num, by omega, by omega, by simp, Hnx2.out, Hrow.out, hbel⟩
                    case measure => simp [intOf]; omega
                · have b34 : ((c.toNat : Int) == 34) = false := by rw [Bool.eq_false_iff]; exact fun h => h34 ((byte_lit c 34 (by omega)).1 h)
                  by_cases h92 : c = 92
                  · subst h92
                    have Hnx2 : Hid (walkAt (splitL (L.take (k + 1))) s.data.toList R fr (ix + 1) ins ins) := Lib.hid (by simpa using Hnx.out)
                    clear h34 Hnx
                    cases ins
                    all_goals
                      go_wp2
                      go_roundw
                      case rel => exact ⟨R, fr, ix + 1, _, _, rfl, rfl, rfl, by go_num, by omega, by omega, by simp, Hnx2.out, Hrow.out, hbel⟩
                      case measure => simp [intOf]; omega
                  · have b92 : ((c.toNat : Int) == 92) = false := by rw [Bool.eq_false_iff]; exact fun h => h92 ((byte_lit c 92 (by omega)).1 h)
                    have Hnx2 : Hid (walkAt (splitL (L.take (k + 1))) s.data.toList R fr (ix + 1) ins false) := Lib.hid (by simpa [h34, h92] using Hnx.out)
                    clear h34 h92 Hnx
                    rcases g44 with b44 | rfl
                    · cases ins
                      all_goals
                        go_wp2
                        go_roundw
                        case rel => exact ⟨R, fr, ix + 1, _, _, rfl, rfl, rfl, by go_num, by omega, by omega, by simp, Hnx2.out, Hrow.out, hbel⟩
                        case measure => simp [intOf]; omega
                    · go_wp2
                      all_goals
                        go_roundw
                        case rel => exact ⟨R, fr, ix + 1, _, _, rfl, rfl, rfl, by go_num, by omega, by omega, by simp, Hnx2.out, Hrow.out, hbel⟩
                        case measure => simp [intOf]; omega
              · have hins : ins = true := Hsk.out rfl
                subst hins
                have hnx := walkAt_skip Hat.out Hget.out h44
                have Hnx := Lib.hid hnx; clear hnx Hat h44 g44
                go_wp2
                all_goals
                  go_roundw
                  case rel => exact ⟨R, fr, ix + 1, _, _, rfl, rfl, rfl, by go_num, by omega, by omega, by simp, Hnx.out, Hrow.out, hbel⟩
                  case measure => simp [intOf]; omega
        · have e : splitL (L.take (k + 1)) = R := by
            rcases Hat.out with ⟨h, _⟩ | ⟨_, h⟩
            · rw [data_len] at h; omega
            · exact h
          have E := Lib.hid e; clear e
          go_wp2
          go_roundw
          case rel => exact ⟨k + 1, by omega, by go_num, by rw [E.out]; exact Hrow.out, hbel⟩
          case measure => simp [intOf]; omega
    · obtain rfl : k = n := by omega
      have e : L.take k = L := List.take_of_length_le (by omega)
      rw [e] at Hrow
      clear e
      go_wp2
      go_ret
      exact ⟨_, rfl, Hrow.out, hbel⟩
end Go.Proofs.YtniiadhhefgmcaaGreatDoor
