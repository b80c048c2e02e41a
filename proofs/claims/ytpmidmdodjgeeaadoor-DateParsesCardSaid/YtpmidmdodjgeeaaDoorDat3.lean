/- Walk of date.split: a moment's date and time. Condition: the moment is one that has forms. -/
import Derived.Test.YtpmidmdodjgeeaaDoorDat2
import Derived.Test.YtpmidmdodjgeeaaDoorCal2
import Derived.Test.YtpmidmdodjgeeaaDoorRow
namespace Go.Proofs.YtpmidmdodjgeeaaDoor
open Go.RowKit IH
set_option maxRecDepth 100000

theorem dby_guess (n : Int) (h : 0 ≤ n) : dby (1970 + n / 366) ≤ n := by unfold dby; omega
theorem dby_max : dby 10000 = 2932897 := by decide
/-- What a cell says, if it is a number. -/
def cellInt (w : World) (b o : Nat) : Int := match w.cell? ⟨b, o, none⟩ with | some (.int _ n) => n | _ => 0
theorem cellInt_of {w : World} {b o : Nat} {k : IntKind} {n : Int} (h : w.cell? ⟨b, o, none⟩ = some (.int k n)) : cellInt w b o = n := by unfold cellInt; rw [h]
theorem RowAt.cell0 {w : World} {g : Nat} {e : TypeId} {cs : List Value} (h : RowAt w g e cs) (j : Nat) {u : Value} (hu : cs[j]? = some u) : w.cell? ⟨g, j, none⟩ = some u := h.cell hu
theorem row_new_at (w : World) (e : TypeId) (cs : List Value) (g : Nat) (hg : g = w.heap.size) : RowAt (w.alloc (.cells cs.toArray e)) g e cs := by
  subst hg; exact RowAt.new w e cs
theorem row_frozen {w : World} {g : Nat} {e : TypeId} {cs : List Value} (h : RowAt w g e cs) (j : Nat) (hj : j < cs.length) : w.frozen? ⟨g, j, none⟩ = false := h.frozen hj

set_option maxHeartbeats 2000000 in
theorem split_any (mt : Int) (h0 : 0 ≤ mt) (h1 : mt ≤ 253402300799) (w : World) :
    Calls Tryd.prog 56 #[.int .i64 mt] w fun e w' => (∃ y m d, e = .returned (.agg (civV y m d (mt % 86400 / 3600) (mt % 86400 / 60 % 60) (mt % 86400 % 60) (mt / 86400 % 7)).toArray) ∧ Moment mt y m d) ∧ Below w.heap.size w w' := by
  obtain ⟨n, hn⟩ : ∃ n, mt / 86400 = n := ⟨_, rfl⟩
  obtain ⟨t, ht⟩ : ∃ t, mt % 86400 = t := ⟨_, rfl⟩
  have hn0 : 0 ≤ n := by omega
  have ht0 : 0 ≤ t := by omega
  have ht1 : t < 86400 := by omega
  have HM := Lib.hid hn
  rw [hn, ht]
  have hn1 : n ≤ 2932896 := by omega
  have hg := dby_guess (n) hn0
  have Hg := Lib.hid hg; clear hg
  go_enter Tryd.func56, Tryd.ntmps56
  go_wp2
  rw [hn, ht]
  clear hn ht
  go_loopw [23] (fun _ wr => ∃ y : Int, 1970 ≤ y ∧ y ≤ 9999 ∧ dby y ≤ n ∧ RowAt wr (w.heap.size + 1) 83 (civV y 1 0 (t / 3600) (t / 60 % 60) (t % 60) (n % 7)) ∧ RowAt wr w.heap.size 83 (civV 0 0 0 0 0 0 0) ∧ Below w.heap.size w wr) (fun _ wr => (10000 - cellInt wr (w.heap.size + 1) 0).toNat)
  case atStart =>
    refine ⟨_, ?_, ?_, Hg.out, row_new_at _ _ _ _ (by simp), (RowAt.new _ _ _).alloc _, ((Below.refl _ _).alloc (Nat.le_refl _) _).alloc (by simp) _⟩
    · omega
    · omega
  case round =>
    clear Hg
    obtain ⟨y, hy0, hy1, hdy, hrow, hres, hbel⟩ := hrel
    obtain ⟨c0, c1, c2, c3, c4, c5, c6⟩ := civ_cells hrow
    have f0 := row_frozen hrow 0 (by show 0 < 7; decide)
    have hci := cellInt_of c0
    have A := Lib.hid (ahead_any (y + 1) (by omega) (by omega))
    have Hrow := Lib.hid hrow; clear hrow
    have Hci := Lib.hid hci; clear hci
    have Hdy := Lib.hid hdy; clear hdy
    obtain ⟨D, hD⟩ : ∃ D, dby (y + 1) = D := ⟨_, rfl⟩
    rw [hD] at A
    have HD := Lib.hid hD; clear hD
    by_cases hc : D ≤ n
    · go_wp2_with (go_at_call 83; (with_reducible refine (A.out _).mono ?_); rintro e w' ⟨rfl, rfl⟩)
      go_roundw
      case rel =>
        have hset := Hrow.out.set_ (j := 0) (by show 0 < 7; decide) (.int .i64 (y + 1))
        refine ⟨y + 1, by omega, ?_, by rw [HD.out]; exact hc, hset, hres.far (by simp) _, hbel.setCell (p := ⟨w.heap.size + 1, 0, none⟩) (by simp) _⟩
        rcases Int.lt_or_le y 9999 with h | h
        · omega
        · obtain rfl : y = 9999 := by omega
          have := dby_max
          have e : (9999 : Int) + 1 = 10000 := rfl
          rw [HD.out.symm, e] at hc
          omega
      case measure =>
        have hset := Hrow.out.set_ (j := 0) (by show 0 < 7; decide) (.int .i64 (y + 1))
        have := cellInt_of (hset.cell (j := 0) rfl)
        rw [Hci.out]
        simp only [this]
        omega
    · have A0 := ahead_any y (by omega) (by omega)
      have hB0 : 0 ≤ dby y := by have := dby_mono 1970 y hy0; rw [dby_1970] at this; exact this
      have hB1 := Hdy.out
      have hBN : n < dby (y + 1) := by rw [HD.out]; omega
      have hsu := dby_succ y
      have h13 := cum_13 y
      have hN12 : ∀ r : Int, r = n - dby y - cum y 12 → r < mlen y 12 := fun r hr => by
        have h1 := cum_succ y 12 (by omega) (by omega)
        rw [show (12 : Int) + 1 = 13 from rfl] at h1
        omega
      have H12 := Lib.hid hN12
      have HBN := Lib.hid hBN
      obtain ⟨B, hB⟩ : ∃ B, dby y = B := ⟨_, rfl⟩
      rw [hB] at hB0 hB1 A0 H12
      have HB := Lib.hid hB
      have A0' := Lib.hid A0
      clear hB hBN hsu h13 hN12 A0 Hdy
      go_wp2_with (first
        | (go_at_call 83; (with_reducible refine (A.out _).mono ?_); rintro e w' ⟨rfl, rfl⟩)
        | (go_at_call 83; (with_reducible refine (A0'.out _).mono ?_); rintro e w' ⟨rfl, rfl⟩))
      clear c0 c1 c2 c3 c4 c5 c6 f0 A A0' Hci HD
      go_loopw [3, 38] (fun v _ ws => ∃ m r : Int, v = .int .i64 r ∧ 1 ≤ m ∧ m ≤ 12 ∧ r = n - B - cum y m ∧ 0 ≤ r ∧ r ≤ 2932896 ∧ RowAt ws (w.heap.size + 1) 83 (civV y m 0 (t / 3600) (t / 60 % 60) (t % 60) (n % 7)) ∧ RowAt ws w.heap.size 83 (civV 0 0 0 0 0 0 0) ∧ Below w.heap.size w ws) (fun _ _ ws => (13 - cellInt ws (w.heap.size + 1) 1).toNat)
      case atStart => exact ⟨1, _, rfl, by omega, by omega, by rw [cum_1]; omega, by omega, by omega, Hrow.out, hres, hbel⟩
      case round =>
        clear Hrow hres hbel
        obtain ⟨m, r, rfl, hm1, hm2, hr, hr0, hr1, hrow, hres, hbel⟩ := hrel
        obtain ⟨c0, c1, c2, c3, c4, c5, c6⟩ := civ_cells hrow
        have f1 := row_frozen hrow 1 (by show 1 < 7; decide)
        have f2 := row_frozen hrow 2 (by show 2 < 7; decide)
        have hci := cellInt_of c1
        have Hrow := Lib.hid hrow; clear hrow
        have Hci := Lib.hid hci; clear hci
        have Hr := Lib.hid hr; clear hr
        have hml := mlen_bd y m
        have L := Lib.hid (length_any y m (by omega) (by omega))
        have h12 : mlen y m ≤ r → m ≤ 11 := fun h => by
          rcases Int.lt_or_le m 12 with h' | h'
          · omega
          · obtain rfl : m = 12 := by omega
            have := H12.out r Hr.out
            omega
        have H12' := Lib.hid h12; clear h12
        have hcs := cum_succ y m hm1 hm2
        have Hcs := Lib.hid hcs; clear hcs
        obtain ⟨M, hM⟩ : ∃ M, mlen y m = M := ⟨_, rfl⟩
        rw [hM] at L hml H12' Hcs
        have HM' := Lib.hid hM; clear hM
        by_cases hc : M ≤ r
        · have hm3 := H12'.out hc
          go_wp2_with (go_at_call 84; (with_reducible refine (L.out _).mono ?_); rintro e w' ⟨rfl, rfl⟩)
          go_roundw
          case rel =>
            have hset := Hrow.out.set_ (j := 1) (by show 1 < 7; decide) (.int .i64 (m + 1))
            exact ⟨m + 1, r - M, rfl, by omega, by omega, by have := Hr.out; have := Hcs.out; omega, by omega, by omega, hset, hres.far (by simp) _, hbel.setCell (p := ⟨w.heap.size + 1, 1, none⟩) (by simp) _⟩
          case measure =>
            have hset := Hrow.out.set_ (j := 1) (by show 1 < 7; decide) (.int .i64 (m + 1))
            have := cellInt_of (hset.cell (j := 1) rfl)
            rw [Hci.out]
            simp only [this]
            omega
        · have hone : ∀ v ∈ civV y m (r + 1) (t / 3600) (t / 60 % 60) (t % 60) (n % 7), v.oneCell' = true := by simp [civV, Value.oneCell']
          have Hone := Lib.hid hone; clear hone
          go_wp2_with (first
            | (go_at_call 84; (with_reducible refine (L.out _).mono ?_); rintro e w' ⟨rfl, rfl⟩)
            | (refine wpList_store_row rfl 83 _ _ rfl w.heap.size 83 (civV y m (r + 1) (t / 3600) (t / 60 % 60) (t % 60) (n % 7)) _ (by rfl) (by rfl) (hres.far (by simp) _) rfl (by kernel_rfl) Hone.out ?_; intro w5 h5 h6))
          obtain ⟨d0, d1, d2, d3, d4, d5, d6⟩ := civ_cells h5
          have hb5 : Below w.heap.size w w5 := h6.below (hbel.setCell (p := ⟨w.heap.size + 1, 2, none⟩) (by simp) _) (Nat.le_refl _)
          refine bodyPost_ret (v := .agg (civV y m (r + 1) (t / 3600) (t / 60 % 60) (t % 60) (n % 7)).toArray) (by simp [results, Tryd.results56, go_sem, civV, d0, d1, d2, d3, d4, d5, d6]) rfl ⟨⟨y, m, r + 1, rfl, h0, h1, ?_⟩, hb5⟩
          rw [HM.out]
          exact ⟨hm1, hm2, by omega, by have := HM'.out; omega, by have := Hr.out; have := HB.out; omega⟩
end Go.Proofs.YtpmidmdodjgeeaaDoor
