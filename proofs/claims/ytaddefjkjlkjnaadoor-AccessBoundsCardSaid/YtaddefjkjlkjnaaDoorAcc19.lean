/- Walk of layer 28: lines, read by the code. Condition: the world's shape; texts within 10^9 octets. -/
import Derived.Test.YtaddefjkjlkjnaaDoorAcc18
import Derived.Test.YtaddefjkjlkjnaaDoorCut10
namespace Go.Proofs.YtaddefjkjlkjnaaDoor
open Go.RowKit IH
set_option maxRecDepth 100000
theorem told_nine (t : Reply) : ∃ a b c d x y z g h, (toldCells t).toArray = #[.int .i64 a, .int .i64 b, .int .i64 c, .int .i64 d, .string x, .string y, .string z, .int .i64 g, .int .i64 h] := ⟨_, _, _, _, _, _, _, _, _, rfl⟩
theorem toldsV_snoc (L : List Reply) (t : Reply) : toldsV (L ++ [t]) = toldsV L ++ toldCells t := by simp [toldsV]
set_option maxHeartbeats 16000000 in
theorem aParse_any (s : ByteArray) (hs : s.size ≤ 1000000000) (w : World) (hsh : w.ShapedOpen Tryd.prog) :
    Calls Tryd.prog 31 #[.string s] w fun e w' => ∃ v, e = .returned (.tuple #[v, .int .i64 (readL one28 s.data.toList).2.1, .int .i64 (readL one28 s.data.toList).2.2]) ∧ w'.ownsRow w.heap.size 48 9 v (readL one28 s.data.toList).1.length (toldsV (readL one28 s.data.toList).1) ∧ Below w.heap.size w w' := by
  obtain ⟨U, hU⟩ : ∃ U, readL one28 s.data.toList = U := ⟨_, rfl⟩
  rw [hU]
  unfold readL at hU
  rw [data_len] at hU
  by_cases hbig : 1048576 < s.size
  · rw [if_pos hbig] at hU
    subst hU
    clear hsh
    go_enter Tryd.func31, Tryd.ntmps31
    go_wp2
    go_ret3
    exact ⟨_, rfl, World.ownsRow_nil _ _ _ _, Below.refl _ _⟩
  · rw [if_neg hbig] at hU
    have HU0 := Lib.hid hU.symm
    obtain ⟨g0, hg0⟩ : ∃ g0, w.heap.size = g0 := ⟨_, rfl⟩
    have HSH := Lib.hid (fun (W : World) (hb : Below g0 w W) => shaped_below hsh (by rw [hg0]; exact hb))
    rw [hg0]
    have hs' : s.size ≤ 1048576 := by omega
    clear hU hbig hs hsh
    go_enter Tryd.func31, Tryd.ntmps31
    go_wp2
    go_loopw [0, 5, 6] (fun s' out n wr => ∃ (r : ByteArray) (ts : List Reply), s' = .string r ∧ n = .int .i64 (ts.length + 1 : Nat) ∧ r.size ≤ 1048576 ∧ ts.length ≤ 10000 ∧ U = readF one28 (r.size + 1) r.data.toList ts ∧ wr.ownsRow g0 48 9 out ts.length (toldsV ts) ∧ Below g0 w wr) (fun s' _ _ _ => sOf s')
    case atStart => exact ⟨s, [], rfl, rfl, by omega, by simp, HU0.out, World.ownsRow_nil _ _ _ _, Below.refl _ _⟩
    case round =>
      obtain ⟨w0, rfl⟩ : ∃ w0 : World, w0 = wr := ⟨_, rfl⟩
      obtain ⟨r, ts, rfl, rfl, hr, hts, hat, hrow, hbel⟩ := hrel
      have HO := Lib.hid hrow
      have HB := Lib.hid hbel
      have hgs : g0 ≤ w0.heap.size := by rw [← hg0]; exact hbel.size
      clear hrow hbel HU0
      unfold readF at hat
      obtain ⟨m, hm⟩ : ∃ m, ts.length = m := ⟨_, rfl⟩
      rw [hm] at hat
      by_cases hr0 : r.data.toList = []
      · have hre : r = ⟨#[]⟩ := bytes_inj (by rw [hr0])
        rw [if_pos hr0] at hat
        subst hre
        have HU := Lib.hid hat
        obtain ⟨Ao, co, rfl, _⟩ := own_slice HO.out
        rw [hm] at HO ⊢
        clear hat hr0
        go_wp2
        go_ret3
        rw [HU.out]
        exact ⟨_, rfl, by rw [hm]; exact HO.out, HB.out⟩
      · rw [if_neg hr0] at hat
        have hne : (r.toList == []) = false := by rw [beq_eq_false_iff_ne, ByteArray.toList_eq]; exact hr0
        have CT := SCut_any r (by omega) w0
        unfold cut10 at CT
        cases hcut : cutLF r.data.toList with
        | none =>
          rw [hcut] at CT hat
          simp only at CT hat
          rw [Lib.mk_data] at CT
          have RD := fun (W : World) (hb : Below g0 w W) => read28_any r (by omega) W (HSH.out W hb)
          obtain ⟨D, hD⟩ : ∃ D, one28 r.data.toList = D := ⟨_, rfl⟩
          rw [hD] at RD
          obtain ⟨n1, n2, n3, n4, x1, x2, x3, n5, n6, hq⟩ := told_nine (D.getD zero28)
          obtain ⟨y, hy⟩ : ∃ y : Int, (if D.isSome = true then 0 else 10) = y := ⟨_, rfl⟩
          rw [hq, hy] at RD
          replace RD := Lib.hid RD
          clear hD hq hy
          have HU := Lib.hid hat
          replace CT := Lib.hid CT
          clear hat hr0 hcut
          go_wp2_with (first
            | (go_at_call 80; refine CT.out.mono ?_; rintro e w2 ⟨rfl, hb2⟩; have B2 := Lib.hid (HB.out.trans (hb2.mono hgs)); clear hb2)
            | (go_at_call 81; refine (RD.out _ B2.out).mono ?_; rintro e w3 ⟨rfl, hb3⟩; have B3 := Lib.hid (B2.out.trans (hb3.mono (Nat.le_trans (by rw [← hg0]; exact Nat.le_refl _) B2.out.size))); have B3s : g0 ≤ w3.heap.size := Nat.le_trans (by rw [← hg0]; exact Nat.le_refl _) B3.out.size; clear hb3))
          go_ret3
          rw [HU.out]
          exact ⟨_, rfl, World.ownsRow_nil _ _ _ _, B3.out.alloc B3s _⟩
        | some x =>
          obtain ⟨a, b⟩ := x
          rw [hcut] at CT hat
          simp only at CT hat
          replace CT := Lib.hid CT
          obtain ⟨h1, h2⟩ := cutLF_some hcut
          have hlen : a.length + 1 + b.length = r.size := by rw [← data_len, h1]; simp; omega
          obtain ⟨Ab, hAb⟩ : ∃ Ab : ByteArray, (⟨a.toArray⟩ : ByteArray) = Ab := ⟨_, rfl⟩
          obtain ⟨Bb, hBb⟩ : ∃ Bb : ByteArray, (⟨b.toArray⟩ : ByteArray) = Bb := ⟨_, rfl⟩
          have hAl : Ab.data.toList = a := by rw [← hAb]
          have hBl : Bb.data.toList = b := by rw [← hBb]
          have hAs : Ab.size = a.length := by rw [← data_len, hAl]
          have hBs : Bb.size = b.length := by rw [← data_len, hBl]
          rw [hAb, hBb] at CT
          have HBlt : Hid (Bb.size < r.size) := Lib.hid (by omega)
          have HBl := Lib.hid hBl
          have RD := fun (W : World) (hb : Below g0 w W) => read28_any Ab (by omega) W (HSH.out W hb)
          rw [hAl] at RD
          clear hcut h1 h2 hAb hBb hBl hr0
          have hmore : ∀ ts, readF one28 r.size b ts = readF one28 (Bb.size + 1) Bb.data.toList ts := fun ts => by
            rw [HBl.out]
            exact readF_more one28 _ _ _ _ (by omega) (by omega)
          obtain ⟨D, hD⟩ : ∃ D, one28 a = D := ⟨_, rfl⟩
          rw [hD] at RD hat
          replace RD := Lib.hid RD
          clear hAl hAs hD hlen
          cases D with
          | none =>
            simp only at hat
            have HU := Lib.hid hat
            clear hat hmore
            go_wp2_with (first
              | (go_at_call 80; refine CT.out.mono ?_; rintro e w2 ⟨rfl, hb2⟩; have B2 := Lib.hid (HB.out.trans (hb2.mono hgs)); clear hb2)
              | (go_at_call 81; refine (RD.out _ B2.out).mono ?_; rintro e w3 ⟨he, hb3⟩; simp only [Option.isSome_none, Bool.false_eq_true, if_false, Option.getD_none, toldCells, zero28] at he; subst he; have B3 := Lib.hid (B2.out.trans (hb3.mono (Nat.le_trans (by rw [← hg0]; exact Nat.le_refl _) B2.out.size))); have B3s : g0 ≤ w3.heap.size := Nat.le_trans (by rw [← hg0]; exact Nat.le_refl _) B3.out.size; clear hb3))
            go_ret3
            rw [HU.out]
            exact ⟨_, rfl, World.ownsRow_nil _ _ _ _, B3.out.alloc B3s _⟩
          | some t =>
            simp only at hat
            by_cases hmany : 10000 ≤ m
            · rw [if_pos hmany] at hat
              have HU := Lib.hid hat
              clear hat hmore
              have e5 : (10000 : Int) < ((m + 1 : Nat) : Int) := by omega
              rw [hm]
              go_wp2_with (first
                | (go_at_call 80; refine CT.out.mono ?_; rintro e w2 ⟨rfl, hb2⟩; have B2 := Lib.hid (HB.out.trans (hb2.mono hgs)); clear hb2)
                | (go_at_call 81; refine (RD.out _ B2.out).mono ?_; rintro e w3 ⟨he, hb3⟩; simp only [Option.isSome_some, if_true, Option.getD_some, toldCells] at he; subst he; have B3 := Lib.hid (B2.out.trans (hb3.mono (Nat.le_trans (by rw [← hg0]; exact Nat.le_refl _) B2.out.size))); have B3s : g0 ≤ w3.heap.size := Nat.le_trans (by rw [← hg0]; exact Nat.le_refl _) B3.out.size; clear hb3))
              go_ret3
              rw [HU.out]
              exact ⟨_, rfl, World.ownsRow_nil _ _ _ _, B3.out.alloc B3s _⟩
            · rw [if_neg hmany, hmore] at hat
              have HU := Lib.hid hat
              clear hat hmore
              have e5 : ((m + 1 : Nat) : Int) ≤ (10000 : Int) := by omega
              rw [hm] at HO ⊢
              go_wp2_with (first
                | (go_at_call 80; refine CT.out.mono ?_; rintro e w2 ⟨rfl, hb2⟩; have HO2 := Lib.hid (own_below HO.out hb2); have B2 := Lib.hid (HB.out.trans (hb2.mono hgs)); have hgs2 := Nat.le_trans hgs hb2.size; clear hb2)
                | (go_at_call 81; refine (RD.out _ B2.out).mono ?_; rintro e w3 ⟨he, hb3⟩; simp only [Option.isSome_some, if_true, Option.getD_some, toldCells] at he; subst he; have HO3 := Lib.hid (own_below HO2.out hb3); have B3 := Lib.hid (B2.out.trans (hb3.mono hgs2)); have hgs3 := Nat.le_trans hgs2 hb3.size; clear hb3)
                | (at_builtin; refine wpList_app2 told_ty rfl _ _ rfl g0 _ _ _ rfl (HO3.out.alloc _) 1 1 (toldCells t) _ rfl (by simp) (by rfl) (told_one t) (by omega) (by simp only [maxLen]; omega) (by simp; omega) ?_; intro v' w4 hown hgr))
              go_roundw
              case rel =>
                refine ⟨Bb, ts ++ [t], rfl, by rw [List.length_append, hm]; go_num, by have := HBlt.out; omega, by rw [List.length_append, hm]; simp; omega, HU.out, by rw [List.length_append, toldsV_snoc, hm]; exact hown, ?_⟩
                exact (B3.out.alloc hgs3 _).grown hgr (by simp; omega) fun q hq => (HO3.out.lt q hq).1
              case measure => exact HBlt.out
end Go.Proofs.YtaddefjkjlkjnaaDoor
