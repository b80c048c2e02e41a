/- Walks of layer 27: a text cut at its first LF; a script, read. Condition: texts within 10^9 octets. -/
import Derived.Test.YtmcioedmjcbfbaaScr19
namespace Go.Proofs.Ytmcioedmjcbfbaa
open Go.RowKit IH
set_option maxRecDepth 100000
/-- What is cut at the first LF: ahead, behind; is there one? -/
def cut10 (l : List UInt8) : List UInt8 × List UInt8 × Bool := match cutLF l with
  | some x => (x.1, x.2, true)
  | none => (l, [], false)
def sOf : Value → Nat
  | .string r => r.size
  | _ => 0
theorem liteCut_any (s : ByteArray) (hs : s.size ≤ 1000000000) (w : World) :
    Calls Try.prog 54 #[.string s, .string ⟨#[10]⟩] w fun e w' => e = .returned (.tuple #[.string ⟨(cut10 s.data.toList).1.toArray⟩, .string ⟨(cut10 s.data.toList).2.1.toArray⟩, .bool (cut10 s.data.toList).2.2]) ∧ Below w.heap.size w w' := by
  have IX := Lib.hid (fun w => Try.stringslite_Index_one s 10 w)
  unfold cut10
  cases h : cutLF s.data.toList with
  | none =>
    have hno := cutLF_none.1 h
    rw [indexByte_no 10 _ hno] at IX
    simp only
    have hss : (⟨s.data.toList.toArray⟩ : ByteArray) = s := Lib.mk_data s
    rw [hss]
    clear h hno hss
    go_enter Try.func54, Try.ntmps54
    go_wp2_with (go_at_call 76; refine (IX.out _).mono ?_; rintro e w' ⟨rfl, hw⟩; have hw' := hw.symm; subst hw')
    go_ret3
    exact ⟨rfl, Below.refl _ _⟩
  | some x =>
    obtain ⟨a, b⟩ := x
    obtain ⟨h1, h2⟩ := cutLF_some h
    have hi : Lib.indexByte s.data.toList 10 = (a.length : Nat) := by rw [h1]; exact indexByte_mid 10 a b h2
    rw [hi] at IX
    have hlen : a.length + 1 + b.length = s.size := by rw [← data_len, h1]; simp; omega
    have e1 : Hid (s.extract 0 a.length = ⟨a.toArray⟩) := Lib.hid (bytes_inj (by rw [take_data s _ (by omega), h1, List.take_left' rfl]))
    have e2 : Hid (s.extract (a.length + 1) s.size = ⟨b.toArray⟩) := Lib.hid (bytes_inj (by rw [drop_data, h1, ← List.drop_drop, List.drop_left' rfl]; rfl))
    simp only
    obtain ⟨n, hn⟩ : ∃ n, a.length = n := ⟨_, rfl⟩
    rw [hn] at IX e1 e2 hlen
    have hn1 : n + 1 ≤ s.size := by omega
    have sz : (⟨#[10]⟩ : ByteArray).size = 1 := rfl
    have wr : IntKind.i64.wrap ((n : Int) + 1) = (n : Int) + 1 := wrap_id _ (by unfold inI; omega)
    clear h h1 h2 hi hn hlen
    go_enter Try.func54, Try.ntmps54
    go_wp2_with (go_at_call 76; refine (IX.out _).mono ?_; rintro e w' ⟨rfl, hw⟩; have hw' := hw.symm; subst hw')
    go_region
    go_wp2
    go_ret3
    refine ⟨?_, below_drewN (Below.refl _ _) 1⟩
    rw [← e1.out, ← e2.out]
    rfl
theorem SCut_any (s : ByteArray) (hs : s.size ≤ 1000000000) (w : World) :
    Calls Try.prog 35 #[.string s, .string ⟨#[10]⟩] w fun e w' => e = .returned (.tuple #[.string ⟨(cut10 s.data.toList).1.toArray⟩, .string ⟨(cut10 s.data.toList).2.1.toArray⟩, .bool (cut10 s.data.toList).2.2]) ∧ Below w.heap.size w w' := by
  have LC := Lib.hid (fun w => liteCut_any s hs w)
  generalize cut10 s.data.toList = x at *
  go_enter Try.func35, Try.ntmps35
  go_wp2_with (go_at_call 54; refine (LC.out _).mono ?_; rintro e w2 ⟨rfl, hb2⟩)
  go_ret3
  exact ⟨rfl, hb2⟩
theorem c8 (d : Deed) (vB vC vK : Value) : (cells8 d vB vC vK).toArray = #[.int .i64 d.kind, .int .i64 d.conn, .int .i64 d.n, vB, vC, vK, .int .i64 d.torn, .int .i64 d.part] := rfl
set_option maxHeartbeats 8000000 in
theorem sParse_any (s : ByteArray) (hs : s.size ≤ 1000000000) (w : World) :
    Calls Try.prog 23 #[.string s] w fun e w' => ∃ v V, e = .returned (.tuple #[v, .int .i64 (scriptL s.data.toList).2.1, .int .i64 (scriptL s.data.toList).2.2]) ∧ w'.ownsRow w.heap.size 53 8 v (scriptL s.data.toList).1.length V ∧ DeedsV w' w.heap.size (scriptL s.data.toList).1 V ∧ Below w.heap.size w w' := by
  obtain ⟨U, hU⟩ : ∃ U, scriptL s.data.toList = U := ⟨_, rfl⟩
  rw [hU]
  unfold scriptL at hU
  rw [data_len] at hU
  by_cases hbig : 1048576 < s.size
  · rw [if_pos hbig] at hU
    subst hU
    go_enter Try.func23, Try.ntmps23
    go_wp2
    go_ret3
    exact ⟨_, [], rfl, World.ownsRow_nil _ _ _ _, rfl, Below.refl _ _⟩
  · rw [if_neg hbig] at hU
    have HU0 := Lib.hid hU.symm
    obtain ⟨g0, hg0⟩ : ∃ g0, w.heap.size = g0 := ⟨_, rfl⟩
    rw [hg0]
    have hs' : s.size ≤ 1048576 := by omega
    clear hU hbig hs
    go_enter Try.func23, Try.ntmps23
    go_wp2
    go_loopw [0, 5, 6] (fun s' out n wr => ∃ (r : ByteArray) (k : Nat) (ds : List Deed) (V : List Value), s' = .string r ∧ n = .int .i64 k ∧ k + r.size ≤ 1048576 ∧ ds.length ≤ 10000 ∧ U = scriptF (r.size + 1) r.data.toList ds k ∧ wr.ownsRow g0 53 8 out ds.length V ∧ DeedsV wr g0 ds V ∧ Below g0 w wr) (fun s' _ _ _ => sOf s')
    case atStart => exact ⟨s, 0, [], [], rfl, rfl, by omega, by simp, HU0.out, World.ownsRow_nil _ _ _ _, rfl, Below.refl _ _⟩
    case round =>
      obtain ⟨w0, rfl⟩ : ∃ w0 : World, w0 = wr := ⟨_, rfl⟩
      obtain ⟨r, k, ds, V, rfl, rfl, hkr, hds, hat, hrow, hdv, hbel⟩ := hrel
      have HO := Lib.hid hrow
      have HV := Lib.hid hdv
      have HB := Lib.hid hbel
      have hgs : g0 ≤ w0.heap.size := by rw [← hg0]; exact hbel.size
      clear hrow hdv hbel HU0
      unfold scriptF at hat
      by_cases hr0 : r.data.toList = []
      · have hre : r = ⟨#[]⟩ := bytes_inj (by rw [hr0])
        rw [if_pos hr0] at hat
        subst hre
        have HU := Lib.hid hat
        clear hat hr0
        go_wp2
        go_ret3
        rw [HU.out]
        exact ⟨_, V, rfl, HO.out, HV.out, HB.out⟩
      · rw [if_neg hr0] at hat
        have hne : (r.toList == []) = false := by rw [beq_eq_false_iff_ne, ByteArray.toList_eq]; exact hr0
        have CT := SCut_any r (by omega) w0
        unfold cut10 at CT
        cases hcut : cutLF r.data.toList with
        | none =>
          rw [hcut] at CT hat
          simp only at CT hat
          have HU := Lib.hid hat
          replace CT := Lib.hid CT
          clear hat hr0 hcut
          go_wp2_with (go_at_call 35; refine CT.out.mono ?_; rintro e w2 ⟨rfl, hb2⟩)
          go_ret3
          rw [HU.out]
          exact ⟨_, [], rfl, World.ownsRow_nil _ _ _ _, rfl, HB.out.trans (hb2.mono hgs)⟩
        | some x =>
          obtain ⟨a, b⟩ := x
          rw [hcut] at CT hat
          simp only at CT hat
          replace CT := Lib.hid CT
          obtain ⟨h1, h2⟩ := cutLF_some hcut
          have hlen : a.length + 1 + b.length = r.size := by rw [← data_len, h1]; simp; omega
          obtain ⟨Ab, hAb⟩ : ∃ Ab : ByteArray, (⟨a.toArray⟩ : ByteArray) = Ab := ⟨_, rfl⟩
          obtain ⟨Bb, hBb⟩ : ∃ Bb : ByteArray, (⟨b.toArray⟩ : ByteArray) = Bb := ⟨_, rfl⟩
          have hAl : Ab.data.toList = a := by rw [← hAb]
          have hBl : Bb.data.toList = b := by rw [← hBb]
          have hAs : Ab.size = a.length := by rw [← data_len, hAl]
          have hBs : Bb.size = b.length := by rw [← data_len, hBl]
          rw [hAb, hBb] at CT
          have HBlt : Hid (Bb.size < r.size) := Lib.hid (by omega)
          have HBl := Lib.hid hBl
          have HAl := Lib.hid hAl
          clear hcut h1 h2 hAb hBb hBl hr0
          have hmore : ∀ ds k, scriptF r.size b ds k = scriptF (Bb.size + 1) Bb.data.toList ds k := fun ds k => by
            rw [HBl.out]
            exact scriptF_more _ _ _ _ _ (by omega) (by omega)
          by_cases hq : quiet a = true
          · rw [if_pos hq, hmore] at hat
            have HU := Lib.hid hat
            have hk1 : k + 1 + Bb.size ≤ 1048576 := by omega
            clear hat hmore hlen
            cases ha : a with
            | nil =>
              have hAe : Ab = ⟨#[]⟩ := bytes_inj (by rw [hAl, ha])
              subst hAe
              clear ha hq hAl HAl hAs
              go_wp2_with (go_at_call 35; refine CT.out.mono ?_; rintro e w2 ⟨rfl, hb2⟩)
              go_roundw
              case rel => exact ⟨Bb, k + 1, ds, V, rfl, by go_num, hk1, hds, HU.out, own_below HO.out hb2, DeedsV.keep (Kept3.below hb2) HV.out, HB.out.trans (hb2.mono hgs)⟩
              case measure => exact HBlt.out
            | cons c a' =>
              have h0 : 0 < Ab.size := by rw [hAs, ha]; simp
              have hat0 : Ab[0] = c := by
                have h3 := get_data Ab 0 h0
                rw [hAl, ha] at h3
                exact (Option.some.inj h3).symm
              have hne2 : (Ab.toList == []) = false := by rw [beq_eq_false_iff_ne, ByteArray.toList_eq, hAl, ha]; simp
              rw [ha] at hq
              have hc35 : c = 35 := by simpa [quiet] using hq
              subst hc35
              have e35 : (((35 : UInt8).toNat : Int) == 35) = true := by decide
              clear ha hq hAl HAl hAs
              go_wp2_with (go_at_call 35; refine CT.out.mono ?_; rintro e w2 ⟨rfl, hb2⟩)
              go_roundw
              case rel => exact ⟨Bb, k + 1, ds, V, rfl, by go_num, hk1, hds, HU.out, own_below HO.out hb2, DeedsV.keep (Kept3.below hb2) HV.out, HB.out.trans (hb2.mono hgs)⟩
              case measure => exact HBlt.out
          · rw [if_neg hq] at hat
            have hP := fun w => sparse_any Ab (by omega) w
            rw [hAl] at hP
            have hk1 : k + 1 + Bb.size ≤ 1048576 := by omega
            cases ha : a with
            | nil => rw [ha] at hq; exact absurd rfl hq
            | cons c a' =>
              have h0 : 0 < Ab.size := by rw [hAs, ha]; simp
              have hat0 : Ab[0] = c := by
                have h3 := get_data Ab 0 h0
                rw [hAl, ha] at h3
                exact (Option.some.inj h3).symm
              have hne2 : (Ab.toList == []) = false := by rw [beq_eq_false_iff_ne, ByteArray.toList_eq, hAl, ha]; simp
              rw [ha] at hq
              have hc35 : c ≠ 35 := by simpa [quiet] using hq
              have e35 : ((c.toNat : Int) == 35) = false := by
                rw [beq_eq_false_iff_ne]
                intro h
                exact hc35 (UInt8.toNat_inj.1 (by simpa using (by omega : c.toNat = 35)))
              obtain ⟨D, hD⟩ : ∃ D, lineD a = D := ⟨_, rfl⟩
              rw [hD] at hP hat
              replace hP := Lib.hid hP
              clear ha hq hAl HAl hAs hc35 hD hlen
              cases D with
              | none =>
                simp only at hat
                have HU := Lib.hid hat
                clear hat hmore
                go_wp2_with (first
                  | (go_at_call 35; refine CT.out.mono ?_; rintro e w2 ⟨rfl, hb2⟩)
                  | (go_at_call 37; refine (hP.out _).mono ?_; rintro e w3 ⟨⟨vB, vC, vK, he, ho⟩, hb3⟩; obtain ⟨AB, qB, rfl, _⟩ := own_slice ho.b; obtain ⟨AC, qC, rfl, _⟩ := own_slice ho.c; obtain ⟨AK, qK, rfl, _⟩ := own_slice ho.k; simp only [c8, Option.getD_none, Option.isSome_none, Bool.false_eq_true, if_false, Deed.of] at he; subst he))
                go_ret3
                rw [HU.out]
                exact ⟨_, [], rfl, World.ownsRow_nil _ _ _ _, rfl, (HB.out.trans (hb2.mono hgs)).trans ((hb3.mono (Nat.le_trans hgs hb2.size)).alloc (by have := hb2.size; have := hb3.size; omega) _)⟩
              | some d =>
                simp only at hat
                by_cases hmany : ds.length = 10000
                · rw [if_pos hmany] at hat
                  have HU := Lib.hid hat
                  clear hat hmore
                  have e5 : ((ds.length : Int) == 10000) = true := by rw [beq_iff_eq]; omega
                  go_wp2_with (first
                    | (go_at_call 35; refine CT.out.mono ?_; rintro e w2 ⟨rfl, hb2⟩; obtain ⟨Ao, co, rfl, _⟩ := own_slice HO.out)
                    | (go_at_call 37; refine (hP.out _).mono ?_; rintro e w3 ⟨⟨vB, vC, vK, he, ho⟩, hb3⟩; obtain ⟨AB, qB, rfl, _⟩ := own_slice ho.b; obtain ⟨AC, qC, rfl, _⟩ := own_slice ho.c; obtain ⟨AK, qK, rfl, _⟩ := own_slice ho.k; simp only [c8, Option.getD_some, Option.isSome_some, if_true] at he; subst he))
                  go_ret3
                  rw [HU.out]
                  exact ⟨_, [], rfl, World.ownsRow_nil _ _ _ _, rfl, (HB.out.trans (hb2.mono hgs)).trans ((hb3.mono (Nat.le_trans hgs hb2.size)).alloc (by have := hb2.size; have := hb3.size; omega) _)⟩
                · rw [if_neg hmany, hmore] at hat
                  have HU := Lib.hid hat
                  clear hat hmore
                  have e5 : ((ds.length : Int) == 10000) = false := by rw [beq_eq_false_iff_ne]; omega
                  go_wp2_with (first
                    | (go_at_call 35; refine CT.out.mono ?_; rintro e w2 ⟨rfl, hb2⟩; obtain ⟨Ao, co, rfl, _⟩ := own_slice HO.out; have h2s := hb2.size)
                    | (go_at_call 37; refine (hP.out _).mono ?_; rintro e w3 ⟨⟨vB, vC, vK, he, ho⟩, hb3⟩; obtain ⟨AB, qB, rfl, _⟩ := own_slice ho.b; obtain ⟨AC, qC, rfl, _⟩ := own_slice ho.c; obtain ⟨AK, qK, rfl, _⟩ := own_slice ho.k; simp only [c8, Option.getD_some, Option.isSome_some, if_true] at he ho; subst he; have HO3 := Lib.hid (own_below (own_below HO.out hb2) hb3); have HV3 := Lib.hid (DeedsV.keep (Kept3.below hb3) (DeedsV.keep (Kept3.below hb2) HV.out)); have H3 := Lib.hid (ho.base (by omega : g0 ≤ w2.heap.size)); have HB3 := Lib.hid ((HB.out.trans (hb2.mono hgs)).trans (hb3.mono (Nat.le_trans hgs h2s))); have h3s := hb3.size; clear ho hb3 hb2)
                    | (at_builtin; refine wpList_app2 deed_ty rfl _ _ rfl g0 _ _ _ rfl (HO3.out.alloc _) 1 1 (cells8 d _ _ _) _ rfl (by simp) (by rfl) H3.out.one (by omega) (by simp only [maxLen]; omega) (by simp; omega) ?_; intro v' w4 hown hgr))
                  go_roundw
                  case rel =>
                    have K4 := (Kept3.below ((Below.refl w3.heap.size w3).alloc (Nat.le_refl _) _)).trans (Kept3.grown hgr fun q hq => by
                      obtain ⟨cur, h5, _⟩ := own_block (HO3.out.alloc _) q hq
                      exact ⟨cur, _, h5, by decide⟩)
                    refine ⟨Bb, k + 1, ds ++ [d], V ++ cells8 d _ _ _, rfl, by go_num, hk1, by rw [List.length_append]; simp; omega, HU.out, by rw [List.length_append]; exact hown, DeedsV.snoc (H3.out.keep K4) (DeedsV.keep K4 HV3.out), ?_⟩
                    exact (HB3.out.alloc (by omega) _).grown hgr (by simp; omega) fun q hq => (own_block HO3.out q hq).choose_spec.2
                  case measure => exact HBlt.out
end Go.Proofs.Ytmcioedmjcbfbaa
