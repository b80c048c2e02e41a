/- Walk of layer 5: a reference resolved, by the document. Condition: texts within 10^7 octets. -/
import Derived.Test.YtaddefjkjlkjnaaDoorTar19
namespace Go.Proofs.YtaddefjkjlkjnaaDoor
open Go.RowKit IH
set_option maxRecDepth 100000
theorem while_take (p : UInt8 → Bool) (l : List UInt8) : l.takeWhile p = l.take (l.takeWhile p).length := by
  have h := List.takeWhile_append_dropWhile (p := p) (l := l)
  conv => rhs; arg 2; rw [← h]
  rw [List.take_left' rfl]
theorem while_end (p : UInt8 → Bool) (l : List UInt8) : ∀ k c, l[k]? = some c → k ≤ (l.takeWhile p).length → (p c = false ↔ k = (l.takeWhile p).length) := by
  induction l with
  | nil => intro k c h; simp at h
  | cons d l ih =>
    intro k c hk hle
    cases hd : p d with
    | false =>
      rw [List.takeWhile_cons, if_neg (by simp [hd])] at hle ⊢
      have h0 : k = 0 := by simpa using hle
      subst h0
      rw [List.getElem?_cons_zero] at hk
      rw [← Option.some.inj hk, hd]
      simp
    | true =>
      rw [List.takeWhile_cons, if_pos hd] at hle ⊢
      cases k with
      | zero =>
        rw [List.getElem?_cons_zero] at hk
        rw [← Option.some.inj hk, hd]
        simp
      | succ k =>
        rw [List.getElem?_cons_succ] at hk
        rw [List.length_cons] at hle ⊢
        rw [ih k c hk (by omega)]
        omega
theorem schemed_at {l : List UInt8} (h : schemed l = true) : ∃ f, f < l.length ∧ f ≤ (l.takeWhile offC).length ∧ (∀ k c, l[k]? = some c → k ≤ f → (c = 58 ↔ k = f)) := by
  have h1 := schemed_eq l
  rw [h, Bool.not_true, eq_comm, Bool.or_eq_false_iff, decide_eq_false_iff_not, decide_eq_false_iff_not] at h1
  have h2 := first_le 58 l
  refine ⟨firstAt 58 l, by omega, by omega, fun k c hk hle => ?_⟩
  unfold firstAt at hle ⊢
  rw [← while_end (fun x => x != 58) l k c hk hle]
  simp
theorem schemed_not {l : List UInt8} (h : schemed l = false) : ∀ k c, l[k]? = some c → k < (l.takeWhile offC).length → c ≠ 58 := by
  intro k c hk hlt e
  unfold schemed at h
  rw [List.any_eq_false] at h
  refine h c ?_ (by simp [e])
  rw [while_take]
  refine List.mem_of_getElem? (i := k) ?_
  rw [List.getElem?_take_of_lt hlt]
  exact hk
theorem up_at {l : List UInt8} (h : l.head? = some 47) : ∃ m, 1 ≤ m ∧ m ≤ l.length ∧ upSlash l = l.take m ∧ ∀ k c, l[k]? = some c → m ≤ k + 1 → (c = 47 ↔ k + 1 = m) := by
  have hm : (47 : UInt8) ∈ l.reverse := by
    rw [List.mem_reverse]
    exact List.mem_of_mem_head? h
  obtain ⟨a, b, h1, ha⟩ := List.eq_append_cons_of_mem hm
  have h2 : ∀ x ∈ a, x ≠ 47 := fun x hx e => ha (e ▸ hx)
  have e : l = b.reverse ++ 47 :: a.reverse := by
    have := congrArg List.reverse h1
    rw [List.reverse_reverse] at this
    rw [this]; simp
  refine ⟨b.reverse.length + 1, by omega, by rw [e]; simp, ?_, ?_⟩
  · unfold upSlash
    rw [h1, (until_eq (d := 47) (x := a) (r := b) h2).2, e, List.reverse_cons, show b.reverse ++ 47 :: a.reverse = (b.reverse ++ [47]) ++ a.reverse by simp, List.take_left' (by simp)]
  · intro k c hk hle
    rw [e, List.getElem?_append_right (by omega)] at hk
    by_cases hk0 : k = b.reverse.length
    · rw [hk0, Nat.sub_self, List.getElem?_cons_zero] at hk
      exact ⟨fun _ => by omega, fun _ => (Option.some.inj hk).symm⟩
    · obtain ⟨d, hd⟩ : ∃ d, k - b.reverse.length = d + 1 := ⟨k - b.reverse.length - 1, by omega⟩
      rw [hd, List.getElem?_cons_succ] at hk
      have := h2 c (by simpa using List.mem_of_getElem? hk)
      exact ⟨fun e => absurd e this, fun _ => by omega⟩
theorem take_two {l : List UInt8} {c : UInt8} (h : l[0]? = some c) : l.take 2 = [47, 47] ↔ c = 47 ∧ l[1]? = some 47 := by
  match l with
  | [] => simp at h
  | [a] => simp
  | a :: b :: r =>
    simp only [List.getElem?_cons_zero, Option.some.injEq] at h
    subst h
    simp
set_option maxHeartbeats 32000000 in
theorem refResolve5_any (H : ByteArray) (n : Int) (Q s : ByteArray) (hH : H.size ≤ 10000000) (hQ : Q.size ≤ 10000000) (hn0 : -9223372036854775808 ≤ n) (hn1 : n ≤ 9223372036854775807) (hs : s.size ≤ 1000000000) (w : World) :
    Calls Tryd.prog 40 #[.agg #[.string H, .int .i64 n, .string Q], .string s] w fun e w' => e = .returned (.tuple #[.agg (uriC (resolveU ⟨H.data.toList, n, Q.data.toList⟩ s.data.toList).1).toArray, .int .i64 (resolveU ⟨H.data.toList, n, Q.data.toList⟩ s.data.toList).2]) ∧ Below w.heap.size w w' := by
  obtain ⟨U, hU⟩ : ∃ U, resolveU ⟨H.data.toList, n, Q.data.toList⟩ s.data.toList = U := ⟨_, rfl⟩
  rw [hU]
  have hU0 := hU.symm
  unfold resolveU at hU0
  obtain ⟨g2, hg2⟩ : ∃ g, w.heap.size = g := ⟨_, rfl⟩
  obtain ⟨w1, hw1⟩ : ∃ W, w.alloc (.cells #[.string H, .int .i64 n, .string Q] 63) = W := ⟨_, rfl⟩
  obtain ⟨g4, hg4⟩ : ∃ g, w1.heap.size = g := ⟨_, rfl⟩
  obtain ⟨wa, hwa⟩ : ∃ wa, w1.alloc (.cells zeroC.toArray 63) = wa := ⟨_, rfl⟩
  have hlt24 : g2 < g4 := by rw [← hg2, ← hg4, ← hw1]; simp
  have RS : Hid (Res g4 w1 wa) := Lib.hid (by rw [← hwa, ← hg4]; exact Res.start w1)
  have BX := Lib.hid (fun (W : World) (hW : Res g4 w1 W) => (show Below g2 w W from by rw [← hg2]; exact (((Below.refl w.heap.size w).alloc (Nat.le_refl _) _).trans ((by rw [hw1, hg2]; exact hW.below.mono (by omega))))))
  have UX := Lib.hid (fun (W : World) (hW : Res g4 w1 W) => (show RowAt W g2 63 [.string H, .int .i64 n, .string Q] from (by have := RowAt.new w 63 [.string H, .int .i64 n, .string Q]; rw [hg2] at this; rw [show ([.string H, .int .i64 n, .string Q] : List Value).toArray = #[.string H, .int .i64 n, .string Q] from rfl, hw1] at this; exact this.below hW.below hlt24)))
  rw [show zeroC.toArray = #[.string ⟨#[]⟩, .int .i64 0, .string ⟨#[]⟩] from rfl] at hwa
  rw [hg2]
  have RR := fun (W : World) => refRight5_any H n Q hH hQ hn0 hn1 W
  clear hU
  have V0 := UX.out _ RS.out; have u0 := V0.cell (j := 0) rfl; have u1 := V0.cell (j := 1) rfl; have u2 := V0.cell (j := 2) rfl; clear V0
  cases hr : rightU ⟨H.data.toList, n, Q.data.toList⟩ with
  | false =>
    rw [hr] at RR
    rw [if_pos (fun h => by rw [(rightU_iff _).2 h] at hr; cases hr)] at hU0
    have HU := Lib.hid hU0
    replace RR := Lib.hid RR
    clear hr hU0
    go_enter Tryd.func40, Tryd.ntmps40
    go_wp2_with (first
      | (go_at_call 46; refine (RR.out _).mono ?_; rintro e w3 ⟨rfl, hb3⟩; have R3 := Lib.hid (RS.out.step hb3); obtain ⟨cs6, hc6, hr6⟩ := R3.out.row; clear hb3)
      | (refine wpList_store_row rfl 63 _ _ rfl g4 63 [.string ⟨#[]⟩, .int .i64 0, .string ⟨#[]⟩] cs6 rfl rfl hr6 (by rw [hc6]; rfl) (by kernel_rfl) uri_one ?_; intro w9 hq9 ho9; have q0 := hq9.cell (j := 0) rfl; have q1 := hq9.cell (j := 1) rfl; have q2 := hq9.cell (j := 2) rfl))
    exact bodyPost_ret (v := .tuple #[.agg #[.string ⟨#[]⟩, .int .i64 0, .string ⟨#[]⟩], .int .i64 2]) (by simp [results, Tryd.results40, go_sem, q0, q1, q2]) rfl ⟨by rw [HU.out]; rfl, BX.out _ (R3.out.stored ho9 hq9 rfl)⟩
  | true =>
    rw [hr] at RR
    rw [if_neg (fun h => h ((rightU_iff _).1 hr))] at hU0
    replace RR := Lib.hid RR
    have hq47 : Q.data.toList.head? = some 47 := (parseU_normal ((rightU_iff _).1 hr)).1.path.head
    clear hr
    go_enter Tryd.func40, Tryd.ntmps40
    go_upto_region 3 with (go_at_call 46; refine (RR.out _).mono ?_; rintro e w3 ⟨rfl, hb3⟩; have R3 := Lib.hid (RS.out.step hb3); clear hb3)
    clear u0 u1 u2 RS RR hwa hw1 hg2 hg4
    by_cases h8 : 8000 < s.size
    · rw [data_len, if_pos h8] at hU0
      have HU := Lib.hid hU0
      have hI : (8000 : Int) < (s.size : Int) := by omega
      obtain ⟨cs6, hc6, hr6⟩ := R3.out.row
      clear hU0 h8 hq47
      go_wp2_with (refine wpList_store_row rfl 63 _ _ rfl g4 63 [.string ⟨#[]⟩, .int .i64 0, .string ⟨#[]⟩] cs6 rfl rfl hr6 (by rw [hc6]; rfl) (by kernel_rfl) uri_one ?_; intro w9 hq9 ho9; have q0 := hq9.cell (j := 0) rfl; have q1 := hq9.cell (j := 1) rfl; have q2 := hq9.cell (j := 2) rfl)
      exact bodyPost_ret (v := .tuple #[.agg #[.string ⟨#[]⟩, .int .i64 0, .string ⟨#[]⟩], .int .i64 12]) (by simp [results, Tryd.results40, go_sem, q0, q1, q2]) rfl ⟨by rw [HU.out]; rfl, BX.out _ (R3.out.stored ho9 hq9 rfl)⟩
    · rw [data_len, if_neg h8] at hU0
      have hI : (s.size : Int) ≤ 8000 := by omega
      go_upto_region 5 with fail
      by_cases hz : s.data.toList = []
      · rw [if_pos hz] at hU0
        have HU := Lib.hid hU0
        have e0 : (s.toList == []) = true := by rw [beq_iff_eq, ByteArray.toList_eq]; exact hz
        obtain ⟨cs6, hc6, hr6⟩ := R3.out.row
        have V0 := UX.out _ R3.out; have u0 := V0.cell (j := 0) rfl; have u1 := V0.cell (j := 1) rfl; have u2 := V0.cell (j := 2) rfl; clear V0
        clear hU0 hz h8 hq47
        go_wp2_with (refine wpList_store_row rfl 63 _ _ rfl g4 63 [.string H, .int .i64 n, .string Q] cs6 rfl rfl hr6 (by rw [hc6]; rfl) (by kernel_rfl) uri_one ?_; intro w9 hq9 ho9; have q0 := hq9.cell (j := 0) rfl; have q1 := hq9.cell (j := 1) rfl; have q2 := hq9.cell (j := 2) rfl)
        exact bodyPost_ret (v := .tuple #[.agg #[.string H, .int .i64 n, .string Q], .int .i64 0]) (by simp [results, Tryd.results40, go_sem, q0, q1, q2]) rfl ⟨by rw [HU.out]; simp only [uriC, Lib.mk_data], BX.out _ (R3.out.stored ho9 hq9 rfl)⟩
      · rw [if_neg hz] at hU0
        have e0 : (s.toList == []) = false := by rw [beq_eq_false_iff_ne, ByteArray.toList_eq]; exact hz
        have h0s : 0 < s.size := by
          rw [← data_len]
          exact List.length_pos_iff.2 hz
        have BG := fun w => refHttp_any s hs w
        cases hb : begins5 s.data.toList with
        | true =>
          rw [hb] at BG
          rw [if_pos hb] at hU0
          replace BG := Lib.hid BG
          clear hb hz h0s hq47
          go_upto_region 8 with (go_at_call 95; refine (BG.out _).mono ?_; rintro e w4 ⟨rfl, hb4⟩; have R4 := Lib.hid (R3.out.step hb4); clear hb4)
          clear e0
          have PA := fun (W : World) => refParse5_any s (by omega) W
          obtain ⟨J, hJ⟩ : ∃ J, parseU (s).data.toList = J := ⟨_, rfl⟩
          have HUJ : Hid (U = J) := Lib.hid (by rw [hU0, ← hJ])
          rw [hJ] at PA
          obtain ⟨JU, JE⟩ := J
          simp only [uriC] at PA
          replace PA := Lib.hid PA
          clear hJ hU0
          go_wp2_with (first
            | (go_at_call 38; refine (PA.out _).mono ?_; rintro e w8 ⟨rfl, hb8⟩; have R8 := Lib.hid (R4.out.step hb8); obtain ⟨cs6, hc6, hr6⟩ := R8.out.row; clear hb8)
            | (refine wpList_store_row rfl 63 _ _ rfl g4 63 [.string ⟨JU.host.toArray⟩, .int .i64 JU.port, .string ⟨JU.path.toArray⟩] cs6 rfl rfl hr6 (by rw [hc6]; rfl) (by kernel_rfl) uri_one ?_; intro w9 hq9 ho9; have q0 := hq9.cell (j := 0) rfl; have q1 := hq9.cell (j := 1) rfl; have q2 := hq9.cell (j := 2) rfl))
          exact bodyPost_ret (v := .tuple #[.agg #[.string ⟨JU.host.toArray⟩, .int .i64 JU.port, .string ⟨JU.path.toArray⟩], .int .i64 JE]) (by simp [results, Tryd.results40, go_sem, q0, q1, q2]) rfl ⟨by rw [HUJ.out]; rfl, BX.out _ (R8.out.stored ho9 hq9 rfl)⟩
        | false =>
          rw [hb] at BG
          rw [if_neg (by simp [hb])] at hU0
          replace BG := Lib.hid BG
          clear hb hz
          go_upto_region 9 with (go_at_call 95; refine (BG.out _).mono ?_; rintro e w5 ⟨rfl, hb5⟩; have R5 := Lib.hid (R3.out.step hb5); clear hb5)
          clear e0
          obtain ⟨c, hc⟩ : ∃ c, s[0] = c := ⟨_, rfl⟩
          have hg0 := get_data s 0 h0s
          rw [hc] at hg0
          have hd : s.data.toList.head? = some c := by rw [List.head?_eq_getElem?, hg0]
          have h0I : (0 : Int) < (s.size : Int) := by omega
          obtain ⟨b2, hb2⟩ : ∃ b, decide (s.data.toList.take 2 = [47, 47]) = b := ⟨_, rfl⟩
          have HB2 := Lib.hid hb2
          clear hb2
          go_cut [39] from 27 to 39 (fun s39 wx => s39 = .bool b2 ∧ wx = w5)
          case first =>
            by_cases h1 : s.size = 1
            · have hb : b2 = false := by
                rw [← HB2.out, decide_eq_false_iff_not]
                intro h
                have := congrArg List.length h
                rw [List.length_take, data_len] at this
                simp at this
                omega
              have h1I : ¬ ((1 : Int) < (s.size : Int)) := by omega
              clear h1
              go_wp2_with fail
              go_meet
              exact ⟨by rw [hb], rfl⟩
            · have h1s : 1 < s.size := by omega
              have h1I : (1 : Int) < (s.size : Int) := by omega
              by_cases h47 : c = 47
              · obtain ⟨c1, hc1⟩ : ∃ c, s[1] = c := ⟨_, rfl⟩
                have hg1 := get_data s 1 h1s
                rw [hc1] at hg1
                subst h47
                have e47 : (((47 : UInt8).toNat : Int) == 47) = true := by decide
                by_cases h48 : c1 = 47
                · have hb : b2 = true := by rw [← HB2.out, decide_eq_true_eq, take_two hg0, hg1, h48]; exact ⟨rfl, rfl⟩
                  subst h48
                  clear h1
                  go_wp2_with fail
                  go_meet
                  exact ⟨by rw [hb], rfl⟩
                · have hb : b2 = false := by rw [← HB2.out, decide_eq_false_iff_not, take_two hg0, hg1]; rintro ⟨_, h⟩; exact h48 (Option.some.inj h)
                  have e48 : ((c1.toNat : Int) == 47) = false := by rw [byteLit c1 47 47 rfl, beq_eq_false_iff_ne]; intro h; exact h48 (UInt8.toNat_inj.1 h)
                  clear h1
                  go_wp2_with fail
                  go_meet
                  exact ⟨by rw [hb], rfl⟩
              · have hb : b2 = false := by rw [← HB2.out, decide_eq_false_iff_not, take_two hg0]; rintro ⟨h, _⟩; exact h47 h
                have e47 : ((c.toNat : Int) == 47) = false := by rw [byteLit c 47 47 rfl, beq_eq_false_iff_ne]; intro h; exact h47 (UInt8.toNat_inj.1 h)
                clear h1
                go_wp2_with fail
                go_meet
                exact ⟨by rw [hb], rfl⟩
          case rest =>
            obtain ⟨rfl, hwc⟩ := hcut
            subst wc
            cases b2 with
            | true =>
              rw [if_pos (of_decide_eq_true HB2.out)] at hU0
              have hHts : ((⟨#[104, 116, 116, 112, 58]⟩ : ByteArray) ++ s).size = 5 + s.size := by rw [← data_len, append_data, List.length_append, data_len]; rfl
              clear hd hg0
              go_upto_region 10 with fail
              have PA := fun (W : World) => refParse5_any ((⟨#[104, 116, 116, 112, 58]⟩ : ByteArray) ++ s) (by rw [hHts]; omega) W
              obtain ⟨J, hJ⟩ : ∃ J, parseU (((⟨#[104, 116, 116, 112, 58]⟩ : ByteArray) ++ s)).data.toList = J := ⟨_, rfl⟩
              have HUJ : Hid (U = J) := Lib.hid (by rw [hU0, ← hJ, append_data])
              rw [hJ] at PA
              obtain ⟨JU, JE⟩ := J
              simp only [uriC] at PA
              replace PA := Lib.hid PA
              clear hJ hU0
              go_wp2_with (first
                | (go_at_call 38; refine (PA.out _).mono ?_; rintro e w8 ⟨rfl, hb8⟩; have R8 := Lib.hid (R5.out.step hb8); obtain ⟨cs6, hc6, hr6⟩ := R8.out.row; clear hb8)
                | (refine wpList_store_row rfl 63 _ _ rfl g4 63 [.string ⟨JU.host.toArray⟩, .int .i64 JU.port, .string ⟨JU.path.toArray⟩] cs6 rfl rfl hr6 (by rw [hc6]; rfl) (by kernel_rfl) uri_one ?_; intro w9 hq9 ho9; have q0 := hq9.cell (j := 0) rfl; have q1 := hq9.cell (j := 1) rfl; have q2 := hq9.cell (j := 2) rfl))
              exact bodyPost_ret (v := .tuple #[.agg #[.string ⟨JU.host.toArray⟩, .int .i64 JU.port, .string ⟨JU.path.toArray⟩], .int .i64 JE]) (by simp [results, Tryd.results40, go_sem, q0, q1, q2]) rfl ⟨by rw [HUJ.out]; rfl, BX.out _ (R8.out.stored ho9 hq9 rfl)⟩
            | false =>
              rw [if_neg (of_decide_eq_false HB2.out)] at hU0
              have V0 := UX.out _ R5.out; have u0 := V0.cell (j := 0) rfl; have u1 := V0.cell (j := 1) rfl; have u2 := V0.cell (j := 2) rfl; clear V0
              obtain ⟨A, hA⟩ : ∃ A, (Q.data.toList.takeWhile (· != 63)).length = A := ⟨_, rfl⟩
              have hAs : A ≤ Q.size := by rw [← hA, ← data_len]; exact (List.takeWhile_prefix _).length_le
              have hQE := while_end (· != 63) Q.data.toList
              have hwt := while_take (· != 63) Q.data.toList
              rw [hA] at hQE hwt
              have HQE := Lib.hid hQE
              obtain ⟨B, hB⟩ : ∃ B : ByteArray, Q.extract 0 A = B := ⟨_, rfl⟩
              have hBl : B.data.toList = Q.data.toList.takeWhile (· != 63) := by rw [← hB, take_data Q A hAs, ← hwt]
              have hBs : B.size = A := by rw [← data_len, hBl, hA]
              have hB47 : B.data.toList.head? = some 47 := by
                rw [hBl]
                cases hq : Q.data.toList with
                | nil => rw [hq] at hq47; cases hq47
                | cons a r =>
                  rw [hq] at hq47
                  obtain rfl := Option.some.inj hq47
                  rw [List.takeWhile_cons, if_pos (by decide)]
                  rfl
              have hBss : (B ++ s).size = B.size + s.size := by rw [← data_len, append_data, List.length_append, data_len, data_len]
              clear hQE hwt hq47 HB2
              go_upto_block 0 with fail
              go_cut [6, 7] from 47 to 59 (fun s6 _ wx => s6 = .string B ∧ wx = w5)
              case first =>
                clear hBl hB47 hBss hd hg0 hU0 hA
                go_wp2_with fail
                go_loopw [6, 7] (fun s6 s7 wr => wr = w5 ∧ ((∃ k : Nat, k ≤ A ∧ s6 = .string Q ∧ s7 = .int .i64 k) ∨ (s6 = .string B ∧ s7 = .int .i64 ((A : Int) + 1)))) (fun _ s7 _ => A + 1 - (intOf s7).toNat)
                case atStart => exact ⟨by first | rfl | trivial, .inl ⟨0, by omega, rfl, rfl⟩⟩
                case round =>
                  obtain ⟨rfl, hor⟩ := hrel
                  rcases hor with ⟨k, hk, rfl, rfl⟩ | ⟨rfl, rfl⟩
                  · by_cases hkA : k = A
                    · subst hkA
                      have HBB := Lib.hid hB
                      clear hB
                      by_cases hks : k < Q.size
                      · obtain ⟨d, hd2⟩ : ∃ c, Q[k] = c := ⟨_, rfl⟩
                        have h63 : d = 63 := by have := (HQE.out k d (by rw [get_data Q k hks, hd2]) (Nat.le_refl _)).2 rfl; simpa using this
                        subst h63
                        have kI : (k : Int) < (Q.size : Int) := by omega
                        have kI2 : (k : Int) ≤ (Q.size : Int) := by omega
                        have k0 : (0 : Int) ≤ (k : Int) := by omega
                        have e63 : (((63 : UInt8).toNat : Int) == 63) = true := by decide
                        go_wp2_with fail
                        go_roundw
                        case rel => exact ⟨by first | rfl | trivial, .inr ⟨by rw [HBB.out], by go_num⟩⟩
                        case measure => first | (simp [intOf]; done) | (simp [intOf]; omega)
                      · have kI : ¬ ((k : Int) < (Q.size : Int)) := by omega
                        have hBQ : Hid (Q = B) := Lib.hid <| bytes_inj (by rw [← HBB.out, take_data Q k (by omega), List.take_of_length_le (by rw [data_len]; omega)])
                        go_wp2_with fail
                        go_meet
                        exact ⟨by rw [← hBQ.out], rfl⟩
                    · have hks : k < Q.size := by omega
                      obtain ⟨d, hd2⟩ : ∃ c, Q[k] = c := ⟨_, rfl⟩
                      have h63 : d ≠ 63 := fun e => hkA ((HQE.out k d (by rw [get_data Q k hks, hd2]) hk).1 (by simp [e]))
                      have kI : (k : Int) < (Q.size : Int) := by omega
                      have e63 : ((d.toNat : Int) == 63) = false := by rw [byteLit d 63 63 rfl, beq_eq_false_iff_ne]; intro h; exact h63 (UInt8.toNat_inj.1 h)
                      clear h63
                      go_wp2_with fail
                      go_roundw
                      case rel => exact ⟨by first | rfl | trivial, .inl ⟨k + 1, by omega, rfl, by go_num⟩⟩
                      case measure => simp [intOf]; omega
                  · have kI : ¬ ((A : Int) + 1 < (B.size : Int)) := by omega
                    go_wp2_with fail
                    go_meet
                    exact ⟨rfl, rfl⟩
              case rest =>
                obtain ⟨rfl, hwc⟩ := hcut
                subst wc
                clear hB HQE hA
                go_upto_region 17 with fail
                by_cases h47 : c = 47
                · subst h47
                  have e47 : (((47 : UInt8).toNat : Int) == 47) = true := by decide
                  clear hB47 hg0
                  have PA := fun (W : World) => refAt_any H n s (by omega) W
                  obtain ⟨J, hJ⟩ : ∃ J, joinU (some (H.data.toList, n)) (placeL (s).data.toList) = J := ⟨_, rfl⟩
                  have HUJ : Hid (U = J) := Lib.hid (by rw [hU0, if_pos (by rw [hd]), ← hJ])
                  rw [hJ] at PA
                  obtain ⟨JU, JE⟩ := J
                  simp only [uriC] at PA
                  replace PA := Lib.hid PA
                  clear hJ hU0
                  go_wp2_with (first
                    | (go_at_call 97; refine (PA.out _).mono ?_; rintro e w8 ⟨rfl, hb8⟩; have R8 := Lib.hid (R5.out.step hb8); obtain ⟨cs6, hc6, hr6⟩ := R8.out.row; clear hb8)
                    | (refine wpList_store_row rfl 63 _ _ rfl g4 63 [.string ⟨JU.host.toArray⟩, .int .i64 JU.port, .string ⟨JU.path.toArray⟩] cs6 rfl rfl hr6 (by rw [hc6]; rfl) (by kernel_rfl) uri_one ?_; intro w9 hq9 ho9; have q0 := hq9.cell (j := 0) rfl; have q1 := hq9.cell (j := 1) rfl; have q2 := hq9.cell (j := 2) rfl))
                  exact bodyPost_ret (v := .tuple #[.agg #[.string ⟨JU.host.toArray⟩, .int .i64 JU.port, .string ⟨JU.path.toArray⟩], .int .i64 JE]) (by simp [results, Tryd.results40, go_sem, q0, q1, q2]) rfl ⟨by rw [HUJ.out]; rfl, BX.out _ (R8.out.stored ho9 hq9 rfl)⟩
                · have e47 : ((c.toNat : Int) == 47) = false := by rw [byteLit c 47 47 rfl, beq_eq_false_iff_ne]; intro h; exact h47 (UInt8.toNat_inj.1 h)
                  rw [if_neg (by rw [hd]; intro h; exact h47 (Option.some.inj h))] at hU0
                  go_upto_region 19 with fail
                  by_cases h63 : c = 63
                  · subst h63
                    have e63 : (((63 : UInt8).toNat : Int) == 63) = true := by decide
                    clear hB47 hg0
                    have PA := fun (W : World) => refAt_any H n (B ++ s) (by rw [hBss]; omega) W
                    obtain ⟨J, hJ⟩ : ∃ J, joinU (some (H.data.toList, n)) (placeL ((B ++ s)).data.toList) = J := ⟨_, rfl⟩
                    have HUJ : Hid (U = J) := Lib.hid (by rw [hU0, if_pos (by rw [hd]), ← hJ, append_data, hBl])
                    rw [hJ] at PA
                    obtain ⟨JU, JE⟩ := J
                    simp only [uriC] at PA
                    replace PA := Lib.hid PA
                    clear hJ hU0
                    go_wp2_with (first
                      | (go_at_call 97; refine (PA.out _).mono ?_; rintro e w8 ⟨rfl, hb8⟩; have R8 := Lib.hid (R5.out.step hb8); obtain ⟨cs6, hc6, hr6⟩ := R8.out.row; clear hb8)
                      | (refine wpList_store_row rfl 63 _ _ rfl g4 63 [.string ⟨JU.host.toArray⟩, .int .i64 JU.port, .string ⟨JU.path.toArray⟩] cs6 rfl rfl hr6 (by rw [hc6]; rfl) (by kernel_rfl) uri_one ?_; intro w9 hq9 ho9; have q0 := hq9.cell (j := 0) rfl; have q1 := hq9.cell (j := 1) rfl; have q2 := hq9.cell (j := 2) rfl))
                    exact bodyPost_ret (v := .tuple #[.agg #[.string ⟨JU.host.toArray⟩, .int .i64 JU.port, .string ⟨JU.path.toArray⟩], .int .i64 JE]) (by simp [results, Tryd.results40, go_sem, q0, q1, q2]) rfl ⟨by rw [HUJ.out]; rfl, BX.out _ (R8.out.stored ho9 hq9 rfl)⟩
                  · have e63 : ((c.toNat : Int) == 63) = false := by rw [byteLit c 63 63 rfl, beq_eq_false_iff_ne]; intro h; exact h63 (UInt8.toNat_inj.1 h)
                    rw [if_neg (by rw [hd]; intro h; exact h63 (Option.some.inj h))] at hU0
                    cases hsc : schemed s.data.toList with
                    | true =>
                      rw [if_pos hsc] at hU0
                      clear hB47 hBl hBss u0 u1 u2
                      obtain ⟨f, hf1, hf2, hf3⟩ := schemed_at hsc
                      have HF := Lib.hid hf3
                      have HO := Lib.hid (off_end s.data.toList)
                      have HU := Lib.hid hU0
                      rw [data_len] at hf1
                      obtain ⟨cs6, hc6, hr6⟩ := R5.out.row
                      have HN2 := Lib.hid hf2
                      clear hU0 hf2 hf3 hsc hd hg0 h47 h63
                      go_wp2_with fail
                      go_loopw [8] (fun s8 wr => ∃ k : Nat, k ≤ f ∧ s8 = .int .i64 k ∧ wr = w5) (fun s8 _ => f - (intOf s8).toNat)
                      case atStart => exact ⟨0, by omega, rfl, by first | rfl | trivial⟩
                      case round =>
                        obtain ⟨k, hk, rfl, rfl⟩ := hrel
                        have hks : k < s.size := by omega
                        have kI : (k : Int) < (s.size : Int) := by omega
                        by_cases hkf : k = f
                        · subst hkf
                          obtain ⟨d, hd2⟩ : ∃ c, s[k] = c := ⟨_, rfl⟩
                          have h58 : d = 58 := (HF.out k d (by rw [get_data s k hks, hd2]) (Nat.le_refl _)).2 rfl
                          subst h58
                          have e47 : (((58 : UInt8).toNat : Int) != 47) = true := by decide
                          have e63 : (((58 : UInt8).toNat : Int) != 63) = true := by decide
                          have e58 : (((58 : UInt8).toNat : Int) == 58) = true := by decide
                          go_wp2_with (refine wpList_store_row rfl 63 _ _ rfl g4 63 [.string ⟨#[]⟩, .int .i64 0, .string ⟨#[]⟩] cs6 rfl rfl hr6 (by rw [hc6]; rfl) (by kernel_rfl) uri_one ?_; intro w9 hq9 ho9; have q0 := hq9.cell (j := 0) rfl; have q1 := hq9.cell (j := 1) rfl; have q2 := hq9.cell (j := 2) rfl)
                          exact bodyPost_ret (v := .tuple #[.agg #[.string ⟨#[]⟩, .int .i64 0, .string ⟨#[]⟩], .int .i64 10]) (by simp [results, Tryd.results40, go_sem, q0, q1, q2]) rfl ⟨by rw [HU.out]; rfl, BX.out _ (R5.out.stored ho9 hq9 rfl)⟩
                        · obtain ⟨d, hd2⟩ : ∃ c, s[k] = c := ⟨_, rfl⟩
                          have hgd := get_data s k hks
                          rw [hd2] at hgd
                          have h58 : d ≠ 58 := fun e => hkf ((HF.out k d hgd hk).1 e)
                          have hoff : offC d = true := by
                            refine Decidable.byContradiction fun h => ?_
                            have h1 := (HO.out k d hgd (by have := HN2.out; omega)).1 (by simpa using h)
                            have := HN2.out
                            omega
                          have hcc : d ≠ 47 ∧ d ≠ 63 := by
                            unfold offC at hoff
                            simpa using hoff
                          have e47' : ((d.toNat : Int) == 47) = false := by rw [byteLit d 47 47 rfl, beq_eq_false_iff_ne]; intro h; exact hcc.1 (UInt8.toNat_inj.1 h)
                          have e47 : ((d.toNat : Int) != 47) = true := by rw [bne, e47']; rfl
                          have e63' : ((d.toNat : Int) == 63) = false := by rw [byteLit d 63 63 rfl, beq_eq_false_iff_ne]; intro h; exact hcc.2 (UInt8.toNat_inj.1 h)
                          have e63 : ((d.toNat : Int) != 63) = true := by rw [bne, e63']; rfl
                          have e58 : ((d.toNat : Int) == 58) = false := by rw [byteLit d 58 58 rfl, beq_eq_false_iff_ne]; intro h; exact h58 (UInt8.toNat_inj.1 h)
                          clear h58 hoff hcc hgd
                          go_wp2_with fail
                          go_roundw
                          case rel => exact ⟨k + 1, by omega, by go_num, by first | rfl | trivial⟩
                          case measure => simp [intOf]; omega
                    | false =>
                      rw [if_neg (by simp [hsc])] at hU0
                      have HF := Lib.hid (schemed_not hsc)
                      have hO := off_end s.data.toList
                      obtain ⟨N, hN⟩ : ∃ N, (s.data.toList.takeWhile offC).length = N := ⟨_, rfl⟩
                      have hNs : N ≤ s.size := by rw [← hN, ← data_len]; exact (List.takeWhile_prefix _).length_le
                      rw [hN] at HF hO
                      have HO := Lib.hid hO
                      obtain ⟨m, hm1, hm2, hup, hm3⟩ := up_at hB47
                      rw [data_len] at hm2
                      have HM := Lib.hid hm3
                      clear hsc hO hN hm3 hB47 hd hg0 h47 h63
                      go_upto_block 2 with fail
                      go_cut [8] from 84 to 106 (fun _ wx => wx = w5)
                      case first =>
                        clear hup hBl hU0 hBss
                        go_wp2_with fail
                        go_loopw [8] (fun s8 wr => ∃ k : Nat, k ≤ N ∧ s8 = .int .i64 k ∧ wr = w5) (fun s8 _ => N - (intOf s8).toNat)
                        case atStart => exact ⟨0, by omega, rfl, by first | rfl | trivial⟩
                        case round =>
                          obtain ⟨k, hk, rfl, rfl⟩ := hrel
                          by_cases hkN : k = N
                          · subst hkN
                            by_cases hks : k < s.size
                            · obtain ⟨d, hd2⟩ : ∃ c, s[k] = c := ⟨_, rfl⟩
                              have hoff : offC d = false := (HO.out k d (by rw [get_data s k hks, hd2]) (Nat.le_refl _)).2 rfl
                              have kI : (k : Int) < (s.size : Int) := by omega
                              by_cases h47 : d = 47
                              · subst h47
                                have e47 : (((47 : UInt8).toNat : Int) != 47) = false := by decide
                                clear hoff
                                go_wp2_with fail
                                go_meet
                                first | rfl | trivial
                              · have h63 : d = 63 := by
                                  refine Decidable.byContradiction fun h => ?_
                                  have : offC d = true := by simp [offC, h47, h]
                                  rw [this] at hoff
                                  cases hoff
                                subst h63
                                have e47 : (((63 : UInt8).toNat : Int) != 47) = true := by decide
                                have e63 : (((63 : UInt8).toNat : Int) != 63) = false := by decide
                                clear hoff h47
                                go_wp2_with fail
                                go_meet
                                first | rfl | trivial
                            · have kI : ¬ ((k : Int) < (s.size : Int)) := by omega
                              go_wp2_with fail
                              go_meet
                              first | rfl | trivial
                          · have hks : k < s.size := by omega
                            obtain ⟨d, hd2⟩ : ∃ c, s[k] = c := ⟨_, rfl⟩
                            have hgd := get_data s k hks
                            rw [hd2] at hgd
                            have h58 : d ≠ 58 := HF.out k d hgd (by omega)
                            have hoff : offC d = true := by
                              refine Decidable.byContradiction fun h => ?_
                              exact hkN ((HO.out k d hgd hk).1 (by simpa using h))
                            have hcc : d ≠ 47 ∧ d ≠ 63 := by
                              unfold offC at hoff
                              simpa using hoff
                            have kI : (k : Int) < (s.size : Int) := by omega
                            have e47' : ((d.toNat : Int) == 47) = false := by rw [byteLit d 47 47 rfl, beq_eq_false_iff_ne]; intro h; exact hcc.1 (UInt8.toNat_inj.1 h)
                            have e47 : ((d.toNat : Int) != 47) = true := by rw [bne, e47']; rfl
                            have e63' : ((d.toNat : Int) == 63) = false := by rw [byteLit d 63 63 rfl, beq_eq_false_iff_ne]; intro h; exact hcc.2 (UInt8.toNat_inj.1 h)
                            have e63 : ((d.toNat : Int) != 63) = true := by rw [bne, e63']; rfl
                            have e58 : ((d.toNat : Int) == 58) = false := by rw [byteLit d 58 58 rfl, beq_eq_false_iff_ne]; intro h; exact h58 (UInt8.toNat_inj.1 h)
                            clear h58 hoff hcc hgd
                            go_wp2_with fail
                            go_roundw
                            case rel => exact ⟨k + 1, by omega, by go_num, by first | rfl | trivial⟩
                            case measure => simp [intOf]; omega
                      case rest =>
                        have hwc : wc = w5 := hcut
                        subst wc
                        clear HF HO
                        go_upto_block 4 with fail
                        go_cut [9] from 109 to 115 (fun s9 wx => s9 = .int .i64 m ∧ wx = w5)
                        case first =>
                          clear hup hBl hU0 hBss
                          go_wp2_with fail
                          go_loopw [9] (fun s9 wr => ∃ (x : Int) (j : Nat), m ≤ j + 1 ∧ j < B.size ∧ x = (j : Int) + 1 ∧ s9 = .int .i64 x ∧ wr = w5) (fun s9 _ => (intOf s9).toNat)
                          case atStart => exact ⟨_, B.size - 1, by omega, by omega, by omega, rfl, by first | rfl | trivial⟩
                          case round =>
                            obtain ⟨x, j, hj1, hj2, hx, rfl, rfl⟩ := hrel
                            have hx1 : x - 1 = (j : Int) := by omega
                            have hw1 : IntKind.i64.wrap (j : Int) = (j : Int) := IntWalk.i64_in _ ⟨by omega, by omega⟩
                            have jI : (j : Int) < (B.size : Int) := by omega
                            have j0 : (0 : Int) ≤ (j : Int) := by omega
                            obtain ⟨d, hd2⟩ : ∃ c, B[j] = c := ⟨_, rfl⟩
                            have hgd := get_data B j hj2
                            rw [hd2] at hgd
                            have hiff := HM.out j d hgd hj1
                            by_cases hjm : j + 1 = m
                            · have h47 : d = 47 := hiff.2 hjm
                              subst h47
                              have hxm : x = (m : Int) := by omega
                              have e47 : (((47 : UInt8).toNat : Int) != 47) = false := by decide
                              clear hiff hgd
                              go_wp2_with fail
                              go_meet
                              exact ⟨by rw [hxm], rfl⟩
                            · have h47 : d ≠ 47 := fun e => hjm (hiff.1 e)
                              have e47' : ((d.toNat : Int) == 47) = false := by rw [byteLit d 47 47 rfl, beq_eq_false_iff_ne]; intro h; exact h47 (UInt8.toNat_inj.1 h)
                              have e47 : ((d.toNat : Int) != 47) = true := by rw [bne, e47']; rfl
                              clear hiff hgd h47
                              go_wp2_with fail
                              go_roundw
                              case rel => exact ⟨_, j - 1, by omega, by omega, by omega, rfl, by first | rfl | trivial⟩
                              case measure => simp [intOf]; omega
                        case rest =>
                          obtain ⟨rfl, hwc⟩ := hcut
                          subst wc
                          obtain ⟨M, hM⟩ : ∃ M : ByteArray, B.extract 0 m = M := ⟨_, rfl⟩
                          have hMz : M.size ≤ 10000000 := by rw [← hM]; simp; omega
                          have hMs : (M ++ s).size ≤ 100000000 := by rw [← data_len, append_data, List.length_append, data_len, data_len]; omega
                          have PD := fun (W : World) => refAt_any H n (M ++ s) hMs W
                          obtain ⟨J, hJ⟩ : ∃ J, joinU (some (H.data.toList, n)) (placeL (M ++ s).data.toList) = J := ⟨_, rfl⟩
                          have HUJ : Hid (U = J) := Lib.hid (by rw [hU0, ← hJ, append_data, ← hM, take_data B m (by omega), ← hup, hBl])
                          rw [hJ] at PD
                          obtain ⟨JU, JE⟩ := J
                          simp only [uriC] at PD
                          replace PD := Lib.hid PD
                          have mI : (m : Int) ≤ (A : Int) := by omega
                          have mA : m ≤ A := by omega
                          have m0 : (0 : Int) ≤ (m : Int) := by omega
                          clear hJ hU0 hup hMs hBl
                          go_upto_region 29 with fail
                          refine wp_region_plan (fun W => Res g4 w1 W) [(0, true), (1, true), (2, true), (3, true), (4, true), (5, true), (6, true), (7, true), (8, true), (9, false), (10, true), (11, true), (12, false), (13, true)] (by kernel_rfl) (by kernel_rfl) rfl (by kernel_rfl) (R5.out.drewN 1) ?_
                          intro w1 hH
                          iterate 8
                            refine plan_take (v := ?_) rfl (by rfl) ?_ ?_
                            rotate_left
                            · intro w2 hSw
                              have z0 := (UX.out _ hSw).cell (j := 0) rfl
                              have z1 := (UX.out _ hSw).cell (j := 1) rfl
                              have z2 := (UX.out _ hSw).cell (j := 2) rfl
                              clear hSw
                              go_simp
                              try with_reducible rfl
                            try simp only [Act.put, List.setIfInBounds_toArray, List.set_cons_zero, List.set_cons_succ]
                          iterate 1
                            refine plan_add rfl (by rfl) _ _ _ _ rfl _ _ (by rfl) (by rfl) (by first | omega | (simp [mk_size]; omega)) ?_
                            try simp only [Act.put, List.setIfInBounds_toArray, List.set_cons_zero, List.set_cons_succ]
                          refine plan_move rfl (by rfl) (fun K hK => ?_)
                          go_simp
                          (with_reducible refine (PD.out _).mono ?_)
                          rintro e w8 ⟨rfl, hb8⟩
                          refine hK.out _ _ (hH.out.step hb8) ?_
                          clear hH hK hb8 K
                          intro hH
                          try simp only [Act.put, List.setIfInBounds_toArray, List.set_cons_zero, List.set_cons_succ]
                          iterate 2
                            refine plan_take (v := ?_) rfl (by rfl) ?_ ?_
                            rotate_left
                            · intro w2 hSw
                              have z0 := (UX.out _ hSw).cell (j := 0) rfl
                              have z1 := (UX.out _ hSw).cell (j := 1) rfl
                              have z2 := (UX.out _ hSw).cell (j := 2) rfl
                              clear hSw
                              go_simp
                              try with_reducible rfl
                            try simp only [Act.put, List.setIfInBounds_toArray, List.set_cons_zero, List.set_cons_succ]
                          refine plan_move rfl (by rfl) (fun K hK => ?_)
                          obtain ⟨cs9, hc9, hr9⟩ := hH.out.row
                          refine wp_store_row 63 _ _ rfl g4 63 [.string ⟨JU.host.toArray⟩, .int .i64 JU.port, .string ⟨JU.path.toArray⟩] cs9 rfl rfl hr9 (by rw [hc9]; rfl) (by kernel_rfl) uri_one ?_
                          intro w9 hq9 ho9
                          refine hK.out _ _ (hH.out.stored ho9 hq9 rfl) ?_
                          have HQ9 := Lib.hid hq9
                          have HB9 := Lib.hid (BX.out _ (hH.out.stored ho9 hq9 rfl))
                          clear hH hK K hq9 ho9 hc9 hr9
                          intro hH
                          try simp only [Act.put]
                          iterate 1
                            refine plan_take (v := ?_) rfl (by rfl) ?_ ?_
                            rotate_left
                            · intro w2 hSw
                              have z0 := (UX.out _ hSw).cell (j := 0) rfl
                              have z1 := (UX.out _ hSw).cell (j := 1) rfl
                              have z2 := (UX.out _ hSw).cell (j := 2) rfl
                              clear hSw
                              go_simp
                              try with_reducible rfl
                            try simp only [Act.put, List.setIfInBounds_toArray, List.set_cons_zero, List.set_cons_succ]
                          refine plan_done ?_
                          have q0 := HQ9.out.cell (j := 0) rfl
                          have q1 := HQ9.out.cell (j := 1) rfl
                          have q2 := HQ9.out.cell (j := 2) rfl
                          go_wp2_with fail
                          exact bodyPost_ret (v := .tuple #[.agg #[.string ⟨JU.host.toArray⟩, .int .i64 JU.port, .string ⟨JU.path.toArray⟩], .int .i64 JE]) (by simp [results, Tryd.results40, go_sem, q0, q1, q2]) rfl ⟨by rw [HUJ.out]; rfl, HB9.out⟩
end Go.Proofs.YtaddefjkjlkjnaaDoor
