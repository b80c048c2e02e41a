/- Kf: several texts, one behind the other. -/
import Derived.Test.YtclgkkencpkjpaaGreatDoorKg
import Derived.Test.YtclgkkencpkjpaaGreatDoorKe
import Derived.Test.YtclgkkencpkjpaaGreatDoorMt
/- Layer 26: icehouseref26.Kept: what a log keeps. Condition: at most 1000 lines, keys of at most 10^6 octets. -/
namespace IH
theorem keptL_take (ls : List (Int × List UInt8)) (i : Nat) (l : Int × List UInt8) (h : ls[i]? = some l) : keptL (ls.take (i + 1)) = keptStep (keptL (ls.take i)) l := by
  rw [List.take_add_one, h]
  exact keptL_snoc _ _
theorem keptL_len (ls : List (Int × List UInt8)) : (keptL ls).length ≤ ls.length := by
  have key : ∀ (ls : List (Int × List UInt8)) (O : List (List UInt8)), (ls.foldl keptStep O).length ≤ O.length + ls.length := by
    intro ls
    induction ls with
    | nil => intro O; simp
    | cons l ls ih =>
      intro O
      have h1 := ih (keptStep O l)
      have h2 := keptStep_length O l
      simp only [List.foldl_cons, List.length_cons]
      omega
  simpa [keptL] using key ls []
theorem keptStep_mem {O : List (List UInt8)} {l : Int × List UInt8} {y : List UInt8} (h : y ∈ keptStep O l) : y ∈ O ∨ y = l.2 := by
  unfold keptStep at h
  split at h
  · rcases List.mem_append.1 h with h | h
    · exact .inl (List.mem_of_mem_take h)
    · rcases List.mem_cons.1 h with h | h
      · exact .inr h
      · exact .inl (List.mem_of_mem_drop h)
  · split at h
    · rcases List.mem_append.1 h with h | h
      · exact .inl (List.mem_of_mem_take h)
      · exact .inl (List.mem_of_mem_drop h)
    · exact .inl h
theorem keptL_mem {ls : List (Int × List UInt8)} {y : List UInt8} (h : y ∈ keptL ls) : ∃ l ∈ ls, y = l.2 := by
  have key : ∀ (ls : List (Int × List UInt8)) (O : List (List UInt8)), y ∈ ls.foldl keptStep O → y ∈ O ∨ ∃ l ∈ ls, y = l.2 := by
    intro ls
    induction ls with
    | nil => intro O h; exact .inl h
    | cons l ls ih =>
      intro O h
      rcases ih _ h with h | ⟨l', h1, h2⟩
      · rcases keptStep_mem h with h | h
        · exact .inl h
        · exact .inr ⟨l, by simp, h⟩
      · exact .inr ⟨l', by simp [h1], h2⟩
  rcases key ls [] h with h | h
  · cases h
  · exact h
/-- What a line does, by its kind, where the place is known. -/
theorem keptStep_put {O : List (List UInt8)} {kd : Int} {x : List UInt8} {p : Nat} (hp : placeB O x = p) (h1 : kd = 1) (h2 : O[p]? ≠ some x) : keptStep O (kd, x) = O.take p ++ x :: O.drop p := by
  unfold keptStep
  rw [hp, if_pos ⟨h1, h2⟩]
theorem keptStep_cut {O : List (List UInt8)} {kd : Int} {x : List UInt8} {p : Nat} (hp : placeB O x = p) (h1 : kd = 3 ∨ kd = 4) (h2 : O[p]? = some x) : keptStep O (kd, x) = O.take p ++ O.drop (p + 1) := by
  unfold keptStep
  rw [hp, if_neg (fun h => h.2 h2), if_pos ⟨h1, h2⟩]
theorem keptStep_none {O : List (List UInt8)} {kd : Int} {x : List UInt8} {p : Nat} (hp : placeB O x = p) (h1 : ¬ (kd = 1 ∧ O[p]? ≠ some x)) (h2 : ¬ ((kd = 3 ∨ kd = 4) ∧ O[p]? = some x)) : keptStep O (kd, x) = O := by
  unfold keptStep
  rw [hp, if_neg h1, if_neg h2]
end IH
namespace Go.Proofs.YtclgkkencpkjpaaGreatDoor
open Go.RowKit IH
set_option maxRecDepth 100000
def pairsL (LS : List LogL) : List (Int × List UInt8) := LS.map LogL.pair
theorem pairsL_take (LS : List LogL) (i : Nat) : (pairsL LS).take i = pairsL (LS.take i) := by simp [pairsL, List.map_take]
theorem pairs_step {LS : List LogL} {i : Nat} {l : LogL} (h : LS[i]? = some l) : keptL (pairsL (LS.take (i + 1))) = keptStep (keptL (pairsL (LS.take i))) (l.kind, l.key) := by
  rw [← pairsL_take, ← pairsL_take]
  exact keptL_take _ _ _ (by simp [pairsL, h, LogL.pair])
theorem kept_small {LS : List LogL} {M : Nat} (h : ∀ l ∈ LS, l.key.length ≤ M) (i : Nat) : ∀ y ∈ keptL (pairsL (LS.take i)), y.length ≤ M := by
  intro y hy
  obtain ⟨l, h1, rfl⟩ := keptL_mem hy
  obtain ⟨l', h2, rfl⟩ := List.mem_map.1 h1
  exact h l' (List.mem_of_mem_take h2)
/-- A text of such a slice. -/
theorem str_cell {w : World} {B n c : Nat} {A : Option Addr} {L : List (List UInt8)} (h : SliceIn w B 1 A n c (strsV L)) {i : Nat} {x : List UInt8} (hx : L[i]? = some x) : ∃ b o, A = some ⟨b, o, none⟩ ∧ b < B ∧ w.cell? ⟨b, o + i, none⟩ = some (.string ⟨x.toArray⟩) := by
  have hi := (List.getElem?_eq_some_iff.1 hx).1
  have hl := h.1
  rw [strsV_length] at hl
  obtain ⟨b, o, hA, hb, hc⟩ := h.2.2.2 (by omega)
  exact ⟨b, o, hA, hb, hc i _ (by rw [strsV_get, hx]; rfl)⟩
theorem wpList_slice_h {P : Program} {w : World} {ops : Array Oper} {rest : List Oper} {o : Oper} {a : Act} {Q : Exit → Act → World → Prop} (hgd : o.guard = none) (t e : TypeId) (s hi : Operand) (ho : o.op = .slice t s none (some hi) none)
    (ht : P.underlying t = some (.slice e)) (hsz : (P.info? e).map (·.size) = some 1) (A : Option Addr) (n c h : Nat) (hs : a.eval s = .slice A n c) (hhi : a.eval hi = .int .i64 h) (h2 : h ≤ c)
    (hK : wpList P ops Q rest (a.put o.dst (.slice (sliceA A c 0) h c)) w) : wpList P ops Q (o :: rest) a w := by
  refine wpList_plain hgd fun K hK' => ?_
  have hel : P.elem t = e := by simp [Program.elem, ht]
  have hszE : (sizeOf (P.elem t)).run P w = .ok 1 w := by
    rw [hel]
    cases hq : P.info? e with
    | none => rw [hq] at hsz; simp at hsz
    | some i =>
      rw [hq] at hsz
      simp only [Option.map_some, Option.some.injEq] at hsz
      simp [sizeOf, typeInfo, hq, hsz]
  have hrun := run_slice_h (P := P) (w := w) t A n c (by rw [hel]; exact ht) .i64 (h : Int) (by omega) (by omega)
  have hat := run_sliceAt_slice (P := P) (w := w) t (.slice A n c) none (some (.int .i64 h)) none (by rw [hel]; exact ht)
  unfold Oper.wp execOp
  simp only [ho, hs, hhi, Option.map_some, Option.map_none, Sem.run_bind, Sem.run_pure, Result.andThen_ok, hat, hrun, hszE]
  exact hK' _ _ hK
theorem sliceA_zero (A : Option Addr) (c b o : Nat) (h : A = some ⟨b, o, none⟩) : sliceA A c 0 = A := by
  subst h
  unfold sliceA
  split
  · rfl
  · simp [add_plain]
theorem str_take {w : World} {B n c : Nat} {A : Option Addr} {L : List (List UInt8)} (h : SliceIn w B 1 A n c (strsV L)) {k : Nat} (hk : k ≤ n) : SliceIn w B 1 (sliceA A c 0) k c (strsV (L.take k)) := by
  have hl : L.length = n := by have := h.1; rw [strsV_length] at this; omega
  refine ⟨by rw [strsV_length, List.length_take]; omega, by have := h.2.1; omega, h.2.2.1, fun h0 => ?_⟩
  obtain ⟨b, o, hA, hb, hc⟩ := h.2.2.2 (by omega)
  refine ⟨b, o, by rw [sliceA_zero A c b o hA, hA], hb, fun j u hu => hc j u ?_⟩
  rw [strsV_get] at hu ⊢
  rw [List.getElem?_take] at hu
  split at hu
  · exact hu
  · simp at hu
theorem str_drop {w : World} {B n c : Nat} {A : Option Addr} {L : List (List UInt8)} (h : SliceIn w B 1 A n c (strsV L)) {k : Nat} (hk : k ≤ n) : SliceIn w B 1 (sliceA A c k) (n - k) (c - k) (strsV (L.drop k)) := by
  have hl : L.length = n := by have := h.1; rw [strsV_length] at this; omega
  have h0 := h.sub (a := k) (b := n) hk (Nat.le_refl _) (sliceA A c k) (fun hlt => by unfold sliceA; rw [if_neg (by have := h.2.1; omega)])
  rw [Nat.mul_one, Nat.mul_one] at h0
  have e : ((strsV L).drop k).take (n - k) = strsV (L.drop k) := by
    simp only [strsV, ← List.map_drop]
    rw [List.take_of_length_le (by simp [hl])]
  rw [e] at h0
  exact h0
set_option maxHeartbeats 32000000 in
theorem rkept26_any (A : Option Addr) (n c : Nat) (LS : List LogL) (w : World) (hin : SliceIn w w.heap.size 3 A n c (logsV LS)) (hn : n ≤ 1000) (hk : ∀ l ∈ LS, l.key.length ≤ 1000000) :
    Calls Tryz.prog 31 #[.slice A n c] w fun e w' => ∃ A' n' c', e = .returned (.slice A' n' c') ∧ SliceIn w' w'.heap.size 1 A' n' c' (strsV (keptL (pairsL LS))) ∧ Below w.heap.size w w' := by
  have hL := log_count hin
  have hn9 : (n : Int) ≤ 9223372036854775807 := by omega
  have HL := Lib.hid hL
  have Hn := Lib.hid hn
  have Hin := Lib.hid hin
  have HK := Lib.hid hk
  clear hin hn hk hL
  go_enter Tryz.func31, Tryz.ntmps31
  go_wp2
  go_loopw [3, 4] (fun ov iv wr => ∃ (i m : Nat) (A' : Option Addr) (c' : Nat), iv = .int .i64 i ∧ i ≤ n ∧ ov = .slice A' m c' ∧ m ≤ i ∧ SliceIn wr wr.heap.size 1 A' m c' (strsV (keptL (pairsL (LS.take i)))) ∧ Below w.heap.size w wr) (fun _ iv _ => n - (intOf iv).toNat)
  case atStart => exact ⟨0, 0, none, 0, rfl, Nat.zero_le _, rfl, Nat.le_refl _, by simpa [pairsL, keptL, strsV] using SliceIn.none_ (by simp [maxLen]), Below.refl _ _⟩
  case round =>
    obtain ⟨wq, hwq⟩ : ∃ x : World, x = wr := ⟨_, rfl⟩
    subst hwq
    obtain ⟨i, m, A', c', rfl, hi, rfl, hmi, hin, hbq⟩ := hrel
    have Bq := Lib.hid hbq
    clear hbq
    by_cases hlt : i < n
    · obtain ⟨l, hl⟩ : ∃ l, LS[i]? = some l := ⟨_, List.getElem?_eq_getElem (by rw [HL.out]; exact hlt)⟩
      have hstep := pairs_step hl
      have hsm := kept_small HK.out i
      have hkl := HK.out l (List.mem_of_getElem? hl)
      obtain ⟨O, hO⟩ : ∃ O, keptL (pairsL (LS.take i)) = O := ⟨_, rfl⟩
      rw [hO] at hin hstep hsm
      have hml : O.length = m := by have := hin.1; rw [strsV_length] at this; omega
      have hmc := hin.2.1
      have hcm := hin.2.2.1
      obtain ⟨b, o, hA, hb, x0, x1, -⟩ := log_at Hin.out hl
      obtain ⟨key, hkey⟩ : ∃ key, l.key = key := ⟨_, rfl⟩
      obtain ⟨kd, hkd⟩ : ∃ kd, l.kind = kd := ⟨_, rfl⟩
      rw [hkey] at hstep hkl x1
      rw [hkd] at hstep x0
      obtain ⟨p, hp⟩ : ∃ p, placeB O key = p := ⟨_, rfl⟩
      obtain ⟨p1, p2⟩ := placeB_split O key
      have hpm : p ≤ m := by rw [← hp, ← hml]; exact List.Sublist.length_le (List.takeWhile_sublist _)
      rw [hp] at p1 p2
      have hib : (i : Int) < (n : Int) := by omega
      have hm9 : (m : Int) ≤ 9223372036854775807 := by omega
      subst hA
      have HX := Lib.hid (And.intro ((Bq.out.cell (p := ⟨b, o + i * 3, none⟩) hb).trans x0) ((Bq.out.cell (p := ⟨b, o + i * 3 + 1, none⟩) hb).trans x1))
      have IN := Lib.hid hin
      have HST := Lib.hid hstep
      have HSM := Lib.hid hsm
      have HKL := Lib.hid hkl
      have P1 := Lib.hid p1
      have P2 := Lib.hid p2
      have HP := Lib.hid hp
      have HML := Lib.hid hml
      have HCM := Lib.hid hcm
      have HMC := Lib.hid hmc
      have HMI := Lib.hid hmi
      have HB := Lib.hid hb
      clear x0 x1 hl hO hkey hkd hin hstep hsm hkl p1 p2 hp hml hcm hmc hmi hb
      go_upto_block 2 with fail
      go_cut [5] from 8 to 98 (fun s5 wx => s5 = .int .i64 (p : Int) ∧ ∃ q, wx = wq.drewN q)
      case first =>
        go_wp2_with fail
        go_loopw [5] (fun kv wr => ∃ k : Nat, kv = .int .i64 k ∧ k ≤ p ∧ ∃ q, wr = wq.drewN q) (fun kv _ => p - (intOf kv).toNat)
        case atStart => exact ⟨0, rfl, Nat.zero_le _, 0, rfl⟩
        case round =>
          obtain ⟨wz, hwz⟩ : ∃ x : World, x = wr := ⟨_, rfl⟩
          subst hwz
          obtain ⟨k, rfl, hkp, qz, hqz⟩ := hrel
          have HQ := Lib.hid hqz
          clear hqz
          have ci0 : ∀ q, (wz.drewN q).cell? ⟨b, o + i * 3 + 1, none⟩ = some (.string ⟨key.toArray⟩) := fun q => by rw [HQ.out]; exact HX.out.2
          have CI := Lib.hid ci0
          clear ci0
          by_cases hk : k < p
          · have hkm : k < m := by omega
            obtain ⟨y, hy⟩ : ∃ y, O[k]? = some y := ⟨_, List.getElem?_eq_getElem (by rw [HML.out]; exact hkm)⟩
            obtain ⟨b2, o2, hA2, hb2, y0⟩ := str_cell IN.out hy
            have hless : lessB y key = true := P1.out y (List.mem_of_getElem? (show (O.take p)[k]? = some y by rw [List.getElem?_take, if_pos hk]; exact hy))
            have LS := Lib.hid (fun (W : World) => (rless_any ⟨y.toArray⟩ ⟨key.toArray⟩ (by rw [size_mk]; have := HSM.out y (List.mem_of_getElem? hy); omega) (by rw [size_mk]; have := HKL.out; omega) W))
            rw [show (⟨y.toArray⟩ : ByteArray).data.toList = y from rfl, show (⟨key.toArray⟩ : ByteArray).data.toList = key from rfl, hless] at LS
            have CY : Hid (∀ q, (wz.drewN q).cell? ⟨b2, o2 + k, none⟩ = some (.string ⟨y.toArray⟩)) := Lib.hid (fun q => by rw [HQ.out]; exact y0)
            have hkI : (k : Int) < (m : Int) := by omega
            subst hA2
            clear hy y0 hless hb2
            go_upto_region 6 with fail
            refine wp_region_plan (fun W => W.cell? ⟨b, o + i * 3 + 1, none⟩ = some (.string ⟨key.toArray⟩) ∧ W.cell? ⟨b2, o2 + k, none⟩ = some (.string ⟨y.toArray⟩) ∧ ∃ q, W = wz.drewN q) [(0, true), (1, true), (2, true), (3, true), (4, true), (5, true), (6, true), (7, true), (8, true), (9, true), (10, true), (11, true), (12, true), (13, true), (14, false), (15, true)] (by kernel_rfl) (by kernel_rfl) rfl (by kernel_rfl) (⟨CI.out 1, CY.out 1, 1, rfl⟩) ?_
            intro w1 hH
            iterate 14
              refine plan_take (v := ?_) rfl (by rfl) ?_ ?_
              rotate_left
              · intro w2 hSw
                have x1 := hSw.1
                have y1 := hSw.2.1
                clear hSw
                go_simp
                try with_reducible rfl
              try simp only [Act.put, List.setIfInBounds_toArray, List.set_cons_zero, List.set_cons_succ]
            refine plan_move rfl (by rfl) (fun K hK => ?_)
            go_simp
            (with_reducible refine (LS.out _).mono ?_)
            rintro e w5 ⟨rfl, q5, rfl⟩
            refine hK.out _ _ (⟨hH.out.1, hH.out.2.1, by obtain ⟨q9, h9⟩ := hH.out.2.2; exact ⟨q9 + q5, by rw [h9, World.drewN_drewN]⟩⟩) ?_
            clear hK K
            have hH2 := hH.out
            clear hH
            intro hH
            try simp only [Act.put, List.setIfInBounds_toArray, List.set_cons_zero, List.set_cons_succ]
            iterate 1
              refine plan_take (v := ?_) rfl (by rfl) ?_ ?_
              rotate_left
              · intro w2 hSw
                have x1 := hSw.1
                have y1 := hSw.2.1
                clear hSw
                go_simp
                try with_reducible rfl
              try simp only [Act.put, List.setIfInBounds_toArray, List.set_cons_zero, List.set_cons_succ]
            refine plan_done ?_
            obtain ⟨q9, hq9⟩ := hH2.2.2
            go_wp2_with fail
            go_roundw
            case rel => exact ⟨k + 1, by go_num, by omega, qz + (q9 + q5), by rw [HQ.out, World.drewN_drewN]⟩
            case measure => simp [intOf]; omega
          · obtain rfl : k = p := by omega
            go_upto_region 6 with fail
            go_cut [29] from 14 to 31 (fun s29 wx => s29 = .bool false ∧ ∃ q, wx = wz.drewN q)
            case first =>
              by_cases hkm : k < m
              · obtain ⟨y, hy⟩ : ∃ y, O[k]? = some y := ⟨_, List.getElem?_eq_getElem (by rw [HML.out]; exact hkm)⟩
                obtain ⟨b2, o2, hA2, hb2, y0⟩ := str_cell IN.out hy
                have hless : lessB y key = false := P2.out y hy
                have LS := Lib.hid (fun (W : World) => (rless_any ⟨y.toArray⟩ ⟨key.toArray⟩ (by rw [size_mk]; have := HSM.out y (List.mem_of_getElem? hy); omega) (by rw [size_mk]; have := HKL.out; omega) W))
                rw [show (⟨y.toArray⟩ : ByteArray).data.toList = y from rfl, show (⟨key.toArray⟩ : ByteArray).data.toList = key from rfl, hless] at LS
                have CY : Hid (∀ q, (wz.drewN q).cell? ⟨b2, o2 + k, none⟩ = some (.string ⟨y.toArray⟩)) := Lib.hid (fun q => by rw [HQ.out]; exact y0)
                have hkI : (k : Int) < (m : Int) := by omega
                subst hA2
                clear hy y0 hless hb2
                refine wp_region_plan (fun W => W.cell? ⟨b, o + i * 3 + 1, none⟩ = some (.string ⟨key.toArray⟩) ∧ W.cell? ⟨b2, o2 + k, none⟩ = some (.string ⟨y.toArray⟩) ∧ ∃ q, W = wz.drewN q) [(0, true), (1, true), (2, true), (3, true), (4, true), (5, true), (6, true), (7, true), (8, true), (9, true), (10, true), (11, true), (12, true), (13, true), (14, false), (15, true)] (by kernel_rfl) (by kernel_rfl) rfl (by kernel_rfl) (⟨CI.out 1, CY.out 1, 1, rfl⟩) ?_
                intro w1 hH
                iterate 14
                  refine plan_take (v := ?_) rfl (by rfl) ?_ ?_
                  rotate_left
                  · intro w2 hSw
                    have x1 := hSw.1
                    have y1 := hSw.2.1
                    clear hSw
                    go_simp
                    try with_reducible rfl
                  try simp only [Act.put, List.setIfInBounds_toArray, List.set_cons_zero, List.set_cons_succ]
                refine plan_move rfl (by rfl) (fun K hK => ?_)
                go_simp
                (with_reducible refine (LS.out _).mono ?_)
                rintro e w5 ⟨rfl, q5, rfl⟩
                refine hK.out _ _ (⟨hH.out.1, hH.out.2.1, by obtain ⟨q9, h9⟩ := hH.out.2.2; exact ⟨q9 + q5, by rw [h9, World.drewN_drewN]⟩⟩) ?_
                clear hK K
                have hH2 := hH.out
                clear hH
                intro hH
                try simp only [Act.put, List.setIfInBounds_toArray, List.set_cons_zero, List.set_cons_succ]
                iterate 1
                  refine plan_take (v := ?_) rfl (by rfl) ?_ ?_
                  rotate_left
                  · intro w2 hSw
                    have x1 := hSw.1
                    have y1 := hSw.2.1
                    clear hSw
                    go_simp
                    try with_reducible rfl
                  try simp only [Act.put, List.setIfInBounds_toArray, List.set_cons_zero, List.set_cons_succ]
                refine plan_done ?_
                obtain ⟨q9, hq9⟩ := hH2.2.2
                go_wp2_with fail
                go_meet
                first | exact ⟨rfl, _, rfl⟩ | exact ⟨rfl, q9 + q5, by rw [hq9, World.drewN_drewN]⟩
              · have hkI : ¬ ((k : Int) < (m : Int)) := by omega
                refine wp_region_plan (fun W => ∃ q, W = wz.drewN q) [(0, true), (1, true), (2, true), (3, true), (4, true), (5, true), (6, true), (7, true), (8, true), (9, true), (10, true), (11, true), (12, true), (13, true), (14, false), (15, true)] (by kernel_rfl) (by kernel_rfl) rfl (by kernel_rfl) (⟨1, rfl⟩) ?_
                intro w1 hH
                iterate 5
                  refine plan_take (v := ?_) rfl (by rfl) ?_ ?_
                  rotate_left
                  · intro w2 hSw
                    clear hSw
                    go_simp
                    try with_reducible rfl
                  try simp only [Act.put, List.setIfInBounds_toArray, List.set_cons_zero, List.set_cons_succ]
                iterate 9
                  refine plan_skip rfl (by rfl) ?_
                  try simp only [Act.put, List.setIfInBounds_toArray, List.set_cons_zero, List.set_cons_succ]
                refine plan_skipM rfl (by rfl) hH.out ?_
                try simp only [Act.put, List.setIfInBounds_toArray, List.set_cons_zero, List.set_cons_succ]
                iterate 1
                  refine plan_take (v := ?_) rfl (by rfl) ?_ ?_
                  rotate_left
                  · intro w2 hSw
                    clear hSw
                    go_simp
                    try with_reducible rfl
                  try simp only [Act.put, List.setIfInBounds_toArray, List.set_cons_zero, List.set_cons_succ]
                refine plan_done ?_
                obtain ⟨q9, hq9⟩ := hH.out
                go_wp2_with fail
                go_meet
                exact ⟨rfl, _, rfl⟩
            case rest =>
              obtain ⟨rfl, q9, rfl⟩ := hcut
              go_wp2_with fail
              go_meet
              obtain ⟨q7, h7⟩ : ∃ q, wz = wq.drewN q := ⟨_, HQ.out⟩
              exact ⟨rfl, qz + q9, by rw [HQ.out, World.drewN_drewN]⟩
      case rest =>
        obtain ⟨rfl, qc, rfl⟩ := hcut
        have Bc := Lib.hid (below_drewN Bq.out qc)
        obtain ⟨w0, hw0⟩ : ∃ W : World, wq.drewN qc = W := ⟨_, rfl⟩
        have B0 : Hid (Below w.heap.size w w0) := Lib.hid (by rw [← hw0]; exact Bc.out)
        have IN0 : Hid (SliceIn w0 w0.heap.size 1 A' m c' (strsV O)) := Lib.hid (by rw [← hw0]; exact IN.out)
        have X0 : Hid (w0.cell? ⟨b, o + i * 3, none⟩ = some (.int .i64 kd) ∧ w0.cell? ⟨b, o + i * 3 + 1, none⟩ = some (.string ⟨key.toArray⟩)) := Lib.hid (by rw [← hw0]; exact HX.out)
        rw [hw0]
        clear hw0 Bc IN HX
        obtain ⟨th, hth⟩ : ∃ x, decide (O[p]? = some key) = x := ⟨_, rfl⟩
        have HTH := Lib.hid hth
        clear hth
        go_upto_region 8 with fail
        go_cut [6] from 8 to 98 (fun s6 wx => s6 = .bool th ∧ wx = w0.drew)
        case first =>
          by_cases hkm : p < m
          · obtain ⟨y, hy⟩ : ∃ y, O[p]? = some y := ⟨_, List.getElem?_eq_getElem (by rw [HML.out]; exact hkm)⟩
            obtain ⟨b2, o2, hA2, hb2, y0⟩ := str_cell IN0.out hy
            have hTe : Hid ((y == key) = th) := Lib.hid (by
              rw [← HTH.out, hy, Bool.eq_iff_iff, beq_iff_eq, decide_eq_true_eq]
              simp)
            have hkI : (p : Int) < (m : Int) := by omega
            have x1 := X0.out.2
            subst hA2
            clear hy hb2
            refine wp_region_plan (fun W => W = w0.drew) [(0, true), (1, true), (2, true), (3, true), (4, true), (5, true), (6, true), (7, true), (8, true), (9, true), (10, true), (11, true), (12, true), (13, true), (14, true), (15, true), (16, true)] (by kernel_rfl) (by kernel_rfl) rfl (by kernel_rfl) (rfl) ?_
            intro w1 hH
            iterate 17
              refine plan_take (v := ?_) rfl (by rfl) ?_ ?_
              rotate_left
              · intro w2 hSw
                rw [hSw]
                have x1' : w0.drew.cell? ⟨b, o + i * 3 + 1, none⟩ = some (.string ⟨key.toArray⟩) := x1
                have y1 : w0.drew.cell? ⟨b2, o2 + p, none⟩ = some (.string ⟨y.toArray⟩) := y0
                clear hSw
                go_simp
                try with_reducible rfl
              try simp only [Act.put, List.setIfInBounds_toArray, List.set_cons_zero, List.set_cons_succ]
            refine plan_done ?_
            have hW := hH.out
            subst hW
            go_wp2_with fail
            go_meet
            exact ⟨by rw [hTe.out], rfl⟩
          · have hkI : ¬ ((p : Int) < (m : Int)) := by omega
            have hf : th = false := by
              rw [← HTH.out, decide_eq_false_iff_not, List.getElem?_eq_none (by rw [HML.out]; omega)]
              simp
            subst hf
            refine wp_region_plan (fun W => W = w0.drew) [(0, true), (1, true), (2, true), (3, true), (4, true), (5, true), (6, true), (7, true), (8, true), (9, true), (10, true), (11, true), (12, true), (13, true), (14, true), (15, true), (16, true)] (by kernel_rfl) (by kernel_rfl) rfl (by kernel_rfl) (rfl) ?_
            intro w1 hH
            iterate 5
              refine plan_take (v := ?_) rfl (by rfl) ?_ ?_
              rotate_left
              · intro w2 hSw
                clear hSw
                go_simp
                try with_reducible rfl
              try simp only [Act.put, List.setIfInBounds_toArray, List.set_cons_zero, List.set_cons_succ]
            iterate 10
              refine plan_skip rfl (by rfl) ?_
              try simp only [Act.put, List.setIfInBounds_toArray, List.set_cons_zero, List.set_cons_succ]
            iterate 2
              refine plan_take (v := ?_) rfl (by rfl) ?_ ?_
              rotate_left
              · intro w2 hSw
                clear hSw
                go_simp
                try with_reducible rfl
              try simp only [Act.put, List.setIfInBounds_toArray, List.set_cons_zero, List.set_cons_succ]
            refine plan_done ?_
            have hW := hH.out
            subst hW
            go_wp2_with fail
            go_meet
            exact ⟨rfl, rfl⟩
        case rest =>
          obtain ⟨rfl, rfl⟩ := hcut
          obtain ⟨w1, hw1⟩ : ∃ W : World, w0.drew = W := ⟨_, rfl⟩
          have B1 : Hid (Below w.heap.size w w1) := Lib.hid (by rw [← hw1]; exact below_drewN B0.out 1)
          have IN1 : Hid (SliceIn w1 w1.heap.size 1 A' m c' (strsV O)) := Lib.hid (by rw [← hw1]; exact IN0.out)
          have X1 : Hid (w1.cell? ⟨b, o + i * 3, none⟩ = some (.int .i64 kd) ∧ w1.cell? ⟨b, o + i * 3 + 1, none⟩ = some (.string ⟨key.toArray⟩)) := Lib.hid (by rw [← hw1]; exact X0.out)
          rw [hw1]
          clear hw1 B0 IN0 X0
          have SL := Lib.hid (str_take IN1.out hpm)
          have HPM := Lib.hid hpm
          have hm3 : m ≤ 1000 := by have := HMI.out; have := Hn.out; omega
          have hpc : p ≤ c' := by have := HMC.out; omega
          go_upto_region 11 with (first
            | (refine wpList_slice_h rfl 33 9 _ _ rfl Tryz.underlying33 (by kernel_rfl) A' m c' p rfl rfl hpc ?_)
            | (at_builtin; refine wpList_appS str_ty rfl _ _ rfl w1.heap.size (.slice none 0 0) 0 [] rfl (World.ownsRow_nil _ _ _ _) w1.heap.size (sliceA A' c' 0) p c' (strsV (O.take p)) rfl SL.out (strsV_one _) (by omega) (by simp only [maxLen]; omega) (Nat.le_refl _) ?_; intro v2 w2 hown hgr; rw [Nat.zero_add, List.nil_append] at hown; have B2x := Lib.hid ((Below.refl w1.heap.size w1).grown hgr (Nat.le_refl _) (fun q hq => by cases hq)); have OW2 := Lib.hid hown; have IN2 := Lib.hid (IN1.out.below B2x.out); clear hown hgr))
          have hbw : b < w1.heap.size := Nat.lt_of_lt_of_le HB.out B1.out.size
          have x0 := (B2x.out.cell (p := ⟨b, o + i * 3, none⟩) hbw).trans X1.out.1
          have x1 := (B2x.out.cell (p := ⟨b, o + i * 3 + 1, none⟩) hbw).trans X1.out.2
          clear hbw SL X1
          by_cases hk1 : kd = 1
          · subst hk1
            cases th with
            | false =>
              have hne : O[p]? ≠ some key := of_decide_eq_false HTH.out
              have hput := keptStep_put (kd := 1) HP.out rfl hne
              have HPUT := Lib.hid hput
              have hbal := below_al w2 (.cells #[.string ⟨key.toArray⟩] 9)
              have OW3 := Lib.hid (own_below OW2.out hbal)
              have B3x := Lib.hid (B2x.out.trans (hbal.mono B2x.out.size))
              have x0' := (hbal.cell (p := ⟨b, o + i * 3, none⟩) (by have := B2x.out.size; have := HB.out; have := B1.out.size; show b < _; omega)).trans x0
              have RV := Lib.hid ((RowAt.new w2 9 [.string ⟨key.toArray⟩]).slice (size := 1) (n := 1) (c := 1) rfl (Nat.le_refl _) (by simp [maxLen]))
              clear hne hput hbal
              go_upto_region 14 with (first
                | (at_builtin; refine wpList_appS str_ty rfl _ _ rfl w1.heap.size v2 p (strsV (O.take p)) rfl OW3.out _ _ 1 1 [.string ⟨key.toArray⟩] rfl RV.out (one1 _ rfl) (by omega) (by simp only [maxLen]; omega) B3x.out.size ?_; intro v4 w4 hown hgr; have B4x := Lib.hid (B3x.out.grown hgr B3x.out.size (fun q hq => (OW3.out.lt q hq).1)); have OW4 := Lib.hid hown; have IN4 := Lib.hid (IN1.out.below B4x.out); have SD := Lib.hid (str_drop IN4.out HPM.out); clear hown hgr)
                | (refine wpList_slice_l rfl 33 9 _ _ rfl Tryz.underlying33 (by kernel_rfl) A' m c' p rfl rfl HPM.out ?_)
                | (at_builtin; refine wpList_appS str_ty rfl _ _ rfl w1.heap.size v4 (p + 1) (strsV (O.take p) ++ [.string ⟨key.toArray⟩]) rfl OW4.out w1.heap.size (sliceA A' c' p) (m - p) (c' - p) (strsV (O.drop p)) rfl SD.out (strsV_one _) (by omega) (by simp only [maxLen]; omega) B4x.out.size ?_; intro v5 w5 hown hgr; have B5x := Lib.hid (B4x.out.grown hgr B4x.out.size (fun q hq => (OW4.out.lt q hq).1)); obtain ⟨A5, c5, rfl, hs5⟩ := own_slice hown; have SI5 := Lib.hid hs5; clear hown hgr hs5))
              have x0'' := (B5x.out.cell (p := ⟨b, o + i * 3, none⟩) (by have := HB.out; have := B1.out.size; show b < _; omega)).trans ((B2x.out.cell (p := ⟨b, o + i * 3, none⟩) (by have := HB.out; have := B1.out.size; show b < _; omega)).symm.trans x0)
              clear x0 x0' x1
              go_wp2_with fail
              go_roundw
              case rel =>
                refine ⟨i + 1, p + 1 + (m - p), A5, c5, by go_num, by omega, rfl, by have := HMI.out; have := HPM.out; omega, ?_, below_step B1.out B5x.out⟩
                rw [HST.out, HPUT.out]
                have h := SI5.out
                have e : strsV (O.take p) ++ [.string ⟨key.toArray⟩] ++ strsV (O.drop p) = strsV (O.take p ++ key :: O.drop p) := by simp [strsV]
                rw [e] at h
                exact h
              case measure => simp [intOf]; omega
            | true =>
              have hin : O[p]? = some key := of_decide_eq_true HTH.out
              have HNO := Lib.hid (keptStep_none (kd := 1) HP.out (fun h => h.2 hin) (fun h => by rcases h.1 with h | h <;> cases h))
              clear hin
              go_wp2_with fail
              go_roundw
              case rel => exact ⟨i + 1, m, A', c', by go_num, by omega, rfl, by have := HMI.out; omega, by rw [HST.out, HNO.out]; exact IN2.out.more B2x.out.size, below_step B1.out B2x.out⟩
              case measure => simp [intOf]; omega
          · have k1 : (kd == 1) = false := by rw [beq_eq_false_iff_ne]; exact hk1
            by_cases hk34 : (kd = 3 ∨ kd = 4) ∧ th = true
            · obtain ⟨h34, rfl⟩ := hk34
              have hin : O[p]? = some key := of_decide_eq_true HTH.out
              have hpl : p < m := by have := (List.getElem?_eq_some_iff.1 hin).1; have := HML.out; omega
              have HCUT := Lib.hid (keptStep_cut HP.out h34 hin)
              have hp1 : p + 1 ≤ m := hpl
              have SD := Lib.hid (str_drop IN2.out hp1)
              clear hin
              have hkk : (kd == 3) = true ∨ ((kd == 3) = false ∧ (kd == 4) = true) := by
                rcases h34 with rfl | rfl
                · exact .inl rfl
                · exact .inr ⟨rfl, rfl⟩
              clear h34 hk1
              rcases hkk with k3 | ⟨k3, k4⟩
              all_goals
                go_wp2_with (first
                  | (refine wpList_slice_l rfl 33 9 _ _ rfl Tryz.underlying33 (by kernel_rfl) A' m c' (p + 1) rfl rfl hp1 ?_)
                  | (at_builtin; refine wpList_appS str_ty rfl _ _ rfl w1.heap.size v2 p (strsV (O.take p)) rfl OW2.out w1.heap.size (sliceA A' c' (p + 1)) (m - (p + 1)) (c' - (p + 1)) (strsV (O.drop (p + 1))) rfl SD.out (strsV_one _) (by omega) (by simp only [maxLen]; omega) B2x.out.size ?_; intro v5 w5 hown hgr; have B5x := Lib.hid (B2x.out.grown hgr B2x.out.size (fun q hq => (OW2.out.lt q hq).1)); obtain ⟨A5, c5, rfl, hs5⟩ := own_slice hown; have SI5 := Lib.hid hs5; clear hown hgr hs5))
                go_roundw
                case rel =>
                  refine ⟨i + 1, p + (m - (p + 1)), A5, c5, by go_num, by omega, rfl, by have := HMI.out; omega, ?_, below_step B1.out B5x.out⟩
                  rw [HST.out, HCUT.out]
                  have h := SI5.out
                  rw [← strsV_append] at h
                  exact h
                case measure => simp [intOf]; omega
            · have HNO := Lib.hid (keptStep_none (O := O) (x := key) HP.out (fun h => hk1 h.1) (fun h => hk34 ⟨h.1, by rw [← HTH.out]; exact decide_eq_true h.2⟩))
              have hkk : th = false ∨ ((kd == 3) = false ∧ (kd == 4) = false) := by
                cases th with
                | false => exact .inl rfl
                | true =>
                  refine .inr ⟨?_, ?_⟩
                  · rw [beq_eq_false_iff_ne]; exact fun h => hk34 ⟨.inl h, rfl⟩
                  · rw [beq_eq_false_iff_ne]; exact fun h => hk34 ⟨.inr h, rfl⟩
              have fin : ∃ (i' m' : Nat) (A2 : Option Addr) (c2 : Nat), Value.int .i64 ((i : Int) + 1) = .int .i64 i' ∧ i' ≤ n ∧ Value.slice A' m c' = .slice A2 m' c2 ∧ m' ≤ i' ∧ SliceIn w2 w2.heap.size 1 A2 m' c2 (strsV (keptL (pairsL (LS.take i')))) ∧ Below w.heap.size w w2 :=
                ⟨i + 1, m, A', c', by go_num, by omega, rfl, by have := HMI.out; omega, by rw [HST.out, HNO.out]; exact IN2.out.more B2x.out.size, below_step B1.out B2x.out⟩
              have FIN := Lib.hid fin
              clear fin hk34 hk1
              rcases hkk with hth | ⟨k3, k4⟩
              · subst hth
                obtain ⟨z3, hz3⟩ : ∃ z, (kd == 3) = z := ⟨_, rfl⟩
                obtain ⟨z4, hz4⟩ : ∃ z, (kd == 4) = z := ⟨_, rfl⟩
                cases z3 <;> cases z4
                all_goals
                  go_wp2_with fail
                  go_roundw
                  case rel => exact FIN.out
                  case measure => simp [intOf]; omega
              · go_wp2_with fail
                go_roundw
                case rel => exact FIN.out
                case measure => simp [intOf]; omega
    · obtain rfl : i = n := by omega
      have ht : LS.take i = LS := List.take_of_length_le (by rw [HL.out]; exact Nat.le_refl _)
      rw [ht] at hin
      have IN := Lib.hid hin
      clear hin ht
      go_wp2_with fail
      go_ret
      exact ⟨_, _, _, rfl, IN.out, Bq.out⟩
end Go.Proofs.YtclgkkencpkjpaaGreatDoor

/- Layer 26: audit.Kept: what a log keeps, by the code. Condition: at most 1000 lines, keys of at most 10^6 octets. -/
namespace Go.Proofs.YtclgkkencpkjpaaGreatDoor
open Go.RowKit IH
set_option maxRecDepth 100000
theorem kept_sorted (LS : List LogL) : sortedB (keptL (pairsL LS)) := keptL_sorted _
set_option maxHeartbeats 32000000 in
theorem akept_any (A : Option Addr) (n c : Nat) (LS : List LogL) (w : World) (hin : SliceIn w w.heap.size 3 A n c (logsV LS)) (hn : n ≤ 1000) :
    Calls Tryz.prog 30 #[.slice A n c] w fun e w' => ∃ A' n' c', e = .returned (.slice A' n' c') ∧ SliceIn w' w'.heap.size 1 A' n' c' (strsV (keptL (pairsL LS))) ∧ Below w.heap.size w w' := by
  have hL := log_count hin
  have hn9 : (n : Int) ≤ 9223372036854775807 := by omega
  have HL := Lib.hid hL
  have Hn := Lib.hid hn
  have Hin := Lib.hid hin
  clear hin hn hL
  go_enter Tryz.func30, Tryz.ntmps30
  go_wp2
  go_loopw [3, 10] (fun ov iv wr => ∃ (i m : Nat) (A' : Option Addr) (c' : Nat), iv = .int .i64 i ∧ i ≤ n ∧ ov = .slice A' m c' ∧ m ≤ i ∧ wr.ownsRow w.heap.size 9 1 (.slice A' m c') m (strsV (keptL (pairsL (LS.take i)))) ∧ Below w.heap.size w wr) (fun _ iv _ => n - (intOf iv).toNat)
  case atStart => exact ⟨0, 0, none, 0, rfl, Nat.zero_le _, rfl, Nat.le_refl _, by simpa [pairsL, keptL, strsV] using World.ownsRow_nil _ _ _ _, Below.refl _ _⟩
  case round =>
    obtain ⟨wq, hwq⟩ : ∃ x : World, x = wr := ⟨_, rfl⟩
    subst hwq
    obtain ⟨i, m, A', c', rfl, hi, rfl, hmi, hown, hbq⟩ := hrel
    have Bq := Lib.hid hbq
    clear hbq
    by_cases hlt : i < n
    · obtain ⟨l, hl⟩ : ∃ l, LS[i]? = some l := ⟨_, List.getElem?_eq_getElem (by rw [HL.out]; exact hlt)⟩
      have hstep := pairs_step hl
      have hsort := kept_sorted (LS.take i)
      obtain ⟨O, hO⟩ : ∃ O, keptL (pairsL (LS.take i)) = O := ⟨_, rfl⟩
      rw [hO] at hown hstep hsort
      have hml : O.length = m := by have := hown.1; rw [strsV_length] at this; omega
      obtain ⟨b, o, hA, hb, x0, x1, x2⟩ := log_at Hin.out hl
      obtain ⟨key, hkey⟩ : ∃ key, l.key = key := ⟨_, rfl⟩
      obtain ⟨kd, hkd⟩ : ∃ kd, l.kind = kd := ⟨_, rfl⟩
      obtain ⟨su, hsu⟩ : ∃ su, l.sure = su := ⟨_, rfl⟩
      rw [hkey] at hstep x1
      rw [hkd] at hstep x0
      rw [hsu] at x2
      obtain ⟨p, hp⟩ : ∃ p, placeB O key = p := ⟨_, rfl⟩
      have hpm : p ≤ m := by rw [← hp, ← hml]; exact List.Sublist.length_le (List.takeWhile_sublist _)
      have hib : (i : Int) < (n : Int) := by omega
      subst hA
      have y0 := (Bq.out.cell (p := ⟨b, o + i * 3, none⟩) hb).trans x0
      have y1 := (Bq.out.cell (p := ⟨b, o + i * 3 + 1, none⟩) hb).trans x1
      have y2 := (Bq.out.cell (p := ⟨b, o + i * 3 + 2, none⟩) hb).trans x2
      have OW := Lib.hid hown
      have HST := Lib.hid hstep
      have HSO := Lib.hid hsort
      have HP := Lib.hid hp
      have HPM := Lib.hid hpm
      have HML := Lib.hid hml
      have HMI := Lib.hid hmi
      have hm3 : Hid (m ≤ 1000000) := Lib.hid (by have := Hn.out; omega)
      clear x0 x1 x2 hl hO hkey hkd hsu hown hstep hsort hp hml hmi hb
      go_upto_region 5 with fail
      obtain ⟨w3, hw3⟩ : ∃ W : World, wq.alloc (.cells #[.int .i64 kd, .string ⟨key.toArray⟩, .bool su] 57) = W := ⟨_, rfl⟩
      have hbal := below_al wq (.cells #[.int .i64 kd, .string ⟨key.toArray⟩, .bool su] 57)
      have hrow := RowAt.new wq 57 [.int .i64 kd, .string ⟨key.toArray⟩, .bool su]
      rw [show ([.int .i64 kd, .string ⟨key.toArray⟩, .bool su] : List Value).toArray = #[.int .i64 kd, .string ⟨key.toArray⟩, .bool su] from rfl] at hrow
      rw [hw3] at hbal hrow
      rw [hw3]
      have R3 := Lib.hid hrow
      have B3 := Lib.hid (below_step Bq.out hbal)
      have OW3 := Lib.hid (own_below OW.out hbal)
      obtain ⟨th, hth⟩ : ∃ x, decide (O[p]? = some key) = x := ⟨_, rfl⟩
      have SR := kept_search A' m c' O key w3 (SliceIn.of_own OW3.out) HSO.out hm3.out
      rw [HP.out, hth] at SR
      have SRh := Lib.hid SR
      have HTH := Lib.hid hth
      have z1 := hrow.cell (j := 1) rfl
      clear hw3 hbal hrow SR hth y0 y1 y2
      go_upto_region 6 with (go_at_call 70; (with_reducible refine SRh.out.mono ?_); rintro e w4' ⟨rfl, q, rfl⟩)
      obtain ⟨w4, hw4⟩ : ∃ W : World, w3.drewN q = W := ⟨_, rfl⟩
      have R4 : Hid (RowAt w4 wq.heap.size 57 [.int .i64 kd, .string ⟨key.toArray⟩, .bool su]) := Lib.hid (by rw [← hw4]; exact R3.out)
      have B4 : Hid (Below w.heap.size w w4) := Lib.hid (by rw [← hw4]; exact below_drewN B3.out q)
      have OW4 : Hid (w4.ownsRow w.heap.size 9 1 (.slice A' m c') m (strsV O)) := Lib.hid (by rw [← hw4]; exact OW3.out)
      rw [hw4]
      clear hw4 z1 R3 B3 OW3 SRh OW
      have z0 := R4.out.cell (j := 0) rfl
      have z1 := R4.out.cell (j := 1) rfl
      by_cases hA : kd = 1 ∧ th = false
      · obtain ⟨rfl, rfl⟩ := hA
        have hne : O[p]? ≠ some key := of_decide_eq_false HTH.out
        have HPUT := Lib.hid (keptStep_put (kd := 1) HP.out rfl hne)
        have hbal := below_al w4 (.cells #[.string ⟨key.toArray⟩] 9)
        have B5 := Lib.hid (below_step B4.out hbal)
        have OW5 := own_below OW4.out hbal
        have INS := Lib.hid (kept_insert w.heap.size (.slice A' m c') m p w4.heap.size O key _ B5.out.size OW5 HPM.out hm3.out (heap_alloc_new w4 (.cells #[.string ⟨key.toArray⟩] 9)) (by
          intro h
          have := (OW4.out.lt _ h).2
          omega))
        clear hne hbal OW5
        go_wp2_with (go_at_call 71; (with_reducible refine INS.out.mono ?_); rintro e w6 ⟨v6, rfl, hown, hb6⟩; have B6 := Lib.hid (B5.out.trans hb6); obtain ⟨A6, c6, rfl, -⟩ := own_slice hown; have OW6 := Lib.hid hown; clear hown hb6)
        go_roundw
        case rel =>
          exact ⟨i + 1, m + 1, A6, c6, by go_num, by omega, rfl, by have := HMI.out; omega, by rw [HST.out, HPUT.out]; exact OW6.out, B6.out⟩
        case measure => simp [intOf]; omega
      · by_cases hB : (kd = 3 ∨ kd = 4) ∧ th = true
        · obtain ⟨h34, rfl⟩ := hB
          have hin : O[p]? = some key := of_decide_eq_true HTH.out
          have hpl : p < m := by have := (List.getElem?_eq_some_iff.1 hin).1; have := HML.out; omega
          have HCUT := Lib.hid (keptStep_cut HP.out h34 hin)
          have DEL := Lib.hid (kept_delete w.heap.size (.slice A' m c') m p O w4 OW4.out hpl hm3.out)
          have HPL := Lib.hid hpl
          have hp9 : (p : Int) ≤ 1000000 := by have := HPM.out; have := hm3.out; omega
          have k1 : (kd == 1) = false := by rw [beq_eq_false_iff_ne]; rcases h34 with rfl | rfl <;> decide
          have hkk : (kd == 3) = true ∨ ((kd == 3) = false ∧ (kd == 4) = true) := by
            rcases h34 with rfl | rfl
            · exact .inl rfl
            · exact .inr ⟨rfl, rfl⟩
          clear h34 hA hin hpl
          rcases hkk with k3 | ⟨k3, k4⟩
          all_goals
            go_wp2_with (go_at_call 72; (with_reducible refine DEL.out.mono ?_); rintro e w6 ⟨v6, rfl, hown, hb6⟩; have B6 := Lib.hid (B4.out.trans hb6); obtain ⟨A6, c6, rfl, -⟩ := own_slice hown; have OW6 := Lib.hid hown; clear hown hb6)
            go_roundw
            case rel =>
              exact ⟨i + 1, m - 1, A6, c6, by go_num, by omega, rfl, by have := HMI.out; omega, by rw [HST.out, HCUT.out]; exact OW6.out, B6.out⟩
            case measure => simp [intOf]; omega
        · have HNO := Lib.hid (keptStep_none (O := O) (x := key) (kd := kd) HP.out (fun h => hA ⟨h.1, by rw [← HTH.out]; exact decide_eq_false h.2⟩) (fun h => hB ⟨h.1, by rw [← HTH.out]; exact decide_eq_true h.2⟩))
          have fin : ∃ (i' m' : Nat) (A2 : Option Addr) (c2 : Nat), Value.int .i64 ((i : Int) + 1) = .int .i64 i' ∧ i' ≤ n ∧ Value.slice A' m c' = .slice A2 m' c2 ∧ m' ≤ i' ∧ w4.ownsRow w.heap.size 9 1 (.slice A2 m' c2) m' (strsV (keptL (pairsL (LS.take i')))) ∧ Below w.heap.size w w4 :=
            ⟨i + 1, m, A', c', by go_num, by omega, rfl, by have := HMI.out; omega, by rw [HST.out, HNO.out]; exact OW4.out, B4.out⟩
          have FIN := Lib.hid fin
          have hkk : (th = true ∧ (kd == 3) = false ∧ (kd == 4) = false) ∨ (th = false ∧ (kd == 1) = false) := by
            cases th with
            | false => exact .inr ⟨rfl, by rw [beq_eq_false_iff_ne]; exact fun h => hA ⟨h, rfl⟩⟩
            | true => exact .inl ⟨rfl, by rw [beq_eq_false_iff_ne]; exact fun h => hB ⟨.inl h, rfl⟩, by rw [beq_eq_false_iff_ne]; exact fun h => hB ⟨.inr h, rfl⟩⟩
          clear fin hA hB
          rcases hkk with ⟨rfl, k3, k4⟩ | ⟨rfl, k1⟩
          · obtain ⟨z, hz⟩ : ∃ z, (kd == 1) = z := ⟨_, rfl⟩
            cases z
            all_goals
              go_wp2_with fail
              go_roundw
              case rel => exact FIN.out
              case measure => simp [intOf]; omega
          · obtain ⟨z3, hz3⟩ : ∃ z, (kd == 3) = z := ⟨_, rfl⟩
            obtain ⟨z4, hz4⟩ : ∃ z, (kd == 4) = z := ⟨_, rfl⟩
            cases z3 <;> cases z4
            all_goals
              go_wp2_with fail
              go_roundw
              case rel => exact FIN.out
              case measure => simp [intOf]; omega
    · obtain rfl : i = n := by omega
      have ht : LS.take i = LS := List.take_of_length_le (by rw [HL.out]; exact Nat.le_refl _)
      rw [ht] at hown
      have OW := Lib.hid hown
      clear hown ht
      go_wp2_with fail
      go_ret
      exact ⟨_, _, _, rfl, SliceIn.of_own OW.out, Bq.out⟩
end Go.Proofs.YtclgkkencpkjpaaGreatDoor
