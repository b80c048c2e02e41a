/- Layer 28's laws: AccessPrints, walked. Condition: the world's shape. -/
import Derived.Test.YtaddefjkjlkjnaaDoorLaw28b
import Derived.Test.YtaddefjkjlkjnaaDoorKt
namespace Go.Proofs.YtaddefjkjlkjnaaDoor
open Go.RowKit IH
set_option maxRecDepth 100000
/-- Nine cells. -/
def C9 (w : World) (b o : Nat) (i0 i1 i2 i3 : Int) (x y z : ByteArray) (i7 i8 : Int) : Prop :=
  w.cell? ⟨b, o, none⟩ = some (.int .i64 i0) ∧ w.cell? ⟨b, o + 1, none⟩ = some (.int .i64 i1) ∧ w.cell? ⟨b, o + 2, none⟩ = some (.int .i64 i2) ∧ w.cell? ⟨b, o + 3, none⟩ = some (.int .i64 i3) ∧
    w.cell? ⟨b, o + 4, none⟩ = some (.string x) ∧ w.cell? ⟨b, o + 5, none⟩ = some (.string y) ∧ w.cell? ⟨b, o + 6, none⟩ = some (.string z) ∧ w.cell? ⟨b, o + 7, none⟩ = some (.int .i64 i7) ∧ w.cell? ⟨b, o + 8, none⟩ = some (.int .i64 i8)
theorem C9.below {w w' : World} {b o B : Nat} {i0 i1 i2 i3 i7 i8 : Int} {x y z : ByteArray} (h : C9 w b o i0 i1 i2 i3 x y z i7 i8) (hb : Below B w w') (hl : b < B) : C9 w' b o i0 i1 i2 i3 x y z i7 i8 := by
  obtain ⟨h0, h1, h2, h3, h4, h5, h6, h7, h8⟩ := h
  exact ⟨(hb.cell (p := ⟨b, o, none⟩) hl).trans h0, (hb.cell (p := ⟨b, o + 1, none⟩) hl).trans h1, (hb.cell (p := ⟨b, o + 2, none⟩) hl).trans h2, (hb.cell (p := ⟨b, o + 3, none⟩) hl).trans h3, (hb.cell (p := ⟨b, o + 4, none⟩) hl).trans h4,
    (hb.cell (p := ⟨b, o + 5, none⟩) hl).trans h5, (hb.cell (p := ⟨b, o + 6, none⟩) hl).trans h6, (hb.cell (p := ⟨b, o + 7, none⟩) hl).trans h7, (hb.cell (p := ⟨b, o + 8, none⟩) hl).trans h8⟩
theorem row_new28b {B : Nat} {w W : World} (_ : Hid (Below B w W)) (e : TypeId) (cs : List Value) : RowAt (W.alloc (.cells cs.toArray e)) W.heap.size e cs := RowAt.new W e cs
set_option maxHeartbeats 16000000 in
theorem aprints_walk (w : World) (hsh : w.ShapedOpen Tryd.prog) (A : Option Addr) (n c : Nat) (L : List Reply) (hin : SliceIn w w.heap.size 9 A n c (toldsV L)) (hI : ∀ t ∈ L, ints28 t) :
    Calls Tryd.prog 5 #[.slice A n c] w fun e w' => e = .returned (.bool true) ∧ Below w.heap.size w w' := by
  have AW := Lib.hid (fun w => awake28_any w)
  have hL : L.length = n := by have := hin.1; rw [toldsV_length] at this; omega
  have hcm : n ≤ 9223372036854775807 := by have h1 := hin.2.1; have h2 := hin.2.2.1; simp only [maxLen] at h2; omega
  have Hin := Lib.hid hin
  have HI := Lib.hid hI
  have HSH := Lib.hid (fun (W : World) (hb : Below w.heap.size w W) => shaped_below hsh hb)
  have SM := fun (W : World) (hW : Below w.heap.size w W) => small28_any A n c L W ((Hin.out.below hW).more hW.size) hcm
  clear hin hI hsh
  cases hsm : decide (n ≤ 30) && L.all tiny28 with
  | false =>
    rw [hsm] at SM
    replace SM := Lib.hid SM
    clear hsm
    go_enter Tryd.func5, Tryd.ntmps5
    go_upto_region 1 with fail
    refine wp_region_seq ?_
    refine seq_move (wanted_un rfl) (fun K hK => ?_)
    go_simp
    (with_reducible refine (AW.out _).mono ?_)
    rintro e w2 ⟨rfl, hb2⟩
    have B2 := Lib.hid hb2
    clear hb2
    refine hK.out _ _ ?_
    clear hK K
    try simp only [Act.put, List.setIfInBounds_toArray, List.set_cons_zero, List.set_cons_succ]
    iterate 2
      refine seq_take (v := ?_) (wanted_un rfl) ?_ ?_
      rotate_left
      · go_simp
        try with_reducible rfl
      try simp only [Act.put, List.setIfInBounds_toArray, List.set_cons_zero, List.set_cons_succ]
    iterate 1
      refine seq_take (v := ?_) (wanted_yes rfl rfl rfl rfl) ?_ ?_
      rotate_left
      · go_simp
        try with_reducible rfl
      try simp only [Act.put, List.setIfInBounds_toArray, List.set_cons_zero, List.set_cons_succ]
    refine seq_move (wanted_yes rfl rfl rfl rfl) (fun K hK => ?_)
    go_simp
    (with_reducible refine (SM.out _ B2.out).mono ?_)
    rintro e w3 ⟨rfl, rfl⟩
    refine hK.out _ _ ?_
    clear hK K
    try simp only [Act.put, List.setIfInBounds_toArray, List.set_cons_zero, List.set_cons_succ]
    iterate 1
      refine seq_take (v := ?_) (wanted_yes rfl rfl rfl rfl) ?_ ?_
      rotate_left
      · go_simp
        try with_reducible rfl
      try simp only [Act.put, List.setIfInBounds_toArray, List.set_cons_zero, List.set_cons_succ]
    iterate 1
      refine seq_take (v := ?_) (wanted_un rfl) ?_ ?_
      rotate_left
      · go_simp
        try with_reducible rfl
      try simp only [Act.put, List.setIfInBounds_toArray, List.set_cons_zero, List.set_cons_succ]
    refine seq_done ?_
    go_wp2_with (go_at_call 23; refine (AW.out _).mono ?_; rintro e w4 ⟨rfl, hb4⟩; have B4 := Lib.hid (below_step B2.out hb4); clear hb4)
    go_ret
    exact ⟨rfl, B4.out⟩
  | true =>
    rw [hsm] at SM
    replace SM := Lib.hid SM
    rw [Bool.and_eq_true, decide_eq_true_eq, List.all_eq_true] at hsm
    obtain ⟨hn30, htiny⟩ := hsm
    have HTY := Lib.hid htiny
    have HL := Lib.hid hL
    clear htiny hL
    go_enter Tryd.func5, Tryd.ntmps5
    go_upto_region 1 with fail
    refine wp_region_seq ?_
    refine seq_move (wanted_un rfl) (fun K hK => ?_)
    go_simp
    (with_reducible refine (AW.out _).mono ?_)
    rintro e w2 ⟨rfl, hb2⟩
    have B2 := Lib.hid hb2
    clear hb2
    refine hK.out _ _ ?_
    clear hK K
    try simp only [Act.put, List.setIfInBounds_toArray, List.set_cons_zero, List.set_cons_succ]
    iterate 2
      refine seq_take (v := ?_) (wanted_un rfl) ?_ ?_
      rotate_left
      · go_simp
        try with_reducible rfl
      try simp only [Act.put, List.setIfInBounds_toArray, List.set_cons_zero, List.set_cons_succ]
    iterate 1
      refine seq_take (v := ?_) (wanted_yes rfl rfl rfl rfl) ?_ ?_
      rotate_left
      · go_simp
        try with_reducible rfl
      try simp only [Act.put, List.setIfInBounds_toArray, List.set_cons_zero, List.set_cons_succ]
    refine seq_move (wanted_yes rfl rfl rfl rfl) (fun K hK => ?_)
    go_simp
    (with_reducible refine (SM.out _ B2.out).mono ?_)
    rintro e w3 ⟨rfl, rfl⟩
    refine hK.out _ _ ?_
    clear hK K
    try simp only [Act.put, List.setIfInBounds_toArray, List.set_cons_zero, List.set_cons_succ]
    iterate 1
      refine seq_take (v := ?_) (wanted_yes rfl rfl rfl rfl) ?_ ?_
      rotate_left
      · go_simp
        try with_reducible rfl
      try simp only [Act.put, List.setIfInBounds_toArray, List.set_cons_zero, List.set_cons_succ]
    iterate 1
      refine seq_take (v := ?_) (wanted_un rfl) ?_ ?_
      rotate_left
      · go_simp
        try with_reducible rfl
      try simp only [Act.put, List.setIfInBounds_toArray, List.set_cons_zero, List.set_cons_succ]
    refine seq_done ?_
    go_wp2_with fail
    go_loopw [3, 4, 5] (fun s rt i wr => ∃ (k : Nat) (T : ByteArray), k ≤ n ∧ i = .int .i64 k ∧ s = .string T ∧ T.data.toList = lines28 (L.take k) ∧ rt = .bool ((L.take k).all right28) ∧ Below w.heap.size w wr) (fun _ _ i _ => n - (intOf i).toNat)
    case atStart => exact ⟨0, ⟨#[]⟩, by omega, rfl, rfl, rfl, rfl, B2.out⟩
    case round =>
      clear B2
      obtain ⟨w0, rfl⟩ : ∃ w0 : World, w0 = wr := ⟨_, rfl⟩
      obtain ⟨k, T, hk, rfl, rfl, hT, rfl, hbel⟩ := hrel
      have HB := Lib.hid hbel
      have HT := Lib.hid hT
      have hTs : T.size ≤ 200000 := by
        have h1 := lines_tiny (L := L.take k) fun d hd => HTY.out d (List.mem_of_mem_take hd)
        rw [List.length_take] at h1
        rw [← data_len, hT]; omega
      have hws := hbel.size
      clear hbel hT
      by_cases hlt : k < n
      · obtain ⟨t, ht⟩ : ∃ t, L[k]? = some t := ⟨_, List.getElem?_eq_getElem (by rw [HL.out]; exact hlt)⟩
        obtain ⟨b, off, rfl, hbl, h9⟩ := at9_of ((Hin.out.below HB.out).more hws) ht hlt
        have htm := List.mem_of_getElem? ht
        have hty := HTY.out t htm
        have hint := HI.out t htm
        have hsml := tiny_small hty
        have kI : (k : Int) < (n : Int) := by omega
        have hln := line_tiny hty
        have RR := fun W => refRight_any t W ⟨Nat.le_trans hsml.1 (by omega), Nat.le_trans hsml.2.1 (by omega), Nat.le_trans hsml.2.2 (by omega)⟩
        have PX := fun W => refLine28_any t W hint hsml
        have RS := fun (W : World) (g : Nat) (hrow : RowAt W g 48 (toldCells t)) => Right_any (some ⟨g, 0, none⟩) 1 1 [t] W (hrow.slice (size := 9) (n := 1) (c := 1) rfl (Nat.le_refl _) (by simp [maxLen])) (by omega) (fun x hx => by rw [List.mem_singleton.1 hx]; exact hsml)
        have e1 : ([t].all right28) = right28 t := by simp
        rw [refR28_eq] at RR
        rw [anyWrong_all, Bool.not_not, e1] at RS
        have WA := Lib.hid (fun W => Word_any t.kind W)
        have WB := fun W => refWord_any t.kind W
        obtain ⟨X, hX⟩ : ∃ X : ByteArray, (⟨t.method.toArray⟩ : ByteArray) = X := ⟨_, rfl⟩
        obtain ⟨Y, hY⟩ : ∃ X : ByteArray, (⟨t.uri.toArray⟩ : ByteArray) = X := ⟨_, rfl⟩
        obtain ⟨Z, hZ⟩ : ∃ X : ByteArray, (⟨t.key.toArray⟩ : ByteArray) = X := ⟨_, rfl⟩
        rw [hX, hY, hZ] at h9
        have htc : toldCells t = [.int .i64 t.conn, .int .i64 t.kind, .int .i64 t.moment, .int .i64 t.lines, .string X, .string Y, .string Z, .int .i64 t.status, .int .i64 t.age] := by unfold toldCells; rw [hX, hY, hZ]
        rw [htc] at RR PX RS
        obtain ⟨D, hD⟩ : ∃ X : ByteArray, (⟨(line28 t).toArray⟩ : ByteArray) = X := ⟨_, rfl⟩
        rw [hD] at PX
        have hDs : D.size ≤ 4000 := by rw [← hD, size_mk]; exact hln
        obtain ⟨rd, hrd⟩ : ∃ r, right28 t = r := ⟨_, rfl⟩
        rw [hrd] at RR RS
        obtain ⟨bk, hbk⟩ : ∃ r, (L.take k).all right28 = r := ⟨_, rfl⟩
        have HN : Hid ((L.take (k + 1)).all right28 = (bk && rd)) := Lib.hid (by rw [List.take_add_one, ht, List.all_append, hbk]; simp [hrd])
        have HTN : Hid ((T ++ D).data.toList = lines28 (L.take (k + 1))) := Lib.hid (by rw [append_data, HT.out, lines28_snoc L k t ht, ← hD])
        rw [hbk]
        replace RR := Lib.hid RR
        replace PX := Lib.hid PX
        replace RS := Lib.hid RS
        replace WB := Lib.hid WB
        have H9 := Lib.hid h9
        obtain ⟨a0, a1, a2, a3, a4, a5, a6, a7, a8⟩ := h9
        obtain ⟨WX, hWX⟩ : ∃ X : ByteArray, (⟨(word28 t.kind).toArray⟩ : ByteArray) = X := ⟨_, rfl⟩
        rw [hWX] at WA WB
        have H9b : Hid (At9 w0 b (off + k * 9) t X Y Z) := H9
        unfold At9 at H9b
        generalize t.conn = i0 at RR PX RS H9b a0
        generalize t.kind = i1 at RR PX RS H9b a1 WA WB
        generalize t.moment = i2 at RR PX RS H9b a2
        generalize t.lines = i3 at RR PX RS H9b a3
        generalize t.status = i7 at RR PX RS H9b a7
        generalize t.age = i8 at RR PX RS H9b a8
        have H9 : Hid (C9 w0 b (off + k * 9) i0 i1 i2 i3 X Y Z i7 i8) := H9b
        clear htc hX hY hZ hD hrd hbk hln hsml hint hty htm ht hWX H9b
        go_upto_region 9 with (go_at_call 25; refine (RR.out _).mono ?_; rintro e w3 ⟨rfl, hb3⟩)
        have B3 := Lib.hid hb3
        obtain ⟨x0, x1, x2, x3, x4, x5, x6, x7, x8⟩ := H9.out.below hb3 hbl
        clear hb3 a0 a1 a2 a3 a4 a5 a6 a7 a8
        go_cut [4] from 31 to 34 (fun s4 wx => s4 = .bool (bk && rd) ∧ wx = w3)
        case first =>
          cases bk with
          | false =>
            go_wp2_with fail
            go_meet
            exact ⟨rfl, rfl⟩
          | true =>
            go_wp2_with fail
            go_meet
            exact ⟨rfl, rfl⟩
        case rest =>
          obtain ⟨rfl, rfl⟩ := hcut
          go_upto_region 11 with (go_at_call 26; refine (PX.out _).mono ?_; rintro e w4 ⟨rfl, hb4⟩; have B4 := Lib.hid (below_step B3.out hb4); clear hb4)
          clear x0 x1 x2 x3 x4 x5 x6 x7 x8
          cases rd with
          | false =>
            refine wp_region_plan (fun W => Below w0.heap.size w0 W) [(0, true), (1, true), (2, true), (3, true), (6, true), (4, false), (5, false), (7, true), (8, true), (9, true), (10, true), (11, true), (12, true), (13, true), (15, true), (16, true), (17, true), (18, true), (19, true), (14, false), (20, false), (21, true), (22, true)] (by kernel_rfl) (by kernel_rfl) rfl (by kernel_rfl) (below_drewN B4.out 1) ?_
            intro w1 hH
            iterate 5
              refine plan_take (v := ?_) rfl (by rfl) ?_ ?_
              rotate_left
              · intro w2 hSw
                obtain ⟨z0, z1, z2, z3, z4, z5, z6, z7, z8⟩ := H9.out.below hSw hbl
                clear hSw
                go_simp
                try with_reducible rfl
              try simp only [Act.put, List.setIfInBounds_toArray, List.set_cons_zero, List.set_cons_succ]
            refine plan_move rfl (by rfl) (fun K hK => ?_)
            go_simp
            refine hK.out _ _ (hH.out.alloc hH.out.size _) ?_
            have FB := Lib.hid (row_new28b hH 48 [.int .i64 i0, .int .i64 i1, .int .i64 i2, .int .i64 i3, .string X, .string Y, .string Z, .int .i64 i7, .int .i64 i8])
            clear hH hK K
            intro hH
            try simp only [Act.put, List.setIfInBounds_toArray, List.set_cons_zero, List.set_cons_succ]
            refine plan_move rfl (by rfl) (fun K hK => ?_)
            go_simp
            (with_reducible refine (RS.out _ _ FB.out).mono ?_)
            rintro e w6 ⟨rfl, hb6⟩
            refine hK.out _ _ (below_step hH.out hb6) ?_
            clear hH hK hb6 K FB
            intro hH
            try simp only [Act.put, List.setIfInBounds_toArray, List.set_cons_zero, List.set_cons_succ]
            iterate 12
              refine plan_take (v := ?_) rfl (by rfl) ?_ ?_
              rotate_left
              · intro w2 hSw
                obtain ⟨z0, z1, z2, z3, z4, z5, z6, z7, z8⟩ := H9.out.below hSw hbl
                clear hSw
                go_simp
                try with_reducible rfl
              try simp only [Act.put, List.setIfInBounds_toArray, List.set_cons_zero, List.set_cons_succ]
            refine plan_move rfl (by rfl) (fun K hK => ?_)
            go_simp
            (with_reducible refine (WA.out _).mono ?_)
            rintro e w7 ⟨rfl, rfl⟩
            refine hK.out _ _ (hH.out) ?_
            clear hH hK K
            intro hH
            try simp only [Act.put, List.setIfInBounds_toArray, List.set_cons_zero, List.set_cons_succ]
            refine plan_move rfl (by rfl) (fun K hK => ?_)
            go_simp
            (with_reducible refine (WB.out _).mono ?_)
            rintro e w8 ⟨rfl, hb8⟩
            refine hK.out _ _ (below_step hH.out hb8) ?_
            clear hH hK hb8 K
            intro hH
            try simp only [Act.put, List.setIfInBounds_toArray, List.set_cons_zero, List.set_cons_succ]
            iterate 2
              refine plan_take (v := ?_) rfl (by rfl) ?_ ?_
              rotate_left
              · intro w2 hSw
                obtain ⟨z0, z1, z2, z3, z4, z5, z6, z7, z8⟩ := H9.out.below hSw hbl
                clear hSw
                go_simp
                try with_reducible rfl
              try simp only [Act.put, List.setIfInBounds_toArray, List.set_cons_zero, List.set_cons_succ]
            refine plan_done ?_
            go_wp2_with fail
            go_roundw
            case rel => exact ⟨k + 1, _, by omega, by go_num, rfl, HTN.out, by rw [HN.out]; simp, HB.out.trans (hH.out.mono hws)⟩
            case measure => simp [intOf]; omega
          | true =>
            refine wp_region_plan (fun W => Below w0.heap.size w0 W) [(0, true), (1, true), (2, true), (3, true), (6, true), (4, false), (5, false), (7, true), (8, true), (9, true), (10, true), (11, true), (12, true), (13, true), (15, true), (16, true), (17, true), (18, true), (19, true), (14, false), (20, false), (21, true), (22, true)] (by kernel_rfl) (by kernel_rfl) rfl (by kernel_rfl) (below_drewN B4.out 1) ?_
            intro w1 hH
            iterate 5
              refine plan_take (v := ?_) rfl (by rfl) ?_ ?_
              rotate_left
              · intro w2 hSw
                obtain ⟨z0, z1, z2, z3, z4, z5, z6, z7, z8⟩ := H9.out.below hSw hbl
                clear hSw
                go_simp
                try with_reducible rfl
              try simp only [Act.put, List.setIfInBounds_toArray, List.set_cons_zero, List.set_cons_succ]
            refine plan_move rfl (by rfl) (fun K hK => ?_)
            go_simp
            refine hK.out _ _ (hH.out.alloc hH.out.size _) ?_
            have FB := Lib.hid (row_new28b hH 48 [.int .i64 i0, .int .i64 i1, .int .i64 i2, .int .i64 i3, .string X, .string Y, .string Z, .int .i64 i7, .int .i64 i8])
            clear hH hK K
            intro hH
            try simp only [Act.put, List.setIfInBounds_toArray, List.set_cons_zero, List.set_cons_succ]
            refine plan_move rfl (by rfl) (fun K hK => ?_)
            go_simp
            (with_reducible refine (RS.out _ _ FB.out).mono ?_)
            rintro e w6 ⟨rfl, hb6⟩
            refine hK.out _ _ (below_step hH.out hb6) ?_
            clear hH hK hb6 K FB
            intro hH
            try simp only [Act.put, List.setIfInBounds_toArray, List.set_cons_zero, List.set_cons_succ]
            iterate 12
              refine plan_take (v := ?_) rfl (by rfl) ?_ ?_
              rotate_left
              · intro w2 hSw
                obtain ⟨z0, z1, z2, z3, z4, z5, z6, z7, z8⟩ := H9.out.below hSw hbl
                clear hSw
                go_simp
                try with_reducible rfl
              try simp only [Act.put, List.setIfInBounds_toArray, List.set_cons_zero, List.set_cons_succ]
            refine plan_move rfl (by rfl) (fun K hK => ?_)
            go_simp
            (with_reducible refine (WA.out _).mono ?_)
            rintro e w7 ⟨rfl, rfl⟩
            refine hK.out _ _ (hH.out) ?_
            clear hH hK K
            intro hH
            try simp only [Act.put, List.setIfInBounds_toArray, List.set_cons_zero, List.set_cons_succ]
            refine plan_move rfl (by rfl) (fun K hK => ?_)
            go_simp
            (with_reducible refine (WB.out _).mono ?_)
            rintro e w8 ⟨rfl, hb8⟩
            refine hK.out _ _ (below_step hH.out hb8) ?_
            clear hH hK hb8 K
            intro hH
            try simp only [Act.put, List.setIfInBounds_toArray, List.set_cons_zero, List.set_cons_succ]
            iterate 2
              refine plan_take (v := ?_) rfl (by rfl) ?_ ?_
              rotate_left
              · intro w2 hSw
                obtain ⟨z0, z1, z2, z3, z4, z5, z6, z7, z8⟩ := H9.out.below hSw hbl
                clear hSw
                go_simp
                try with_reducible rfl
              try simp only [Act.put, List.setIfInBounds_toArray, List.set_cons_zero, List.set_cons_succ]
            refine plan_done ?_
            go_wp2_with fail
            go_roundw
            case rel => exact ⟨k + 1, _, by omega, by go_num, rfl, HTN.out, by rw [HN.out]; simp, HB.out.trans (hH.out.mono hws)⟩
            case measure => simp [intOf]; omega
      · obtain rfl : n = k := by omega
        have hta : L.take n = L := List.take_of_length_le (by rw [HL.out]; exact Nat.le_refl _)
        rw [hta] at HT ⊢
        have hlen := lines_tiny HTY.out
        rw [HL.out] at hlen
        have PA := fun (W : World) (hW : Below w.heap.size w W) => Print28_any A n c L W ((Hin.out.below hW).more hW.size) (by omega) (fun t ht => tiny_small (HTY.out t ht))
        have RA := fun (W : World) (hW : Below w.heap.size w W) => Right_any A n c L W ((Hin.out.below hW).more hW.size) (by omega) (fun t ht => tiny_small (HTY.out t ht))
        obtain ⟨r, hr⟩ : ∃ r, L.all right28 = r := ⟨_, rfl⟩
        rw [anyWrong_all, Bool.not_not, hr] at RA
        rw [hr]
        replace RA := Lib.hid RA
        cases r with
        | false =>
          have hp : print28 L = ([], 2) := by unfold print28; rw [anyWrong_all, hr]; rfl
          rw [hp] at PA
          replace PA := Lib.hid PA
          clear hp hr hta hlen hlt
          go_upto_region 17 with (first
            | (go_at_call 30; refine (PA.out _ HB.out).mono ?_; rintro e w3 ⟨rfl, hb3⟩; have B3 := Lib.hid (HB.out.trans (hb3.mono hws)); clear hb3)
            | (go_at_call 27; refine (RA.out _ B3.out).mono ?_; rintro e w4 ⟨rfl, hb4⟩; have B4 := Lib.hid (B3.out.trans (hb4.mono B3.out.size)); clear hb4))
          refine wp_region_seq ?_
          iterate 3
            refine seq_take (v := ?_) (wanted_un rfl) ?_ ?_
            rotate_left
            · go_simp
              try with_reducible rfl
            try simp only [Act.put, List.setIfInBounds_toArray, List.set_cons_zero, List.set_cons_succ]
          iterate 2
            refine seq_take (v := ?_) (wanted_yes rfl rfl rfl rfl) ?_ ?_
            rotate_left
            · go_simp
              try with_reducible rfl
            try simp only [Act.put, List.setIfInBounds_toArray, List.set_cons_zero, List.set_cons_succ]
          iterate 2
            refine seq_take (v := ?_) (wanted_un rfl) ?_ ?_
            rotate_left
            · go_simp
              try with_reducible rfl
            try simp only [Act.put, List.setIfInBounds_toArray, List.set_cons_zero, List.set_cons_succ]
          refine seq_done ?_
          go_wp2_with fail
          go_ret
          exact ⟨rfl, B4.out⟩
        | true =>
          have hp : print28 L = (lines28 L, 0) := by unfold print28; rw [anyWrong_all, hr, if_neg (by simp), if_neg (by rw [HL.out]; omega), if_neg (by omega)]
          rw [hp] at PA
          have hTe : (⟨(lines28 L).toArray⟩ : ByteArray) = T := (bytes_eq HT.out).symm
          simp only at PA
          rw [hTe] at PA
          replace PA := Lib.hid PA
          have SP := fun (W : World) (hW : Below w.heap.size w W) => aParse_any T (by omega) W (HSH.out W hW)
          rw [HT.out, lines_body, read_print one28 body28 (fun t ht => one_self (List.all_eq_true.1 hr t ht)) (by rw [HL.out]; omega) (by rw [← lines_body]; omega)] at SP
          simp only at SP
          rw [HL.out] at SP
          replace SP := Lib.hid SP
          have SA := Lib.hid (fun (W : World) (A1 : Option Addr) (c1 : Nat) (h1 : SliceIn W W.heap.size 9 A1 n c1 (toldsV L)) (hW : Below w.heap.size w W) => Same_told L A1 A n c1 c W h1 ((Hin.out.below hW).more hW.size) (by omega))
          clear hp hr hta hlen hlt hTe
          go_upto_region 19 with (first
            | (go_at_call 30; refine (PA.out _ HB.out).mono ?_; rintro e w3 ⟨rfl, hb3⟩; have B3 := Lib.hid (HB.out.trans (hb3.mono hws)); clear hb3)
            | (go_at_call 27; refine (RA.out _ B3.out).mono ?_; rintro e w4 ⟨rfl, hb4⟩; have B4 := Lib.hid (B3.out.trans (hb4.mono B3.out.size)); clear hb4)
            | (go_at_call 31; refine (SP.out _ B4.out).mono ?_; rintro e w5 ⟨v5, rfl, ho5, hb5⟩; have B5 := Lib.hid (B4.out.trans (hb5.mono B4.out.size)); obtain ⟨A5, c5, rfl, hs5⟩ := own_slice ho5; have Q5 := Lib.hid (SA.out w5 A5 c5 hs5 B5.out); clear ho5 hs5 hb5))
          refine wp_region_seq ?_
          iterate 3
            refine seq_take (v := ?_) (wanted_un rfl) ?_ ?_
            rotate_left
            · go_simp
              try with_reducible rfl
            try simp only [Act.put, List.setIfInBounds_toArray, List.set_cons_zero, List.set_cons_succ]
          iterate 3
            refine seq_take (v := ?_) (wanted_yes rfl rfl rfl rfl) ?_ ?_
            rotate_left
            · go_simp
              try with_reducible rfl
            try simp only [Act.put, List.setIfInBounds_toArray, List.set_cons_zero, List.set_cons_succ]
          iterate 2
            refine seq_take (v := ?_) (wanted_un rfl) ?_ ?_
            rotate_left
            · go_simp
              try with_reducible rfl
            try simp only [Act.put, List.setIfInBounds_toArray, List.set_cons_zero, List.set_cons_succ]
          iterate 2
            refine seq_take (v := ?_) (wanted_yes rfl rfl rfl rfl) ?_ ?_
            rotate_left
            · go_simp
              try with_reducible rfl
            try simp only [Act.put, List.setIfInBounds_toArray, List.set_cons_zero, List.set_cons_succ]
          iterate 2
            refine seq_take (v := ?_) (wanted_un rfl) ?_ ?_
            rotate_left
            · go_simp
              try with_reducible rfl
            try simp only [Act.put, List.setIfInBounds_toArray, List.set_cons_zero, List.set_cons_succ]
          iterate 4
            refine seq_take (v := ?_) (wanted_yes rfl rfl rfl rfl) ?_ ?_
            rotate_left
            · go_simp
              try with_reducible rfl
            try simp only [Act.put, List.setIfInBounds_toArray, List.set_cons_zero, List.set_cons_succ]
          iterate 2
            refine seq_take (v := ?_) (wanted_un rfl) ?_ ?_
            rotate_left
            · go_simp
              try with_reducible rfl
            try simp only [Act.put, List.setIfInBounds_toArray, List.set_cons_zero, List.set_cons_succ]
          iterate 2
            refine seq_take (v := ?_) (wanted_yes rfl rfl rfl rfl) ?_ ?_
            rotate_left
            · go_simp
              try with_reducible rfl
            try simp only [Act.put, List.setIfInBounds_toArray, List.set_cons_zero, List.set_cons_succ]
          refine seq_move (wanted_yes rfl rfl rfl rfl) (fun K hK => ?_)
          go_simp
          (with_reducible refine Q5.out.mono ?_)
          rintro e w6 ⟨rfl, q, rfl⟩
          refine hK.out _ _ ?_
          clear hK K
          try simp only [Act.put, List.setIfInBounds_toArray, List.set_cons_zero, List.set_cons_succ]
          iterate 2
            refine seq_take (v := ?_) (wanted_un rfl) ?_ ?_
            rotate_left
            · go_simp
              try with_reducible rfl
            try simp only [Act.put, List.setIfInBounds_toArray, List.set_cons_zero, List.set_cons_succ]
          refine seq_done ?_
          go_wp2_with fail
          go_ret
          exact ⟨rfl, below_drewN B5.out q⟩
end Go.Proofs.YtaddefjkjlkjnaaDoor
