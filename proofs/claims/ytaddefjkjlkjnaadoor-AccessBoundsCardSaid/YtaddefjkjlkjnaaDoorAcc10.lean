/- Walk of access.line: one reply as a line. Condition: texts are within bounds. -/
import Derived.Test.YtaddefjkjlkjnaaDoorAcc9
import Derived.Deep.RegionHeld3
import Derived.Deep.DrawnRows
namespace Go.Proofs.YtaddefjkjlkjnaaDoor
open Go.RowKit IH
set_option maxRecDepth 100000
set_option linter.unusedSimpArgs false

def d10 (n : Int) : List UInt8 := digs 10 64 n.toNat
def words28 (t : Reply) : List (List UInt8) := [d10 t.moment, d10 t.conn, word28 t.kind, dash28 t.method, dash28 t.uri, d10 t.status, d10 t.age, d10 t.lines, quote27 t.key]
def line28 (t : Reply) : List UInt8 := Lib.join (words28 t) [32] ++ [10]
def int64 (n : Int) : Prop := -9223372036854775808 ≤ n ∧ n ≤ 9223372036854775807
def ints28 (t : Reply) : Prop := int64 t.moment ∧ int64 t.conn ∧ int64 t.status ∧ int64 t.age ∧ int64 t.lines

theorem cell_bytesWorld (w : World) (e : TypeId) (s : ByteArray) (p : Addr) (h : p.block < w.heap.size) : (Lib.bytesWorld w e s).cell? p = w.cell? p := (below_bytesWorld w e s).cell h

theorem slice_bytesWorld (W : World) (e : TypeId) (s : ByteArray) (hs : s.size ≤ 1000000000) : SliceIn (Lib.bytesWorld W e s) (Lib.bytesWorld W e s).heap.size 1 (some ⟨W.heap.size, 0, none⟩) s.size (grownCap W s.size 0 e) (bytesV s.data.toList) :=
  (RowAt.bytes W e s).slice (by rw [bytesV_length, data_len, Nat.mul_one]) (grownCap_ge W s.size 0 e) (Nat.le_trans (Nat.le_refl _) (grownCap_le_maxLen W s.size 0 e (by simp only [maxLen]; omega)))
theorem slice_drewN {w : World} {size : Nat} {A : Option Addr} {n c : Nat} {xs : List Value} (h : SliceIn w w.heap.size size A n c xs) (k : Nat) : SliceIn (w.drewN k) (w.drewN k).heap.size size A n c xs := h
theorem below_bytes {w W : World} (h : Below w.heap.size w W) (e : TypeId) (s : ByteArray) : Below w.heap.size w (Lib.bytesWorld W e s) := below_step h (below_bytesWorld W e s)
theorem below_al {w W : World} (h : Below w.heap.size w W) (o : Obj) : Below w.heap.size w (W.alloc o) := h.alloc h.size o

theorem cell_drewN (w : World) (n : Nat) (p : Addr) : (w.drewN n).cell? p = w.cell? p := rfl
theorem kept_bytes {w0 W : World} {g : Nat} {e e' : TypeId} {cs : List Value} {s : ByteArray} (h : RowAt w0 g e cs) (hW : W.heap = w0.heap) {j : Nat} {u : Value} (hu : cs[j]? = some u) : (Lib.bytesWorld W e' s).cell? ⟨g, j, none⟩ = some u := by
  have h1 : RowAt W g e cs := h.keep (by rw [hW])
  exact (h1.below (below_bytesWorld W e' s) h1.lt).cell hu
theorem cell_later {b : Nat} {v : Value} {W W' : World} (hb : Below W.heap.size W W') (j : Nat) (h : W.cell? ⟨b, j, none⟩ = some v) : W'.cell? ⟨b, j, none⟩ = some v := (hb.cell (World.block_lt_of_cell? W _ h)).trans h
theorem Join_any (J : ByteArray) (g : Nat) (xs : List ByteArray) (sep : ByteArray) (w : World) (hr : RowAt w g 9 (xs.map .string)) (n : Nat) (hn : xs.length = n) (hs : n ≤ 1000000) (hJ : J.data.toList = Lib.join (xs.map (·.data.toList)) sep.data.toList) (hlen : J.size ≤ 140737488355328) :
    Calls Tryd.prog 118 #[.slice (some ⟨g, 0, none⟩) n n, .string sep] w fun e w' => e = .returned (.string J) ∧ Below w.heap.size w w' := by
  subst hn
  rw [bytes_eq hJ]
  exact Tryd.strings_Join g 0 xs.length xs sep w (fun j x hx => by rw [Nat.zero_add]; exact hr.cell (by simp [hx])) hr.lt (by omega) (Nat.le_refl _) (by rw [← hJ, data_len]; exact hlen)

theorem d10_length (n : Int) : (d10 n).length ≤ 64 := digs_length 10 64 _
theorem word28_length (k : Int) : (word28 k).length ≤ 5 := by unfold word28; split; simp; split; simp; split; simp; split; simp; split <;> simp
theorem dash28_length (s : List UInt8) : (dash28 s).length ≤ s.length + 1 := by unfold dash28; split <;> simp
theorem quote27_length (s : List UInt8) : (quote27 s).length ≤ 4 * s.length + 2 := by
  have := codes_length s
  unfold quote27
  simp only [List.length_cons, List.length_append, List.length_nil]
  omega
theorem words28_length (t : Reply) (hm : t.method.length ≤ 1000000) (hu : t.uri.length ≤ 1000000) (hk : t.key.length ≤ 1000000) : (Lib.join (words28 t) [32]).length ≤ 10000000 := by
  unfold words28
  rw [Lib.join_length]
  simp only [Lib.lens, List.length_cons, List.length_nil, List.map_cons, List.map_nil, List.sum_cons, List.sum_nil]
  have a := d10_length t.moment
  have b := d10_length t.conn
  have c := word28_length t.kind
  have d := dash28_length t.method
  have e := dash28_length t.uri
  have f := d10_length t.status
  have g := d10_length t.age
  have h := d10_length t.lines
  have i := quote27_length t.key
  omega

/-- Nine cells of a block from its head on. -/
abbrev K9 (g : Nat) (v0 v1 v2 v3 v4 v5 v6 v7 v8 : Value) (w : World) : Prop :=
  w.cell? ⟨g, 0, none⟩ = some v0 ∧ w.cell? ⟨g, 1, none⟩ = some v1 ∧ w.cell? ⟨g, 2, none⟩ = some v2 ∧ w.cell? ⟨g, 3, none⟩ = some v3 ∧ w.cell? ⟨g, 4, none⟩ = some v4 ∧ w.cell? ⟨g, 5, none⟩ = some v5 ∧ w.cell? ⟨g, 6, none⟩ = some v6 ∧ w.cell? ⟨g, 7, none⟩ = some v7 ∧ w.cell? ⟨g, 8, none⟩ = some v8
section
variable {g : Nat} {v0 v1 v2 v3 v4 v5 v6 v7 v8 : Value} {W W' : World}
theorem K9.keep (h : K9 g v0 v1 v2 v3 v4 v5 v6 v7 v8 W) (hk : ∀ j, g < W.heap.size → W'.cell? ⟨g, j, none⟩ = W.cell? ⟨g, j, none⟩) : K9 g v0 v1 v2 v3 v4 v5 v6 v7 v8 W' := by
  have hlt : g < W.heap.size := World.block_lt_of_cell? W _ h.1
  unfold K9 at *
  rw [hk 0 hlt, hk 1 hlt, hk 2 hlt, hk 3 hlt, hk 4 hlt, hk 5 hlt, hk 6 hlt, hk 7 hlt, hk 8 hlt]
  exact h
theorem K9.below (hb : Below W.heap.size W W') (h : K9 g v0 v1 v2 v3 v4 v5 v6 v7 v8 W) : K9 g v0 v1 v2 v3 v4 v5 v6 v7 v8 W' := h.keep fun j hj => hb.cell (p := ⟨g, j, none⟩) hj
theorem K9.alloc (h : K9 g v0 v1 v2 v3 v4 v5 v6 v7 v8 W) (o : Obj) : K9 g v0 v1 v2 v3 v4 v5 v6 v7 v8 (W.alloc o) := h.keep fun j hj => World.cell?_alloc_lt W o ⟨g, j, none⟩ hj
theorem K9.bytes (h : K9 g v0 v1 v2 v3 v4 v5 v6 v7 v8 W) (e : TypeId) (s : ByteArray) : K9 g v0 v1 v2 v3 v4 v5 v6 v7 v8 (Lib.bytesWorld W e s) := h.below (below_bytesWorld W e s)
theorem K9.heap (h : K9 g v0 v1 v2 v3 v4 v5 v6 v7 v8 W) (hh : W'.heap = W.heap) : K9 g v0 v1 v2 v3 v4 v5 v6 v7 v8 W' := by
  have e : ∀ p, W'.cell? p = W.cell? p := fun p => by unfold World.cell?; rw [hh]
  exact h.keep fun j _ => e _
end

attribute [local go_sem ↓] Go.wp_at_zero Go.wp_at_succ

set_option maxHeartbeats 40000000 in
theorem line_any (t : Reply) (w : World) (hn : ints28 t) (hm : t.method.length ≤ 1000000) (hu : t.uri.length ≤ 1000000) (hk : t.key.length ≤ 1000000) :
    Calls Tryd.prog 77 #[.agg (toldCells t).toArray] w fun e w' => e = .returned (.string ⟨(line28 t).toArray⟩) ∧ Below w.heap.size w w' := by
  obtain ⟨tc, tk, tm, tl, tme, tu, tke, ts, ta⟩ := t
  obtain ⟨⟨a0, a1⟩, ⟨b0, b1⟩, ⟨c0, c1⟩, ⟨d0, d1⟩, ⟨e0, e1⟩⟩ := hn
  simp only at hm hu hk a0 a1 b0 b1 c0 c1 d0 d1 e0 e1
  simp only [toldCells]
  obtain ⟨Sk, hSk⟩ : ∃ S : ByteArray, S = ⟨tke.toArray⟩ := ⟨_, rfl⟩
  have dk : Sk.data.toList = tke := by rw [hSk]
  rw [← hSk]
  have zk : Sk.size ≤ 1000000 := by rw [hSk]; exact hk
  have Dk := Lib.hid dk; clear dk hSk
  go_enter Tryd.func77, Tryd.ntmps77
  go_upto_region 1 with fail
  obtain ⟨w0, hw0⟩ : ∃ w0 : World, w0 = w.alloc (.cells #[.int .i64 tc, .int .i64 tk, .int .i64 tm, .int .i64 tl, .string ⟨tme.toArray⟩, .string ⟨tu.toArray⟩, .string Sk, .int .i64 ts, .int .i64 ta] 48) := ⟨_, rfl⟩
  rw [← hw0]
  have hbox : RowAt w0 w.heap.size 48 [.int .i64 tc, .int .i64 tk, .int .i64 tm, .int .i64 tl, .string ⟨tme.toArray⟩, .string ⟨tu.toArray⟩, .string Sk, .int .i64 ts, .int .i64 ta] := by rw [hw0]; exact RowAt.new w _ _
  have hbel : Below w.heap.size w w0 := by rw [hw0]; exact (Below.refl _ _).alloc (Nat.le_refl _) _
  clear hw0
  have k0 := hbox.cell (j := 0) rfl
  have k1 := hbox.cell (j := 1) rfl
  have k2 := hbox.cell (j := 2) rfl
  have k3 := hbox.cell (j := 3) rfl
  have k4 := hbox.cell (j := 4) rfl
  have k5 := hbox.cell (j := 5) rfl
  have k6 := hbox.cell (j := 6) rfl
  have k7 := hbox.cell (j := 7) rfl
  have k8 := hbox.cell (j := 8) rfl
  have hlt := hbox.lt
  have hJl := words28_length ⟨tc, tk, tm, tl, tme, tu, tke, ts, ta⟩ hm hu hk
  obtain ⟨J, hJ⟩ : ∃ J : ByteArray, J.data.toList = Lib.join (words28 ⟨tc, tk, tm, tl, tme, tu, tke, ts, ta⟩) [32] := ⟨⟨(Lib.join (words28 ⟨tc, tk, tm, tl, tme, tu, tke, ts, ta⟩) [32]).toArray⟩, rfl⟩
  have hJs : J.size ≤ 10000000 := by rw [← hJ, data_len] at hJl; exact hJl
  have hJ2 : J.data.toList = Lib.join (([⟨(d10 tm).toArray⟩, ⟨(d10 tc).toArray⟩, ⟨(word28 tk).toArray⟩, ⟨(dash28 tme).toArray⟩, ⟨(dash28 tu).toArray⟩, ⟨(d10 ts).toArray⟩, ⟨(d10 ta).toArray⟩, ⟨(d10 tl).toArray⟩, ⟨(quote27 Sk.data.toList).toArray⟩] : List ByteArray).map (·.data.toList)) (⟨#[32]⟩ : ByteArray).data.toList := by
    rw [hJ, Dk.out]; rfl
  have HJ2 := Lib.hid hJ2; clear hJ2 hJl
  have HJ := Lib.hid hJ; clear hJ
  have Hbox := Lib.hid hbox; clear hbox
  have hcv := fun W : World => Lib.run_convert_string_bytes (P := Tryd.prog) W 9 22 5 Sk Tryd.underlying9 Tryd.underlying22 Tryd.underlying5
  refine wp_region_noPanic ?_
  refine wp_region_held_drew (S := (K9 w.heap.size (.int .i64 tc) (.int .i64 tk) (.int .i64 tm) (.int .i64 tl) (.string ⟨tme.toArray⟩) (.string ⟨tu.toArray⟩) (.string Sk) (.int .i64 ts) (.int .i64 ta))) (by kernel_rfl) (⟨k0, k1, k2, k3, k4, k5, k6, k7, k8⟩) (fun hH => ?_)
  refine wpAnyH_take (i := 0) (v := ?v0) rfl (by kernel_rfl) (by kernel_rfl) (by kernel_rfl) (fun _ _ _ h => h) (Or.inl ⟨by rfl, ?hy0⟩) hH ?rest0
  case hy0 => (intro w hSw; (try dsimp only at hSw); go_simp; try with_reducible rfl)
  try simp only [Act.put, List.setIfInBounds_toArray, List.set_cons_zero, List.set_cons_succ]
  refine wpAnyH_take (i := 1) (v := ?v1) rfl (by kernel_rfl) (by kernel_rfl) (by kernel_rfl) (fun _ _ _ h => h) (Or.inl ⟨by rfl, ?hy1⟩) hH ?rest1
  case hy1 => (intro w hSw; (try dsimp only at hSw); go_simp; try with_reducible rfl)
  try simp only [Act.put, List.setIfInBounds_toArray, List.set_cons_zero, List.set_cons_succ]
  refine wpAnyH_take (i := 3) (v := ?v3) rfl (by kernel_rfl) (by kernel_rfl) (by kernel_rfl) (fun _ _ _ h => h) (Or.inl ⟨by rfl, ?hy3⟩) hH ?rest3
  case hy3 => (intro w hSw; (try dsimp only at hSw); go_simp; try with_reducible rfl)
  try simp only [Act.put, List.setIfInBounds_toArray, List.set_cons_zero, List.set_cons_succ]
  refine wpAnyH_take (i := 4) (v := ?v4) rfl (by kernel_rfl) (by kernel_rfl) (by kernel_rfl) (fun _ _ _ h => h) (Or.inl ⟨by rfl, ?hy4⟩) hH ?rest4
  case hy4 => (intro w hSw; (try dsimp only at hSw); go_simp; try with_reducible rfl)
  try simp only [Act.put, List.setIfInBounds_toArray, List.set_cons_zero, List.set_cons_succ]
  refine wpAnyH_take (i := 6) (v := ?v6) rfl (by kernel_rfl) (by kernel_rfl) (by kernel_rfl) (fun _ _ _ h => h) (Or.inl ⟨by rfl, ?hy6⟩) hH ?rest6
  case hy6 => (intro w hSw; (try dsimp only at hSw); go_simp; try with_reducible rfl)
  try simp only [Act.put, List.setIfInBounds_toArray, List.set_cons_zero, List.set_cons_succ]
  refine wpAnyH_take (i := 7) (v := ?v7) rfl (by kernel_rfl) (by kernel_rfl) (by kernel_rfl) (fun _ _ _ h => h) (Or.inl ⟨by rfl, ?hy7⟩) hH ?rest7
  case hy7 => (intro w hSw; (try dsimp only at hSw); go_simp; try with_reducible rfl)
  try simp only [Act.put, List.setIfInBounds_toArray, List.set_cons_zero, List.set_cons_succ]
  refine wpAnyH_take (i := 9) (v := ?v9) rfl (by kernel_rfl) (by kernel_rfl) (by kernel_rfl) (fun _ _ _ h => h) (Or.inl ⟨by rfl, ?hy9⟩) hH ?rest9
  case hy9 => (intro w hSw; (try dsimp only at hSw); go_simp; try with_reducible rfl)
  try simp only [Act.put, List.setIfInBounds_toArray, List.set_cons_zero, List.set_cons_succ]
  refine wpAnyH_take (i := 10) (v := ?v10) rfl (by kernel_rfl) (by kernel_rfl) (by kernel_rfl) (fun _ _ _ h => h) (Or.inl ⟨by rfl, ?hy10⟩) hH ?rest10
  case hy10 => (intro w hSw; (try dsimp only at hSw); go_simp; try with_reducible rfl)
  try simp only [Act.put, List.setIfInBounds_toArray, List.set_cons_zero, List.set_cons_succ]
  refine wpAnyH_take (i := 12) (v := ?v12) rfl (by kernel_rfl) (by kernel_rfl) (by kernel_rfl) (fun _ _ _ h => h) (Or.inl ⟨by rfl, ?hy12⟩) hH ?rest12
  case hy12 => (intro w hSw; (try dsimp only at hSw); go_simp; try with_reducible rfl)
  try simp only [Act.put, List.setIfInBounds_toArray, List.set_cons_zero, List.set_cons_succ]
  refine wpAnyH_take (i := 13) (v := ?v13) rfl (by kernel_rfl) (by kernel_rfl) (by kernel_rfl) (fun _ _ _ h => h) (Or.inl ⟨by rfl, ?hy13⟩) hH ?rest13
  case hy13 => (intro w hSw; (try dsimp only at hSw); go_simp; try with_reducible rfl)
  try simp only [Act.put, List.setIfInBounds_toArray, List.set_cons_zero, List.set_cons_succ]
  refine wpAnyH_take (i := 15) (v := ?v15) rfl (by kernel_rfl) (by kernel_rfl) (by kernel_rfl) (fun _ _ _ h => h) (Or.inl ⟨by rfl, ?hy15⟩) hH ?rest15
  case hy15 => (intro w hSw; (try dsimp only at hSw); go_simp; try with_reducible rfl)
  try simp only [Act.put, List.setIfInBounds_toArray, List.set_cons_zero, List.set_cons_succ]
  refine wpAnyH_take (i := 16) (v := ?v16) rfl (by kernel_rfl) (by kernel_rfl) (by kernel_rfl) (fun _ _ _ h => h) (Or.inl ⟨by rfl, ?hy16⟩) hH ?rest16
  case hy16 => (intro w hSw; (try dsimp only at hSw); go_simp; try with_reducible rfl)
  try simp only [Act.put, List.setIfInBounds_toArray, List.set_cons_zero, List.set_cons_succ]
  refine wpAnyH_take (i := 18) (v := ?v18) rfl (by kernel_rfl) (by kernel_rfl) (by kernel_rfl) (fun _ _ _ h => h) (Or.inl ⟨by rfl, ?hy18⟩) hH ?rest18
  case hy18 => (intro w hSw; (try dsimp only at hSw); go_simp; try with_reducible rfl)
  try simp only [Act.put, List.setIfInBounds_toArray, List.set_cons_zero, List.set_cons_succ]
  refine wpAnyH_take (i := 19) (v := ?v19) rfl (by kernel_rfl) (by kernel_rfl) (by kernel_rfl) (fun _ _ _ h => h) (Or.inl ⟨by rfl, ?hy19⟩) hH ?rest19
  case hy19 => (intro w hSw; (try dsimp only at hSw); go_simp; try with_reducible rfl)
  try simp only [Act.put, List.setIfInBounds_toArray, List.set_cons_zero, List.set_cons_succ]
  refine wpAnyH_take (i := 21) (v := ?v21) rfl (by kernel_rfl) (by kernel_rfl) (by kernel_rfl) (fun _ _ _ h => h) (Or.inl ⟨by rfl, ?hy21⟩) hH ?rest21
  case hy21 => (intro w hSw; (try dsimp only at hSw); go_simp; try with_reducible rfl)
  try simp only [Act.put, List.setIfInBounds_toArray, List.set_cons_zero, List.set_cons_succ]
  refine wpAnyH_take (i := 22) (v := ?v22) rfl (by kernel_rfl) (by kernel_rfl) (by kernel_rfl) (fun _ _ _ h => h) (Or.inl ⟨by rfl, ?hy22⟩) hH ?rest22
  case hy22 => (intro w hSw; (try dsimp only at hSw); go_simp; try with_reducible rfl)
  try simp only [Act.put, List.setIfInBounds_toArray, List.set_cons_zero, List.set_cons_succ]
  refine wpAnyH_take (i := 24) (v := ?v24) rfl (by kernel_rfl) (by kernel_rfl) (by kernel_rfl) (fun _ _ _ h => h) (Or.inl ⟨by rfl, ?hy24⟩) hH ?rest24
  case hy24 => (intro w hSw; (try dsimp only at hSw); go_simp; try with_reducible rfl)
  try simp only [Act.put, List.setIfInBounds_toArray, List.set_cons_zero, List.set_cons_succ]
  refine wpAnyH_take (i := 25) (v := ?v25) rfl (by kernel_rfl) (by kernel_rfl) (by kernel_rfl) (fun _ _ _ h => h) (Or.inl ⟨by rfl, ?hy25⟩) hH ?rest25
  case hy25 => (intro w hSw; (try dsimp only at hSw); go_simp; try with_reducible rfl)
  try simp only [Act.put, List.setIfInBounds_toArray, List.set_cons_zero, List.set_cons_succ]
  refine wpAnyH_ready (rs := [2, 26]) (by kernel_rfl) (by simp) ?_
  refine AllReadyH.cons (o := ?o0) ?ho0 (fun K hK => ?step0) ?more0
  case ho0 => (simp only [List.getElem?_toArray, List.getElem?_cons_succ, List.getElem?_cons_zero]; rfl)
  case step0 =>
    go_simp
    (go_at_call 119; refine (digits28_any _ (by assumption) (by assumption) _).mono ?_; rintro e w' ⟨rfl, nq, rfl⟩)
    refine hK.out _ _ ?sh1 (fun hN => ?re1)
    case sh1 => (refine K9.heap hH ?_; rfl)
    revert hN; clear hH hK K; intro hH
    try simp only [Act.put, List.setIfInBounds_toArray, List.set_cons_zero, List.set_cons_succ]
    refine wpAnyH_ready (rs := [5, 26]) (by kernel_rfl) (by simp) ?_
    refine AllReadyH.cons (o := ?o1) ?ho1 (fun K hK => ?step1) ?more1
    case ho1 => (simp only [List.getElem?_toArray, List.getElem?_cons_succ, List.getElem?_cons_zero]; rfl)
    case step1 =>
      go_simp
      (go_at_call 119; refine (digits28_any _ (by assumption) (by assumption) _).mono ?_; rintro e w' ⟨rfl, nq, rfl⟩)
      refine hK.out _ _ ?sh2 (fun hN => ?re2)
      case sh2 => (refine K9.heap hH ?_; rfl)
      revert hN; clear hH hK K; intro hH
      try simp only [Act.put, List.setIfInBounds_toArray, List.set_cons_zero, List.set_cons_succ]
      refine wpAnyH_ready (rs := [8, 26]) (by kernel_rfl) (by simp) ?_
      refine AllReadyH.cons (o := ?o2) ?ho2 (fun K hK => ?step2) ?more2
      case ho2 => (simp only [List.getElem?_toArray, List.getElem?_cons_succ, List.getElem?_cons_zero]; rfl)
      case step2 =>
        go_simp
        (go_at_call 28; refine (Word_any _ _).mono ?_; rintro e w' ⟨rfl, rfl⟩)
        refine hK.out _ _ ?sh3 (fun hN => ?re3)
        case sh3 => (exact hH)
        revert hN; clear hH hK K; intro hH
        try simp only [Act.put, List.setIfInBounds_toArray, List.set_cons_zero, List.set_cons_succ]
        refine wpAnyH_ready (rs := [11, 26]) (by kernel_rfl) (by simp) ?_
        refine AllReadyH.cons (o := ?o3) ?ho3 (fun K hK => ?step3) ?more3
        case ho3 => (simp only [List.getElem?_toArray, List.getElem?_cons_succ, List.getElem?_cons_zero]; rfl)
        case step3 =>
          go_simp
          (go_at_call 120; refine (dashed_any _ _).mono ?_; rintro e w' ⟨rfl, rfl⟩)
          refine hK.out _ _ ?sh4 (fun hN => ?re4)
          case sh4 => (exact hH)
          revert hN; clear hH hK K; intro hH
          try simp only [Act.put, List.setIfInBounds_toArray, List.set_cons_zero, List.set_cons_succ]
          refine wpAnyH_ready (rs := [14, 26]) (by kernel_rfl) (by simp) ?_
          refine AllReadyH.cons (o := ?o4) ?ho4 (fun K hK => ?step4) ?more4
          case ho4 => (simp only [List.getElem?_toArray, List.getElem?_cons_succ, List.getElem?_cons_zero]; rfl)
          case step4 =>
            go_simp
            (go_at_call 120; refine (dashed_any _ _).mono ?_; rintro e w' ⟨rfl, rfl⟩)
            refine hK.out _ _ ?sh5 (fun hN => ?re5)
            case sh5 => (exact hH)
            revert hN; clear hH hK K; intro hH
            try simp only [Act.put, List.setIfInBounds_toArray, List.set_cons_zero, List.set_cons_succ]
            refine wpAnyH_ready (rs := [17, 26]) (by kernel_rfl) (by simp) ?_
            refine AllReadyH.cons (o := ?o5) ?ho5 (fun K hK => ?step5) ?more5
            case ho5 => (simp only [List.getElem?_toArray, List.getElem?_cons_succ, List.getElem?_cons_zero]; rfl)
            case step5 =>
              go_simp
              (go_at_call 119; refine (digits28_any _ (by assumption) (by assumption) _).mono ?_; rintro e w' ⟨rfl, nq, rfl⟩)
              refine hK.out _ _ ?sh6 (fun hN => ?re6)
              case sh6 => (refine K9.heap hH ?_; rfl)
              revert hN; clear hH hK K; intro hH
              try simp only [Act.put, List.setIfInBounds_toArray, List.set_cons_zero, List.set_cons_succ]
              refine wpAnyH_ready (rs := [20, 26]) (by kernel_rfl) (by simp) ?_
              refine AllReadyH.cons (o := ?o6) ?ho6 (fun K hK => ?step6) ?more6
              case ho6 => (simp only [List.getElem?_toArray, List.getElem?_cons_succ, List.getElem?_cons_zero]; rfl)
              case step6 =>
                go_simp
                (go_at_call 119; refine (digits28_any _ (by assumption) (by assumption) _).mono ?_; rintro e w' ⟨rfl, nq, rfl⟩)
                refine hK.out _ _ ?sh7 (fun hN => ?re7)
                case sh7 => (refine K9.heap hH ?_; rfl)
                revert hN; clear hH hK K; intro hH
                try simp only [Act.put, List.setIfInBounds_toArray, List.set_cons_zero, List.set_cons_succ]
                refine wpAnyH_ready (rs := [23, 26]) (by kernel_rfl) (by simp) ?_
                refine AllReadyH.cons (o := ?o7) ?ho7 (fun K hK => ?step7) ?more7
                case ho7 => (simp only [List.getElem?_toArray, List.getElem?_cons_succ, List.getElem?_cons_zero]; rfl)
                case step7 =>
                  go_simp
                  (go_at_call 119; refine (digits28_any _ (by assumption) (by assumption) _).mono ?_; rintro e w' ⟨rfl, nq, rfl⟩)
                  refine hK.out _ _ ?sh8 (fun hN => ?re8)
                  case sh8 => (refine K9.heap hH ?_; rfl)
                  revert hN; clear hH hK K; intro hH
                  try simp only [Act.put, List.setIfInBounds_toArray, List.set_cons_zero, List.set_cons_succ]
                  refine wpAnyH_ready (rs := [26]) (by kernel_rfl) (by simp) ?_
                  refine AllReadyH.cons (o := ?o8) ?ho8 (fun K hK => ?step8) ?more8
                  case ho8 => (simp only [List.getElem?_toArray, List.getElem?_cons_succ, List.getElem?_cons_zero]; rfl)
                  case step8 =>
                    go_simp
                    refine hK.out _ _ ?sh9 (fun hN => ?re9)
                    case sh9 => (refine K9.bytes ?_ _ _; refine K9.heap hH ?_; rfl)
                    revert hN; clear hH hK K; intro hH
                    try simp only [Act.put, List.setIfInBounds_toArray, List.set_cons_zero, List.set_cons_succ]
                    refine wpAnyH_ready (rs := [27]) (by kernel_rfl) (by simp) ?_
                    refine AllReadyH.cons (o := ?o9) ?ho9 (fun K hK => ?step9) ?more9
                    case ho9 => (simp only [List.getElem?_toArray, List.getElem?_cons_succ, List.getElem?_cons_zero]; rfl)
                    case step9 =>
                      go_simp
                      (go_at_call 121; refine (Quote_any _ _ _ _ _ (by repeat (first | exact slice_bytesWorld _ _ _ (by omega) | refine slice_drewN ?_ _)) (by omega)).mono ?_; rintro e wq ⟨rfl, hbq⟩)
                      refine hK.out _ _ ?sh10 (fun hN => ?re10)
                      case sh10 => (refine K9.below hbq ?_; refine K9.heap hH ?_; rfl)
                      revert hN; clear hH hK K; intro hH
                      try simp only [Act.put, List.setIfInBounds_toArray, List.set_cons_zero, List.set_cons_succ]
                      refine wpAnyH_ready (rs := [28]) (by kernel_rfl) (by simp) ?_
                      refine AllReadyH.cons (o := ?o10) ?ho10 (fun K hK => ?step10) ?more10
                      case ho10 => (simp only [List.getElem?_toArray, List.getElem?_cons_succ, List.getElem?_cons_zero]; rfl)
                      case step10 =>
                        go_simp
                        refine hK.out _ _ ?sh11 (fun hN => ?re11)
                        case sh11 => (refine K9.alloc ?_ _; refine K9.heap hH ?_; rfl)
                        revert hN; clear hH hK K; intro hH
                        try simp only [Act.put, List.setIfInBounds_toArray, List.set_cons_zero, List.set_cons_succ]
                        refine wpAnyH_ready (rs := [29]) (by kernel_rfl) (by simp) ?_
                        refine AllReadyH.cons (o := ?o11) ?ho11 (fun K hK => ?step11) ?more11
                        case ho11 => (simp only [List.getElem?_toArray, List.getElem?_cons_succ, List.getElem?_cons_zero]; rfl)
                        case step11 =>
                          go_simp
                          (go_at_call 118; refine (Join_any J _ [⟨(d10 tm).toArray⟩, ⟨(d10 tc).toArray⟩, ⟨(word28 tk).toArray⟩, ⟨(dash28 tme).toArray⟩, ⟨(dash28 tu).toArray⟩, ⟨(d10 ts).toArray⟩, ⟨(d10 ta).toArray⟩, ⟨(d10 tl).toArray⟩, ⟨(quote27 Sk.data.toList).toArray⟩] _ _ (RowAt.new_at _ _ _ _ rfl) 9 rfl (by decide) HJ2.out (by omega)).mono ?_; rintro e wj ⟨rfl, hbj⟩)
                          refine hK.out _ _ ?sh12 (fun hN => ?re12)
                          case sh12 => (refine K9.below hbj ?_; refine K9.heap hH ?_; rfl)
                          revert hN; clear hH hK K; intro hH
                          try simp only [Act.put, List.setIfInBounds_toArray, List.set_cons_zero, List.set_cons_succ]
                          refine wpAnyH_ready (rs := [30]) (by kernel_rfl) (by simp) ?_
                          refine AllReadyH.cons (o := ?o12) ?ho12 (fun K hK => ?step12) ?more12
                          case ho12 => (simp only [List.getElem?_toArray, List.getElem?_cons_succ, List.getElem?_cons_zero]; rfl)
                          case step12 =>
                            go_simp
                            go_wp2_with fail
                            refine hK.out _ _ ?sh13 (fun hN => ?re13)
                            case sh13 => (exact hH)
                            revert hN; clear hH hK K; intro hH
                            try simp only [Act.put, List.setIfInBounds_toArray, List.set_cons_zero, List.set_cons_succ]
                            refine wpAnyH_ready (rs := [31]) (by kernel_rfl) (by simp) ?_
                            refine AllReadyH.cons (o := ?o13) ?ho13 (fun K hK => ?step13) ?more13
                            case ho13 => (simp only [List.getElem?_toArray, List.getElem?_cons_succ, List.getElem?_cons_zero]; rfl)
                            case step13 =>
                              go_simp
                              refine hK.out _ _ ?sh14 (fun hN => ?re14)
                              case sh14 => (exact hH)
                              revert hN; clear hH hK K; intro hH
                              try simp only [Act.put, List.setIfInBounds_toArray, List.set_cons_zero, List.set_cons_succ]
                              refine wpAnyH_done (by kernel_rfl) ?_ _
                              refine NoPanic.normal ?_
                              go_wp2
                              go_ret
                              refine ⟨ret_str (bytes_inj (by rw [append_data, HJ.out]; rfl)), ?_⟩
                              refine below_step ?_ hbj
                              refine below_al ?_ _
                              refine below_step ?_ hbq
                              repeat (first | exact hbel | refine below_bytes ?_ _ _ | refine below_drewN ?_ _)
                            exact AllReadyH.nil
                          exact AllReadyH.nil
                        exact AllReadyH.nil
                      exact AllReadyH.nil
                    exact AllReadyH.nil
                  exact AllReadyH.nil
                refine AllReadyH.cons (o := ?o14) ?ho14 (fun K hK => ?step14) ?more14
                case ho14 => (simp only [List.getElem?_toArray, List.getElem?_cons_succ, List.getElem?_cons_zero]; rfl)
                case step14 =>
                  go_simp
                  refine hK.out _ _ ?sh15 (fun hN => ?re15)
                  case sh15 => (refine K9.bytes ?_ _ _; refine K9.heap hH ?_; rfl)
                  revert hN; clear hH hK K; intro hH
                  try simp only [Act.put, List.setIfInBounds_toArray, List.set_cons_zero, List.set_cons_succ]
                  refine wpAnyH_ready (rs := [23]) (by kernel_rfl) (by simp) ?_
                  refine AllReadyH.cons (o := ?o15) ?ho15 (fun K hK => ?step15) ?more15
                  case ho15 => (simp only [List.getElem?_toArray, List.getElem?_cons_succ, List.getElem?_cons_zero]; rfl)
                  case step15 =>
                    go_simp
                    (go_at_call 119; refine (digits28_any _ (by assumption) (by assumption) _).mono ?_; rintro e w' ⟨rfl, nq, rfl⟩)
                    refine hK.out _ _ ?sh16 (fun hN => ?re16)
                    case sh16 => (refine K9.heap hH ?_; rfl)
                    revert hN; clear hH hK K; intro hH
                    try simp only [Act.put, List.setIfInBounds_toArray, List.set_cons_zero, List.set_cons_succ]
                    refine wpAnyH_ready (rs := [27]) (by kernel_rfl) (by simp) ?_
                    refine AllReadyH.cons (o := ?o16) ?ho16 (fun K hK => ?step16) ?more16
                    case ho16 => (simp only [List.getElem?_toArray, List.getElem?_cons_succ, List.getElem?_cons_zero]; rfl)
                    case step16 =>
                      go_simp
                      (go_at_call 121; refine (Quote_any _ _ _ _ _ (by repeat (first | exact slice_bytesWorld _ _ _ (by omega) | refine slice_drewN ?_ _)) (by omega)).mono ?_; rintro e wq ⟨rfl, hbq⟩)
                      refine hK.out _ _ ?sh17 (fun hN => ?re17)
                      case sh17 => (refine K9.below hbq ?_; refine K9.heap hH ?_; rfl)
                      revert hN; clear hH hK K; intro hH
                      try simp only [Act.put, List.setIfInBounds_toArray, List.set_cons_zero, List.set_cons_succ]
                      refine wpAnyH_ready (rs := [28]) (by kernel_rfl) (by simp) ?_
                      refine AllReadyH.cons (o := ?o17) ?ho17 (fun K hK => ?step17) ?more17
                      case ho17 => (simp only [List.getElem?_toArray, List.getElem?_cons_succ, List.getElem?_cons_zero]; rfl)
                      case step17 =>
                        go_simp
                        refine hK.out _ _ ?sh18 (fun hN => ?re18)
                        case sh18 => (refine K9.alloc ?_ _; refine K9.heap hH ?_; rfl)
                        revert hN; clear hH hK K; intro hH
                        try simp only [Act.put, List.setIfInBounds_toArray, List.set_cons_zero, List.set_cons_succ]
                        refine wpAnyH_ready (rs := [29]) (by kernel_rfl) (by simp) ?_
                        refine AllReadyH.cons (o := ?o18) ?ho18 (fun K hK => ?step18) ?more18
                        case ho18 => (simp only [List.getElem?_toArray, List.getElem?_cons_succ, List.getElem?_cons_zero]; rfl)
                        case step18 =>
                          go_simp
                          (go_at_call 118; refine (Join_any J _ [⟨(d10 tm).toArray⟩, ⟨(d10 tc).toArray⟩, ⟨(word28 tk).toArray⟩, ⟨(dash28 tme).toArray⟩, ⟨(dash28 tu).toArray⟩, ⟨(d10 ts).toArray⟩, ⟨(d10 ta).toArray⟩, ⟨(d10 tl).toArray⟩, ⟨(quote27 Sk.data.toList).toArray⟩] _ _ (RowAt.new_at _ _ _ _ rfl) 9 rfl (by decide) HJ2.out (by omega)).mono ?_; rintro e wj ⟨rfl, hbj⟩)
                          refine hK.out _ _ ?sh19 (fun hN => ?re19)
                          case sh19 => (refine K9.below hbj ?_; refine K9.heap hH ?_; rfl)
                          revert hN; clear hH hK K; intro hH
                          try simp only [Act.put, List.setIfInBounds_toArray, List.set_cons_zero, List.set_cons_succ]
                          refine wpAnyH_ready (rs := [30]) (by kernel_rfl) (by simp) ?_
                          refine AllReadyH.cons (o := ?o19) ?ho19 (fun K hK => ?step19) ?more19
                          case ho19 => (simp only [List.getElem?_toArray, List.getElem?_cons_succ, List.getElem?_cons_zero]; rfl)
                          case step19 =>
                            go_simp
                            go_wp2_with fail
                            refine hK.out _ _ ?sh20 (fun hN => ?re20)
                            case sh20 => (exact hH)
                            revert hN; clear hH hK K; intro hH
                            try simp only [Act.put, List.setIfInBounds_toArray, List.set_cons_zero, List.set_cons_succ]
                            refine wpAnyH_ready (rs := [31]) (by kernel_rfl) (by simp) ?_
                            refine AllReadyH.cons (o := ?o20) ?ho20 (fun K hK => ?step20) ?more20
                            case ho20 => (simp only [List.getElem?_toArray, List.getElem?_cons_succ, List.getElem?_cons_zero]; rfl)
                            case step20 =>
                              go_simp
                              refine hK.out _ _ ?sh21 (fun hN => ?re21)
                              case sh21 => (exact hH)
                              revert hN; clear hH hK K; intro hH
                              try simp only [Act.put, List.setIfInBounds_toArray, List.set_cons_zero, List.set_cons_succ]
                              refine wpAnyH_done (by kernel_rfl) ?_ _
                              refine NoPanic.normal ?_
                              go_wp2
                              go_ret
                              refine ⟨ret_str (bytes_inj (by rw [append_data, HJ.out]; rfl)), ?_⟩
                              refine below_step ?_ hbj
                              refine below_al ?_ _
                              refine below_step ?_ hbq
                              repeat (first | exact hbel | refine below_bytes ?_ _ _ | refine below_drewN ?_ _)
                            exact AllReadyH.nil
                          exact AllReadyH.nil
                        exact AllReadyH.nil
                      exact AllReadyH.nil
                    exact AllReadyH.nil
                  exact AllReadyH.nil
                exact AllReadyH.nil
              refine AllReadyH.cons (o := ?o21) ?ho21 (fun K hK => ?step21) ?more21
              case ho21 => (simp only [List.getElem?_toArray, List.getElem?_cons_succ, List.getElem?_cons_zero]; rfl)
              case step21 =>
                go_simp
                refine hK.out _ _ ?sh22 (fun hN => ?re22)
                case sh22 => (refine K9.bytes ?_ _ _; refine K9.heap hH ?_; rfl)
                revert hN; clear hH hK K; intro hH
                try simp only [Act.put, List.setIfInBounds_toArray, List.set_cons_zero, List.set_cons_succ]
                refine wpAnyH_ready (rs := [20]) (by kernel_rfl) (by simp) ?_
                refine AllReadyH.cons (o := ?o22) ?ho22 (fun K hK => ?step22) ?more22
                case ho22 => (simp only [List.getElem?_toArray, List.getElem?_cons_succ, List.getElem?_cons_zero]; rfl)
                case step22 =>
                  go_simp
                  (go_at_call 119; refine (digits28_any _ (by assumption) (by assumption) _).mono ?_; rintro e w' ⟨rfl, nq, rfl⟩)
                  refine hK.out _ _ ?sh23 (fun hN => ?re23)
                  case sh23 => (refine K9.heap hH ?_; rfl)
                  revert hN; clear hH hK K; intro hH
                  try simp only [Act.put, List.setIfInBounds_toArray, List.set_cons_zero, List.set_cons_succ]
                  refine wpAnyH_ready (rs := [23]) (by kernel_rfl) (by simp) ?_
                  refine AllReadyH.cons (o := ?o23) ?ho23 (fun K hK => ?step23) ?more23
                  case ho23 => (simp only [List.getElem?_toArray, List.getElem?_cons_succ, List.getElem?_cons_zero]; rfl)
                  case step23 =>
                    go_simp
                    (go_at_call 119; refine (digits28_any _ (by assumption) (by assumption) _).mono ?_; rintro e w' ⟨rfl, nq, rfl⟩)
                    refine hK.out _ _ ?sh24 (fun hN => ?re24)
                    case sh24 => (refine K9.heap hH ?_; rfl)
                    revert hN; clear hH hK K; intro hH
                    try simp only [Act.put, List.setIfInBounds_toArray, List.set_cons_zero, List.set_cons_succ]
                    refine wpAnyH_ready (rs := [27]) (by kernel_rfl) (by simp) ?_
                    refine AllReadyH.cons (o := ?o24) ?ho24 (fun K hK => ?step24) ?more24
                    case ho24 => (simp only [List.getElem?_toArray, List.getElem?_cons_succ, List.getElem?_cons_zero]; rfl)
                    case step24 =>
                      go_simp
                      (go_at_call 121; refine (Quote_any _ _ _ _ _ (by repeat (first | exact slice_bytesWorld _ _ _ (by omega) | refine slice_drewN ?_ _)) (by omega)).mono ?_; rintro e wq ⟨rfl, hbq⟩)
                      refine hK.out _ _ ?sh25 (fun hN => ?re25)
                      case sh25 => (refine K9.below hbq ?_; refine K9.heap hH ?_; rfl)
                      revert hN; clear hH hK K; intro hH
                      try simp only [Act.put, List.setIfInBounds_toArray, List.set_cons_zero, List.set_cons_succ]
                      refine wpAnyH_ready (rs := [28]) (by kernel_rfl) (by simp) ?_
                      refine AllReadyH.cons (o := ?o25) ?ho25 (fun K hK => ?step25) ?more25
                      case ho25 => (simp only [List.getElem?_toArray, List.getElem?_cons_succ, List.getElem?_cons_zero]; rfl)
                      case step25 =>
                        go_simp
                        refine hK.out _ _ ?sh26 (fun hN => ?re26)
                        case sh26 => (refine K9.alloc ?_ _; refine K9.heap hH ?_; rfl)
                        revert hN; clear hH hK K; intro hH
                        try simp only [Act.put, List.setIfInBounds_toArray, List.set_cons_zero, List.set_cons_succ]
                        refine wpAnyH_ready (rs := [29]) (by kernel_rfl) (by simp) ?_
                        refine AllReadyH.cons (o := ?o26) ?ho26 (fun K hK => ?step26) ?more26
                        case ho26 => (simp only [List.getElem?_toArray, List.getElem?_cons_succ, List.getElem?_cons_zero]; rfl)
                        case step26 =>
                          go_simp
                          (go_at_call 118; refine (Join_any J _ [⟨(d10 tm).toArray⟩, ⟨(d10 tc).toArray⟩, ⟨(word28 tk).toArray⟩, ⟨(dash28 tme).toArray⟩, ⟨(dash28 tu).toArray⟩, ⟨(d10 ts).toArray⟩, ⟨(d10 ta).toArray⟩, ⟨(d10 tl).toArray⟩, ⟨(quote27 Sk.data.toList).toArray⟩] _ _ (RowAt.new_at _ _ _ _ rfl) 9 rfl (by decide) HJ2.out (by omega)).mono ?_; rintro e wj ⟨rfl, hbj⟩)
                          refine hK.out _ _ ?sh27 (fun hN => ?re27)
                          case sh27 => (refine K9.below hbj ?_; refine K9.heap hH ?_; rfl)
                          revert hN; clear hH hK K; intro hH
                          try simp only [Act.put, List.setIfInBounds_toArray, List.set_cons_zero, List.set_cons_succ]
                          refine wpAnyH_ready (rs := [30]) (by kernel_rfl) (by simp) ?_
                          refine AllReadyH.cons (o := ?o27) ?ho27 (fun K hK => ?step27) ?more27
                          case ho27 => (simp only [List.getElem?_toArray, List.getElem?_cons_succ, List.getElem?_cons_zero]; rfl)
                          case step27 =>
                            go_simp
                            go_wp2_with fail
                            refine hK.out _ _ ?sh28 (fun hN => ?re28)
                            case sh28 => (exact hH)
                            revert hN; clear hH hK K; intro hH
                            try simp only [Act.put, List.setIfInBounds_toArray, List.set_cons_zero, List.set_cons_succ]
                            refine wpAnyH_ready (rs := [31]) (by kernel_rfl) (by simp) ?_
                            refine AllReadyH.cons (o := ?o28) ?ho28 (fun K hK => ?step28) ?more28
                            case ho28 => (simp only [List.getElem?_toArray, List.getElem?_cons_succ, List.getElem?_cons_zero]; rfl)
                            case step28 =>
                              go_simp
                              refine hK.out _ _ ?sh29 (fun hN => ?re29)
                              case sh29 => (exact hH)
                              revert hN; clear hH hK K; intro hH
                              try simp only [Act.put, List.setIfInBounds_toArray, List.set_cons_zero, List.set_cons_succ]
                              refine wpAnyH_done (by kernel_rfl) ?_ _
                              refine NoPanic.normal ?_
                              go_wp2
                              go_ret
                              refine ⟨ret_str (bytes_inj (by rw [append_data, HJ.out]; rfl)), ?_⟩
                              refine below_step ?_ hbj
                              refine below_al ?_ _
                              refine below_step ?_ hbq
                              repeat (first | exact hbel | refine below_bytes ?_ _ _ | refine below_drewN ?_ _)
                            exact AllReadyH.nil
                          exact AllReadyH.nil
                        exact AllReadyH.nil
                      exact AllReadyH.nil
                    exact AllReadyH.nil
                  exact AllReadyH.nil
                exact AllReadyH.nil
              exact AllReadyH.nil
            refine AllReadyH.cons (o := ?o29) ?ho29 (fun K hK => ?step29) ?more29
            case ho29 => (simp only [List.getElem?_toArray, List.getElem?_cons_succ, List.getElem?_cons_zero]; rfl)
            case step29 =>
              go_simp
              refine hK.out _ _ ?sh30 (fun hN => ?re30)
              case sh30 => (refine K9.bytes ?_ _ _; refine K9.heap hH ?_; rfl)
              revert hN; clear hH hK K; intro hH
              try simp only [Act.put, List.setIfInBounds_toArray, List.set_cons_zero, List.set_cons_succ]
              refine wpAnyH_ready (rs := [17]) (by kernel_rfl) (by simp) ?_
              refine AllReadyH.cons (o := ?o30) ?ho30 (fun K hK => ?step30) ?more30
              case ho30 => (simp only [List.getElem?_toArray, List.getElem?_cons_succ, List.getElem?_cons_zero]; rfl)
              case step30 =>
                go_simp
                (go_at_call 119; refine (digits28_any _ (by assumption) (by assumption) _).mono ?_; rintro e w' ⟨rfl, nq, rfl⟩)
                refine hK.out _ _ ?sh31 (fun hN => ?re31)
                case sh31 => (refine K9.heap hH ?_; rfl)
                revert hN; clear hH hK K; intro hH
                try simp only [Act.put, List.setIfInBounds_toArray, List.set_cons_zero, List.set_cons_succ]
                refine wpAnyH_ready (rs := [20]) (by kernel_rfl) (by simp) ?_
                refine AllReadyH.cons (o := ?o31) ?ho31 (fun K hK => ?step31) ?more31
                case ho31 => (simp only [List.getElem?_toArray, List.getElem?_cons_succ, List.getElem?_cons_zero]; rfl)
                case step31 =>
                  go_simp
                  (go_at_call 119; refine (digits28_any _ (by assumption) (by assumption) _).mono ?_; rintro e w' ⟨rfl, nq, rfl⟩)
                  refine hK.out _ _ ?sh32 (fun hN => ?re32)
                  case sh32 => (refine K9.heap hH ?_; rfl)
                  revert hN; clear hH hK K; intro hH
                  try simp only [Act.put, List.setIfInBounds_toArray, List.set_cons_zero, List.set_cons_succ]
                  refine wpAnyH_ready (rs := [23]) (by kernel_rfl) (by simp) ?_
                  refine AllReadyH.cons (o := ?o32) ?ho32 (fun K hK => ?step32) ?more32
                  case ho32 => (simp only [List.getElem?_toArray, List.getElem?_cons_succ, List.getElem?_cons_zero]; rfl)
                  case step32 =>
                    go_simp
                    (go_at_call 119; refine (digits28_any _ (by assumption) (by assumption) _).mono ?_; rintro e w' ⟨rfl, nq, rfl⟩)
                    refine hK.out _ _ ?sh33 (fun hN => ?re33)
                    case sh33 => (refine K9.heap hH ?_; rfl)
                    revert hN; clear hH hK K; intro hH
                    try simp only [Act.put, List.setIfInBounds_toArray, List.set_cons_zero, List.set_cons_succ]
                    refine wpAnyH_ready (rs := [27]) (by kernel_rfl) (by simp) ?_
                    refine AllReadyH.cons (o := ?o33) ?ho33 (fun K hK => ?step33) ?more33
                    case ho33 => (simp only [List.getElem?_toArray, List.getElem?_cons_succ, List.getElem?_cons_zero]; rfl)
                    case step33 =>
                      go_simp
                      (go_at_call 121; refine (Quote_any _ _ _ _ _ (by repeat (first | exact slice_bytesWorld _ _ _ (by omega) | refine slice_drewN ?_ _)) (by omega)).mono ?_; rintro e wq ⟨rfl, hbq⟩)
                      refine hK.out _ _ ?sh34 (fun hN => ?re34)
                      case sh34 => (refine K9.below hbq ?_; refine K9.heap hH ?_; rfl)
                      revert hN; clear hH hK K; intro hH
                      try simp only [Act.put, List.setIfInBounds_toArray, List.set_cons_zero, List.set_cons_succ]
                      refine wpAnyH_ready (rs := [28]) (by kernel_rfl) (by simp) ?_
                      refine AllReadyH.cons (o := ?o34) ?ho34 (fun K hK => ?step34) ?more34
                      case ho34 => (simp only [List.getElem?_toArray, List.getElem?_cons_succ, List.getElem?_cons_zero]; rfl)
                      case step34 =>
                        go_simp
                        refine hK.out _ _ ?sh35 (fun hN => ?re35)
                        case sh35 => (refine K9.alloc ?_ _; refine K9.heap hH ?_; rfl)
                        revert hN; clear hH hK K; intro hH
                        try simp only [Act.put, List.setIfInBounds_toArray, List.set_cons_zero, List.set_cons_succ]
                        refine wpAnyH_ready (rs := [29]) (by kernel_rfl) (by simp) ?_
                        refine AllReadyH.cons (o := ?o35) ?ho35 (fun K hK => ?step35) ?more35
                        case ho35 => (simp only [List.getElem?_toArray, List.getElem?_cons_succ, List.getElem?_cons_zero]; rfl)
                        case step35 =>
                          go_simp
                          (go_at_call 118; refine (Join_any J _ [⟨(d10 tm).toArray⟩, ⟨(d10 tc).toArray⟩, ⟨(word28 tk).toArray⟩, ⟨(dash28 tme).toArray⟩, ⟨(dash28 tu).toArray⟩, ⟨(d10 ts).toArray⟩, ⟨(d10 ta).toArray⟩, ⟨(d10 tl).toArray⟩, ⟨(quote27 Sk.data.toList).toArray⟩] _ _ (RowAt.new_at _ _ _ _ rfl) 9 rfl (by decide) HJ2.out (by omega)).mono ?_; rintro e wj ⟨rfl, hbj⟩)
                          refine hK.out _ _ ?sh36 (fun hN => ?re36)
                          case sh36 => (refine K9.below hbj ?_; refine K9.heap hH ?_; rfl)
                          revert hN; clear hH hK K; intro hH
                          try simp only [Act.put, List.setIfInBounds_toArray, List.set_cons_zero, List.set_cons_succ]
                          refine wpAnyH_ready (rs := [30]) (by kernel_rfl) (by simp) ?_
                          refine AllReadyH.cons (o := ?o36) ?ho36 (fun K hK => ?step36) ?more36
                          case ho36 => (simp only [List.getElem?_toArray, List.getElem?_cons_succ, List.getElem?_cons_zero]; rfl)
                          case step36 =>
                            go_simp
                            go_wp2_with fail
                            refine hK.out _ _ ?sh37 (fun hN => ?re37)
                            case sh37 => (exact hH)
                            revert hN; clear hH hK K; intro hH
                            try simp only [Act.put, List.setIfInBounds_toArray, List.set_cons_zero, List.set_cons_succ]
                            refine wpAnyH_ready (rs := [31]) (by kernel_rfl) (by simp) ?_
                            refine AllReadyH.cons (o := ?o37) ?ho37 (fun K hK => ?step37) ?more37
                            case ho37 => (simp only [List.getElem?_toArray, List.getElem?_cons_succ, List.getElem?_cons_zero]; rfl)
                            case step37 =>
                              go_simp
                              refine hK.out _ _ ?sh38 (fun hN => ?re38)
                              case sh38 => (exact hH)
                              revert hN; clear hH hK K; intro hH
                              try simp only [Act.put, List.setIfInBounds_toArray, List.set_cons_zero, List.set_cons_succ]
                              refine wpAnyH_done (by kernel_rfl) ?_ _
                              refine NoPanic.normal ?_
                              go_wp2
                              go_ret
                              refine ⟨ret_str (bytes_inj (by rw [append_data, HJ.out]; rfl)), ?_⟩
                              refine below_step ?_ hbj
                              refine below_al ?_ _
                              refine below_step ?_ hbq
                              repeat (first | exact hbel | refine below_bytes ?_ _ _ | refine below_drewN ?_ _)
                            exact AllReadyH.nil
                          exact AllReadyH.nil
                        exact AllReadyH.nil
                      exact AllReadyH.nil
                    exact AllReadyH.nil
                  exact AllReadyH.nil
                exact AllReadyH.nil
              exact AllReadyH.nil
            exact AllReadyH.nil
          refine AllReadyH.cons (o := ?o38) ?ho38 (fun K hK => ?step38) ?more38
          case ho38 => (simp only [List.getElem?_toArray, List.getElem?_cons_succ, List.getElem?_cons_zero]; rfl)
          case step38 =>
            go_simp
            refine hK.out _ _ ?sh39 (fun hN => ?re39)
            case sh39 => (refine K9.bytes ?_ _ _; refine K9.heap hH ?_; rfl)
            revert hN; clear hH hK K; intro hH
            try simp only [Act.put, List.setIfInBounds_toArray, List.set_cons_zero, List.set_cons_succ]
            refine wpAnyH_ready (rs := [14]) (by kernel_rfl) (by simp) ?_
            refine AllReadyH.cons (o := ?o39) ?ho39 (fun K hK => ?step39) ?more39
            case ho39 => (simp only [List.getElem?_toArray, List.getElem?_cons_succ, List.getElem?_cons_zero]; rfl)
            case step39 =>
              go_simp
              (go_at_call 120; refine (dashed_any _ _).mono ?_; rintro e w' ⟨rfl, rfl⟩)
              refine hK.out _ _ ?sh40 (fun hN => ?re40)
              case sh40 => (exact hH)
              revert hN; clear hH hK K; intro hH
              try simp only [Act.put, List.setIfInBounds_toArray, List.set_cons_zero, List.set_cons_succ]
              refine wpAnyH_ready (rs := [17]) (by kernel_rfl) (by simp) ?_
              refine AllReadyH.cons (o := ?o40) ?ho40 (fun K hK => ?step40) ?more40
              case ho40 => (simp only [List.getElem?_toArray, List.getElem?_cons_succ, List.getElem?_cons_zero]; rfl)
              case step40 =>
                go_simp
                (go_at_call 119; refine (digits28_any _ (by assumption) (by assumption) _).mono ?_; rintro e w' ⟨rfl, nq, rfl⟩)
                refine hK.out _ _ ?sh41 (fun hN => ?re41)
                case sh41 => (refine K9.heap hH ?_; rfl)
                revert hN; clear hH hK K; intro hH
                try simp only [Act.put, List.setIfInBounds_toArray, List.set_cons_zero, List.set_cons_succ]
                refine wpAnyH_ready (rs := [20]) (by kernel_rfl) (by simp) ?_
                refine AllReadyH.cons (o := ?o41) ?ho41 (fun K hK => ?step41) ?more41
                case ho41 => (simp only [List.getElem?_toArray, List.getElem?_cons_succ, List.getElem?_cons_zero]; rfl)
                case step41 =>
                  go_simp
                  (go_at_call 119; refine (digits28_any _ (by assumption) (by assumption) _).mono ?_; rintro e w' ⟨rfl, nq, rfl⟩)
                  refine hK.out _ _ ?sh42 (fun hN => ?re42)
                  case sh42 => (refine K9.heap hH ?_; rfl)
                  revert hN; clear hH hK K; intro hH
                  try simp only [Act.put, List.setIfInBounds_toArray, List.set_cons_zero, List.set_cons_succ]
                  refine wpAnyH_ready (rs := [23]) (by kernel_rfl) (by simp) ?_
                  refine AllReadyH.cons (o := ?o42) ?ho42 (fun K hK => ?step42) ?more42
                  case ho42 => (simp only [List.getElem?_toArray, List.getElem?_cons_succ, List.getElem?_cons_zero]; rfl)
                  case step42 =>
                    go_simp
                    (go_at_call 119; refine (digits28_any _ (by assumption) (by assumption) _).mono ?_; rintro e w' ⟨rfl, nq, rfl⟩)
                    refine hK.out _ _ ?sh43 (fun hN => ?re43)
                    case sh43 => (refine K9.heap hH ?_; rfl)
                    revert hN; clear hH hK K; intro hH
                    try simp only [Act.put, List.setIfInBounds_toArray, List.set_cons_zero, List.set_cons_succ]
                    refine wpAnyH_ready (rs := [27]) (by kernel_rfl) (by simp) ?_
                    refine AllReadyH.cons (o := ?o43) ?ho43 (fun K hK => ?step43) ?more43
                    case ho43 => (simp only [List.getElem?_toArray, List.getElem?_cons_succ, List.getElem?_cons_zero]; rfl)
                    case step43 =>
                      go_simp
                      (go_at_call 121; refine (Quote_any _ _ _ _ _ (by repeat (first | exact slice_bytesWorld _ _ _ (by omega) | refine slice_drewN ?_ _)) (by omega)).mono ?_; rintro e wq ⟨rfl, hbq⟩)
                      refine hK.out _ _ ?sh44 (fun hN => ?re44)
                      case sh44 => (refine K9.below hbq ?_; refine K9.heap hH ?_; rfl)
                      revert hN; clear hH hK K; intro hH
                      try simp only [Act.put, List.setIfInBounds_toArray, List.set_cons_zero, List.set_cons_succ]
                      refine wpAnyH_ready (rs := [28]) (by kernel_rfl) (by simp) ?_
                      refine AllReadyH.cons (o := ?o44) ?ho44 (fun K hK => ?step44) ?more44
                      case ho44 => (simp only [List.getElem?_toArray, List.getElem?_cons_succ, List.getElem?_cons_zero]; rfl)
                      case step44 =>
                        go_simp
                        refine hK.out _ _ ?sh45 (fun hN => ?re45)
                        case sh45 => (refine K9.alloc ?_ _; refine K9.heap hH ?_; rfl)
                        revert hN; clear hH hK K; intro hH
                        try simp only [Act.put, List.setIfInBounds_toArray, List.set_cons_zero, List.set_cons_succ]
                        refine wpAnyH_ready (rs := [29]) (by kernel_rfl) (by simp) ?_
                        refine AllReadyH.cons (o := ?o45) ?ho45 (fun K hK => ?step45) ?more45
                        case ho45 => (simp only [List.getElem?_toArray, List.getElem?_cons_succ, List.getElem?_cons_zero]; rfl)
                        case step45 =>
                          go_simp
                          (go_at_call 118; refine (Join_any J _ [⟨(d10 tm).toArray⟩, ⟨(d10 tc).toArray⟩, ⟨(word28 tk).toArray⟩, ⟨(dash28 tme).toArray⟩, ⟨(dash28 tu).toArray⟩, ⟨(d10 ts).toArray⟩, ⟨(d10 ta).toArray⟩, ⟨(d10 tl).toArray⟩, ⟨(quote27 Sk.data.toList).toArray⟩] _ _ (RowAt.new_at _ _ _ _ rfl) 9 rfl (by decide) HJ2.out (by omega)).mono ?_; rintro e wj ⟨rfl, hbj⟩)
                          refine hK.out _ _ ?sh46 (fun hN => ?re46)
                          case sh46 => (refine K9.below hbj ?_; refine K9.heap hH ?_; rfl)
                          revert hN; clear hH hK K; intro hH
                          try simp only [Act.put, List.setIfInBounds_toArray, List.set_cons_zero, List.set_cons_succ]
                          refine wpAnyH_ready (rs := [30]) (by kernel_rfl) (by simp) ?_
                          refine AllReadyH.cons (o := ?o46) ?ho46 (fun K hK => ?step46) ?more46
                          case ho46 => (simp only [List.getElem?_toArray, List.getElem?_cons_succ, List.getElem?_cons_zero]; rfl)
                          case step46 =>
                            go_simp
                            go_wp2_with fail
                            refine hK.out _ _ ?sh47 (fun hN => ?re47)
                            case sh47 => (exact hH)
                            revert hN; clear hH hK K; intro hH
                            try simp only [Act.put, List.setIfInBounds_toArray, List.set_cons_zero, List.set_cons_succ]
                            refine wpAnyH_ready (rs := [31]) (by kernel_rfl) (by simp) ?_
                            refine AllReadyH.cons (o := ?o47) ?ho47 (fun K hK => ?step47) ?more47
                            case ho47 => (simp only [List.getElem?_toArray, List.getElem?_cons_succ, List.getElem?_cons_zero]; rfl)
                            case step47 =>
                              go_simp
                              refine hK.out _ _ ?sh48 (fun hN => ?re48)
                              case sh48 => (exact hH)
                              revert hN; clear hH hK K; intro hH
                              try simp only [Act.put, List.setIfInBounds_toArray, List.set_cons_zero, List.set_cons_succ]
                              refine wpAnyH_done (by kernel_rfl) ?_ _
                              refine NoPanic.normal ?_
                              go_wp2
                              go_ret
                              refine ⟨ret_str (bytes_inj (by rw [append_data, HJ.out]; rfl)), ?_⟩
                              refine below_step ?_ hbj
                              refine below_al ?_ _
                              refine below_step ?_ hbq
                              repeat (first | exact hbel | refine below_bytes ?_ _ _ | refine below_drewN ?_ _)
                            exact AllReadyH.nil
                          exact AllReadyH.nil
                        exact AllReadyH.nil
                      exact AllReadyH.nil
                    exact AllReadyH.nil
                  exact AllReadyH.nil
                exact AllReadyH.nil
              exact AllReadyH.nil
            exact AllReadyH.nil
          exact AllReadyH.nil
        refine AllReadyH.cons (o := ?o48) ?ho48 (fun K hK => ?step48) ?more48
        case ho48 => (simp only [List.getElem?_toArray, List.getElem?_cons_succ, List.getElem?_cons_zero]; rfl)
        case step48 =>
          go_simp
          refine hK.out _ _ ?sh49 (fun hN => ?re49)
          case sh49 => (refine K9.bytes ?_ _ _; refine K9.heap hH ?_; rfl)
          revert hN; clear hH hK K; intro hH
          try simp only [Act.put, List.setIfInBounds_toArray, List.set_cons_zero, List.set_cons_succ]
          refine wpAnyH_ready (rs := [11]) (by kernel_rfl) (by simp) ?_
          refine AllReadyH.cons (o := ?o49) ?ho49 (fun K hK => ?step49) ?more49
          case ho49 => (simp only [List.getElem?_toArray, List.getElem?_cons_succ, List.getElem?_cons_zero]; rfl)
          case step49 =>
            go_simp
            (go_at_call 120; refine (dashed_any _ _).mono ?_; rintro e w' ⟨rfl, rfl⟩)
            refine hK.out _ _ ?sh50 (fun hN => ?re50)
            case sh50 => (exact hH)
            revert hN; clear hH hK K; intro hH
            try simp only [Act.put, List.setIfInBounds_toArray, List.set_cons_zero, List.set_cons_succ]
            refine wpAnyH_ready (rs := [14]) (by kernel_rfl) (by simp) ?_
            refine AllReadyH.cons (o := ?o50) ?ho50 (fun K hK => ?step50) ?more50
            case ho50 => (simp only [List.getElem?_toArray, List.getElem?_cons_succ, List.getElem?_cons_zero]; rfl)
            case step50 =>
              go_simp
              (go_at_call 120; refine (dashed_any _ _).mono ?_; rintro e w' ⟨rfl, rfl⟩)
              refine hK.out _ _ ?sh51 (fun hN => ?re51)
              case sh51 => (exact hH)
              revert hN; clear hH hK K; intro hH
              try simp only [Act.put, List.setIfInBounds_toArray, List.set_cons_zero, List.set_cons_succ]
              refine wpAnyH_ready (rs := [17]) (by kernel_rfl) (by simp) ?_
              refine AllReadyH.cons (o := ?o51) ?ho51 (fun K hK => ?step51) ?more51
              case ho51 => (simp only [List.getElem?_toArray, List.getElem?_cons_succ, List.getElem?_cons_zero]; rfl)
              case step51 =>
                go_simp
                (go_at_call 119; refine (digits28_any _ (by assumption) (by assumption) _).mono ?_; rintro e w' ⟨rfl, nq, rfl⟩)
                refine hK.out _ _ ?sh52 (fun hN => ?re52)
                case sh52 => (refine K9.heap hH ?_; rfl)
                revert hN; clear hH hK K; intro hH
                try simp only [Act.put, List.setIfInBounds_toArray, List.set_cons_zero, List.set_cons_succ]
                refine wpAnyH_ready (rs := [20]) (by kernel_rfl) (by simp) ?_
                refine AllReadyH.cons (o := ?o52) ?ho52 (fun K hK => ?step52) ?more52
                case ho52 => (simp only [List.getElem?_toArray, List.getElem?_cons_succ, List.getElem?_cons_zero]; rfl)
                case step52 =>
                  go_simp
                  (go_at_call 119; refine (digits28_any _ (by assumption) (by assumption) _).mono ?_; rintro e w' ⟨rfl, nq, rfl⟩)
                  refine hK.out _ _ ?sh53 (fun hN => ?re53)
                  case sh53 => (refine K9.heap hH ?_; rfl)
                  revert hN; clear hH hK K; intro hH
                  try simp only [Act.put, List.setIfInBounds_toArray, List.set_cons_zero, List.set_cons_succ]
                  refine wpAnyH_ready (rs := [23]) (by kernel_rfl) (by simp) ?_
                  refine AllReadyH.cons (o := ?o53) ?ho53 (fun K hK => ?step53) ?more53
                  case ho53 => (simp only [List.getElem?_toArray, List.getElem?_cons_succ, List.getElem?_cons_zero]; rfl)
                  case step53 =>
                    go_simp
                    (go_at_call 119; refine (digits28_any _ (by assumption) (by assumption) _).mono ?_; rintro e w' ⟨rfl, nq, rfl⟩)
                    refine hK.out _ _ ?sh54 (fun hN => ?re54)
                    case sh54 => (refine K9.heap hH ?_; rfl)
                    revert hN; clear hH hK K; intro hH
                    try simp only [Act.put, List.setIfInBounds_toArray, List.set_cons_zero, List.set_cons_succ]
                    refine wpAnyH_ready (rs := [27]) (by kernel_rfl) (by simp) ?_
                    refine AllReadyH.cons (o := ?o54) ?ho54 (fun K hK => ?step54) ?more54
                    case ho54 => (simp only [List.getElem?_toArray, List.getElem?_cons_succ, List.getElem?_cons_zero]; rfl)
                    case step54 =>
                      go_simp
                      (go_at_call 121; refine (Quote_any _ _ _ _ _ (by repeat (first | exact slice_bytesWorld _ _ _ (by omega) | refine slice_drewN ?_ _)) (by omega)).mono ?_; rintro e wq ⟨rfl, hbq⟩)
                      refine hK.out _ _ ?sh55 (fun hN => ?re55)
                      case sh55 => (refine K9.below hbq ?_; refine K9.heap hH ?_; rfl)
                      revert hN; clear hH hK K; intro hH
                      try simp only [Act.put, List.setIfInBounds_toArray, List.set_cons_zero, List.set_cons_succ]
                      refine wpAnyH_ready (rs := [28]) (by kernel_rfl) (by simp) ?_
                      refine AllReadyH.cons (o := ?o55) ?ho55 (fun K hK => ?step55) ?more55
                      case ho55 => (simp only [List.getElem?_toArray, List.getElem?_cons_succ, List.getElem?_cons_zero]; rfl)
                      case step55 =>
                        go_simp
                        refine hK.out _ _ ?sh56 (fun hN => ?re56)
                        case sh56 => (refine K9.alloc ?_ _; refine K9.heap hH ?_; rfl)
                        revert hN; clear hH hK K; intro hH
                        try simp only [Act.put, List.setIfInBounds_toArray, List.set_cons_zero, List.set_cons_succ]
                        refine wpAnyH_ready (rs := [29]) (by kernel_rfl) (by simp) ?_
                        refine AllReadyH.cons (o := ?o56) ?ho56 (fun K hK => ?step56) ?more56
                        case ho56 => (simp only [List.getElem?_toArray, List.getElem?_cons_succ, List.getElem?_cons_zero]; rfl)
                        case step56 =>
                          go_simp
                          (go_at_call 118; refine (Join_any J _ [⟨(d10 tm).toArray⟩, ⟨(d10 tc).toArray⟩, ⟨(word28 tk).toArray⟩, ⟨(dash28 tme).toArray⟩, ⟨(dash28 tu).toArray⟩, ⟨(d10 ts).toArray⟩, ⟨(d10 ta).toArray⟩, ⟨(d10 tl).toArray⟩, ⟨(quote27 Sk.data.toList).toArray⟩] _ _ (RowAt.new_at _ _ _ _ rfl) 9 rfl (by decide) HJ2.out (by omega)).mono ?_; rintro e wj ⟨rfl, hbj⟩)
                          refine hK.out _ _ ?sh57 (fun hN => ?re57)
                          case sh57 => (refine K9.below hbj ?_; refine K9.heap hH ?_; rfl)
                          revert hN; clear hH hK K; intro hH
                          try simp only [Act.put, List.setIfInBounds_toArray, List.set_cons_zero, List.set_cons_succ]
                          refine wpAnyH_ready (rs := [30]) (by kernel_rfl) (by simp) ?_
                          refine AllReadyH.cons (o := ?o57) ?ho57 (fun K hK => ?step57) ?more57
                          case ho57 => (simp only [List.getElem?_toArray, List.getElem?_cons_succ, List.getElem?_cons_zero]; rfl)
                          case step57 =>
                            go_simp
                            go_wp2_with fail
                            refine hK.out _ _ ?sh58 (fun hN => ?re58)
                            case sh58 => (exact hH)
                            revert hN; clear hH hK K; intro hH
                            try simp only [Act.put, List.setIfInBounds_toArray, List.set_cons_zero, List.set_cons_succ]
                            refine wpAnyH_ready (rs := [31]) (by kernel_rfl) (by simp) ?_
                            refine AllReadyH.cons (o := ?o58) ?ho58 (fun K hK => ?step58) ?more58
                            case ho58 => (simp only [List.getElem?_toArray, List.getElem?_cons_succ, List.getElem?_cons_zero]; rfl)
                            case step58 =>
                              go_simp
                              refine hK.out _ _ ?sh59 (fun hN => ?re59)
                              case sh59 => (exact hH)
                              revert hN; clear hH hK K; intro hH
                              try simp only [Act.put, List.setIfInBounds_toArray, List.set_cons_zero, List.set_cons_succ]
                              refine wpAnyH_done (by kernel_rfl) ?_ _
                              refine NoPanic.normal ?_
                              go_wp2
                              go_ret
                              refine ⟨ret_str (bytes_inj (by rw [append_data, HJ.out]; rfl)), ?_⟩
                              refine below_step ?_ hbj
                              refine below_al ?_ _
                              refine below_step ?_ hbq
                              repeat (first | exact hbel | refine below_bytes ?_ _ _ | refine below_drewN ?_ _)
                            exact AllReadyH.nil
                          exact AllReadyH.nil
                        exact AllReadyH.nil
                      exact AllReadyH.nil
                    exact AllReadyH.nil
                  exact AllReadyH.nil
                exact AllReadyH.nil
              exact AllReadyH.nil
            exact AllReadyH.nil
          exact AllReadyH.nil
        exact AllReadyH.nil
      refine AllReadyH.cons (o := ?o59) ?ho59 (fun K hK => ?step59) ?more59
      case ho59 => (simp only [List.getElem?_toArray, List.getElem?_cons_succ, List.getElem?_cons_zero]; rfl)
      case step59 =>
        go_simp
        refine hK.out _ _ ?sh60 (fun hN => ?re60)
        case sh60 => (refine K9.bytes ?_ _ _; refine K9.heap hH ?_; rfl)
        revert hN; clear hH hK K; intro hH
        try simp only [Act.put, List.setIfInBounds_toArray, List.set_cons_zero, List.set_cons_succ]
        refine wpAnyH_ready (rs := [8]) (by kernel_rfl) (by simp) ?_
        refine AllReadyH.cons (o := ?o60) ?ho60 (fun K hK => ?step60) ?more60
        case ho60 => (simp only [List.getElem?_toArray, List.getElem?_cons_succ, List.getElem?_cons_zero]; rfl)
        case step60 =>
          go_simp
          (go_at_call 28; refine (Word_any _ _).mono ?_; rintro e w' ⟨rfl, rfl⟩)
          refine hK.out _ _ ?sh61 (fun hN => ?re61)
          case sh61 => (exact hH)
          revert hN; clear hH hK K; intro hH
          try simp only [Act.put, List.setIfInBounds_toArray, List.set_cons_zero, List.set_cons_succ]
          refine wpAnyH_ready (rs := [11]) (by kernel_rfl) (by simp) ?_
          refine AllReadyH.cons (o := ?o61) ?ho61 (fun K hK => ?step61) ?more61
          case ho61 => (simp only [List.getElem?_toArray, List.getElem?_cons_succ, List.getElem?_cons_zero]; rfl)
          case step61 =>
            go_simp
            (go_at_call 120; refine (dashed_any _ _).mono ?_; rintro e w' ⟨rfl, rfl⟩)
            refine hK.out _ _ ?sh62 (fun hN => ?re62)
            case sh62 => (exact hH)
            revert hN; clear hH hK K; intro hH
            try simp only [Act.put, List.setIfInBounds_toArray, List.set_cons_zero, List.set_cons_succ]
            refine wpAnyH_ready (rs := [14]) (by kernel_rfl) (by simp) ?_
            refine AllReadyH.cons (o := ?o62) ?ho62 (fun K hK => ?step62) ?more62
            case ho62 => (simp only [List.getElem?_toArray, List.getElem?_cons_succ, List.getElem?_cons_zero]; rfl)
            case step62 =>
              go_simp
              (go_at_call 120; refine (dashed_any _ _).mono ?_; rintro e w' ⟨rfl, rfl⟩)
              refine hK.out _ _ ?sh63 (fun hN => ?re63)
              case sh63 => (exact hH)
              revert hN; clear hH hK K; intro hH
              try simp only [Act.put, List.setIfInBounds_toArray, List.set_cons_zero, List.set_cons_succ]
              refine wpAnyH_ready (rs := [17]) (by kernel_rfl) (by simp) ?_
              refine AllReadyH.cons (o := ?o63) ?ho63 (fun K hK => ?step63) ?more63
              case ho63 => (simp only [List.getElem?_toArray, List.getElem?_cons_succ, List.getElem?_cons_zero]; rfl)
              case step63 =>
                go_simp
                (go_at_call 119; refine (digits28_any _ (by assumption) (by assumption) _).mono ?_; rintro e w' ⟨rfl, nq, rfl⟩)
                refine hK.out _ _ ?sh64 (fun hN => ?re64)
                case sh64 => (refine K9.heap hH ?_; rfl)
                revert hN; clear hH hK K; intro hH
                try simp only [Act.put, List.setIfInBounds_toArray, List.set_cons_zero, List.set_cons_succ]
                refine wpAnyH_ready (rs := [20]) (by kernel_rfl) (by simp) ?_
                refine AllReadyH.cons (o := ?o64) ?ho64 (fun K hK => ?step64) ?more64
                case ho64 => (simp only [List.getElem?_toArray, List.getElem?_cons_succ, List.getElem?_cons_zero]; rfl)
                case step64 =>
                  go_simp
                  (go_at_call 119; refine (digits28_any _ (by assumption) (by assumption) _).mono ?_; rintro e w' ⟨rfl, nq, rfl⟩)
                  refine hK.out _ _ ?sh65 (fun hN => ?re65)
                  case sh65 => (refine K9.heap hH ?_; rfl)
                  revert hN; clear hH hK K; intro hH
                  try simp only [Act.put, List.setIfInBounds_toArray, List.set_cons_zero, List.set_cons_succ]
                  refine wpAnyH_ready (rs := [23]) (by kernel_rfl) (by simp) ?_
                  refine AllReadyH.cons (o := ?o65) ?ho65 (fun K hK => ?step65) ?more65
                  case ho65 => (simp only [List.getElem?_toArray, List.getElem?_cons_succ, List.getElem?_cons_zero]; rfl)
                  case step65 =>
                    go_simp
                    (go_at_call 119; refine (digits28_any _ (by assumption) (by assumption) _).mono ?_; rintro e w' ⟨rfl, nq, rfl⟩)
                    refine hK.out _ _ ?sh66 (fun hN => ?re66)
                    case sh66 => (refine K9.heap hH ?_; rfl)
                    revert hN; clear hH hK K; intro hH
                    try simp only [Act.put, List.setIfInBounds_toArray, List.set_cons_zero, List.set_cons_succ]
                    refine wpAnyH_ready (rs := [27]) (by kernel_rfl) (by simp) ?_
                    refine AllReadyH.cons (o := ?o66) ?ho66 (fun K hK => ?step66) ?more66
                    case ho66 => (simp only [List.getElem?_toArray, List.getElem?_cons_succ, List.getElem?_cons_zero]; rfl)
                    case step66 =>
                      go_simp
                      (go_at_call 121; refine (Quote_any _ _ _ _ _ (by repeat (first | exact slice_bytesWorld _ _ _ (by omega) | refine slice_drewN ?_ _)) (by omega)).mono ?_; rintro e wq ⟨rfl, hbq⟩)
                      refine hK.out _ _ ?sh67 (fun hN => ?re67)
                      case sh67 => (refine K9.below hbq ?_; refine K9.heap hH ?_; rfl)
                      revert hN; clear hH hK K; intro hH
                      try simp only [Act.put, List.setIfInBounds_toArray, List.set_cons_zero, List.set_cons_succ]
                      refine wpAnyH_ready (rs := [28]) (by kernel_rfl) (by simp) ?_
                      refine AllReadyH.cons (o := ?o67) ?ho67 (fun K hK => ?step67) ?more67
                      case ho67 => (simp only [List.getElem?_toArray, List.getElem?_cons_succ, List.getElem?_cons_zero]; rfl)
                      case step67 =>
                        go_simp
                        refine hK.out _ _ ?sh68 (fun hN => ?re68)
                        case sh68 => (refine K9.alloc ?_ _; refine K9.heap hH ?_; rfl)
                        revert hN; clear hH hK K; intro hH
                        try simp only [Act.put, List.setIfInBounds_toArray, List.set_cons_zero, List.set_cons_succ]
                        refine wpAnyH_ready (rs := [29]) (by kernel_rfl) (by simp) ?_
                        refine AllReadyH.cons (o := ?o68) ?ho68 (fun K hK => ?step68) ?more68
                        case ho68 => (simp only [List.getElem?_toArray, List.getElem?_cons_succ, List.getElem?_cons_zero]; rfl)
                        case step68 =>
                          go_simp
                          (go_at_call 118; refine (Join_any J _ [⟨(d10 tm).toArray⟩, ⟨(d10 tc).toArray⟩, ⟨(word28 tk).toArray⟩, ⟨(dash28 tme).toArray⟩, ⟨(dash28 tu).toArray⟩, ⟨(d10 ts).toArray⟩, ⟨(d10 ta).toArray⟩, ⟨(d10 tl).toArray⟩, ⟨(quote27 Sk.data.toList).toArray⟩] _ _ (RowAt.new_at _ _ _ _ rfl) 9 rfl (by decide) HJ2.out (by omega)).mono ?_; rintro e wj ⟨rfl, hbj⟩)
                          refine hK.out _ _ ?sh69 (fun hN => ?re69)
                          case sh69 => (refine K9.below hbj ?_; refine K9.heap hH ?_; rfl)
                          revert hN; clear hH hK K; intro hH
                          try simp only [Act.put, List.setIfInBounds_toArray, List.set_cons_zero, List.set_cons_succ]
                          refine wpAnyH_ready (rs := [30]) (by kernel_rfl) (by simp) ?_
                          refine AllReadyH.cons (o := ?o69) ?ho69 (fun K hK => ?step69) ?more69
                          case ho69 => (simp only [List.getElem?_toArray, List.getElem?_cons_succ, List.getElem?_cons_zero]; rfl)
                          case step69 =>
                            go_simp
                            go_wp2_with fail
                            refine hK.out _ _ ?sh70 (fun hN => ?re70)
                            case sh70 => (exact hH)
                            revert hN; clear hH hK K; intro hH
                            try simp only [Act.put, List.setIfInBounds_toArray, List.set_cons_zero, List.set_cons_succ]
                            refine wpAnyH_ready (rs := [31]) (by kernel_rfl) (by simp) ?_
                            refine AllReadyH.cons (o := ?o70) ?ho70 (fun K hK => ?step70) ?more70
                            case ho70 => (simp only [List.getElem?_toArray, List.getElem?_cons_succ, List.getElem?_cons_zero]; rfl)
                            case step70 =>
                              go_simp
                              refine hK.out _ _ ?sh71 (fun hN => ?re71)
                              case sh71 => (exact hH)
                              revert hN; clear hH hK K; intro hH
                              try simp only [Act.put, List.setIfInBounds_toArray, List.set_cons_zero, List.set_cons_succ]
                              refine wpAnyH_done (by kernel_rfl) ?_ _
                              refine NoPanic.normal ?_
                              go_wp2
                              go_ret
                              refine ⟨ret_str (bytes_inj (by rw [append_data, HJ.out]; rfl)), ?_⟩
                              refine below_step ?_ hbj
                              refine below_al ?_ _
                              refine below_step ?_ hbq
                              repeat (first | exact hbel | refine below_bytes ?_ _ _ | refine below_drewN ?_ _)
                            exact AllReadyH.nil
                          exact AllReadyH.nil
                        exact AllReadyH.nil
                      exact AllReadyH.nil
                    exact AllReadyH.nil
                  exact AllReadyH.nil
                exact AllReadyH.nil
              exact AllReadyH.nil
            exact AllReadyH.nil
          exact AllReadyH.nil
        exact AllReadyH.nil
      exact AllReadyH.nil
    refine AllReadyH.cons (o := ?o71) ?ho71 (fun K hK => ?step71) ?more71
    case ho71 => (simp only [List.getElem?_toArray, List.getElem?_cons_succ, List.getElem?_cons_zero]; rfl)
    case step71 =>
      go_simp
      refine hK.out _ _ ?sh72 (fun hN => ?re72)
      case sh72 => (refine K9.bytes ?_ _ _; refine K9.heap hH ?_; rfl)
      revert hN; clear hH hK K; intro hH
      try simp only [Act.put, List.setIfInBounds_toArray, List.set_cons_zero, List.set_cons_succ]
      refine wpAnyH_ready (rs := [5]) (by kernel_rfl) (by simp) ?_
      refine AllReadyH.cons (o := ?o72) ?ho72 (fun K hK => ?step72) ?more72
      case ho72 => (simp only [List.getElem?_toArray, List.getElem?_cons_succ, List.getElem?_cons_zero]; rfl)
      case step72 =>
        go_simp
        (go_at_call 119; refine (digits28_any _ (by assumption) (by assumption) _).mono ?_; rintro e w' ⟨rfl, nq, rfl⟩)
        refine hK.out _ _ ?sh73 (fun hN => ?re73)
        case sh73 => (refine K9.heap hH ?_; rfl)
        revert hN; clear hH hK K; intro hH
        try simp only [Act.put, List.setIfInBounds_toArray, List.set_cons_zero, List.set_cons_succ]
        refine wpAnyH_ready (rs := [8]) (by kernel_rfl) (by simp) ?_
        refine AllReadyH.cons (o := ?o73) ?ho73 (fun K hK => ?step73) ?more73
        case ho73 => (simp only [List.getElem?_toArray, List.getElem?_cons_succ, List.getElem?_cons_zero]; rfl)
        case step73 =>
          go_simp
          (go_at_call 28; refine (Word_any _ _).mono ?_; rintro e w' ⟨rfl, rfl⟩)
          refine hK.out _ _ ?sh74 (fun hN => ?re74)
          case sh74 => (exact hH)
          revert hN; clear hH hK K; intro hH
          try simp only [Act.put, List.setIfInBounds_toArray, List.set_cons_zero, List.set_cons_succ]
          refine wpAnyH_ready (rs := [11]) (by kernel_rfl) (by simp) ?_
          refine AllReadyH.cons (o := ?o74) ?ho74 (fun K hK => ?step74) ?more74
          case ho74 => (simp only [List.getElem?_toArray, List.getElem?_cons_succ, List.getElem?_cons_zero]; rfl)
          case step74 =>
            go_simp
            (go_at_call 120; refine (dashed_any _ _).mono ?_; rintro e w' ⟨rfl, rfl⟩)
            refine hK.out _ _ ?sh75 (fun hN => ?re75)
            case sh75 => (exact hH)
            revert hN; clear hH hK K; intro hH
            try simp only [Act.put, List.setIfInBounds_toArray, List.set_cons_zero, List.set_cons_succ]
            refine wpAnyH_ready (rs := [14]) (by kernel_rfl) (by simp) ?_
            refine AllReadyH.cons (o := ?o75) ?ho75 (fun K hK => ?step75) ?more75
            case ho75 => (simp only [List.getElem?_toArray, List.getElem?_cons_succ, List.getElem?_cons_zero]; rfl)
            case step75 =>
              go_simp
              (go_at_call 120; refine (dashed_any _ _).mono ?_; rintro e w' ⟨rfl, rfl⟩)
              refine hK.out _ _ ?sh76 (fun hN => ?re76)
              case sh76 => (exact hH)
              revert hN; clear hH hK K; intro hH
              try simp only [Act.put, List.setIfInBounds_toArray, List.set_cons_zero, List.set_cons_succ]
              refine wpAnyH_ready (rs := [17]) (by kernel_rfl) (by simp) ?_
              refine AllReadyH.cons (o := ?o76) ?ho76 (fun K hK => ?step76) ?more76
              case ho76 => (simp only [List.getElem?_toArray, List.getElem?_cons_succ, List.getElem?_cons_zero]; rfl)
              case step76 =>
                go_simp
                (go_at_call 119; refine (digits28_any _ (by assumption) (by assumption) _).mono ?_; rintro e w' ⟨rfl, nq, rfl⟩)
                refine hK.out _ _ ?sh77 (fun hN => ?re77)
                case sh77 => (refine K9.heap hH ?_; rfl)
                revert hN; clear hH hK K; intro hH
                try simp only [Act.put, List.setIfInBounds_toArray, List.set_cons_zero, List.set_cons_succ]
                refine wpAnyH_ready (rs := [20]) (by kernel_rfl) (by simp) ?_
                refine AllReadyH.cons (o := ?o77) ?ho77 (fun K hK => ?step77) ?more77
                case ho77 => (simp only [List.getElem?_toArray, List.getElem?_cons_succ, List.getElem?_cons_zero]; rfl)
                case step77 =>
                  go_simp
                  (go_at_call 119; refine (digits28_any _ (by assumption) (by assumption) _).mono ?_; rintro e w' ⟨rfl, nq, rfl⟩)
                  refine hK.out _ _ ?sh78 (fun hN => ?re78)
                  case sh78 => (refine K9.heap hH ?_; rfl)
                  revert hN; clear hH hK K; intro hH
                  try simp only [Act.put, List.setIfInBounds_toArray, List.set_cons_zero, List.set_cons_succ]
                  refine wpAnyH_ready (rs := [23]) (by kernel_rfl) (by simp) ?_
                  refine AllReadyH.cons (o := ?o78) ?ho78 (fun K hK => ?step78) ?more78
                  case ho78 => (simp only [List.getElem?_toArray, List.getElem?_cons_succ, List.getElem?_cons_zero]; rfl)
                  case step78 =>
                    go_simp
                    (go_at_call 119; refine (digits28_any _ (by assumption) (by assumption) _).mono ?_; rintro e w' ⟨rfl, nq, rfl⟩)
                    refine hK.out _ _ ?sh79 (fun hN => ?re79)
                    case sh79 => (refine K9.heap hH ?_; rfl)
                    revert hN; clear hH hK K; intro hH
                    try simp only [Act.put, List.setIfInBounds_toArray, List.set_cons_zero, List.set_cons_succ]
                    refine wpAnyH_ready (rs := [27]) (by kernel_rfl) (by simp) ?_
                    refine AllReadyH.cons (o := ?o79) ?ho79 (fun K hK => ?step79) ?more79
                    case ho79 => (simp only [List.getElem?_toArray, List.getElem?_cons_succ, List.getElem?_cons_zero]; rfl)
                    case step79 =>
                      go_simp
                      (go_at_call 121; refine (Quote_any _ _ _ _ _ (by repeat (first | exact slice_bytesWorld _ _ _ (by omega) | refine slice_drewN ?_ _)) (by omega)).mono ?_; rintro e wq ⟨rfl, hbq⟩)
                      refine hK.out _ _ ?sh80 (fun hN => ?re80)
                      case sh80 => (refine K9.below hbq ?_; refine K9.heap hH ?_; rfl)
                      revert hN; clear hH hK K; intro hH
                      try simp only [Act.put, List.setIfInBounds_toArray, List.set_cons_zero, List.set_cons_succ]
                      refine wpAnyH_ready (rs := [28]) (by kernel_rfl) (by simp) ?_
                      refine AllReadyH.cons (o := ?o80) ?ho80 (fun K hK => ?step80) ?more80
                      case ho80 => (simp only [List.getElem?_toArray, List.getElem?_cons_succ, List.getElem?_cons_zero]; rfl)
                      case step80 =>
                        go_simp
                        refine hK.out _ _ ?sh81 (fun hN => ?re81)
                        case sh81 => (refine K9.alloc ?_ _; refine K9.heap hH ?_; rfl)
                        revert hN; clear hH hK K; intro hH
                        try simp only [Act.put, List.setIfInBounds_toArray, List.set_cons_zero, List.set_cons_succ]
                        refine wpAnyH_ready (rs := [29]) (by kernel_rfl) (by simp) ?_
                        refine AllReadyH.cons (o := ?o81) ?ho81 (fun K hK => ?step81) ?more81
                        case ho81 => (simp only [List.getElem?_toArray, List.getElem?_cons_succ, List.getElem?_cons_zero]; rfl)
                        case step81 =>
                          go_simp
                          (go_at_call 118; refine (Join_any J _ [⟨(d10 tm).toArray⟩, ⟨(d10 tc).toArray⟩, ⟨(word28 tk).toArray⟩, ⟨(dash28 tme).toArray⟩, ⟨(dash28 tu).toArray⟩, ⟨(d10 ts).toArray⟩, ⟨(d10 ta).toArray⟩, ⟨(d10 tl).toArray⟩, ⟨(quote27 Sk.data.toList).toArray⟩] _ _ (RowAt.new_at _ _ _ _ rfl) 9 rfl (by decide) HJ2.out (by omega)).mono ?_; rintro e wj ⟨rfl, hbj⟩)
                          refine hK.out _ _ ?sh82 (fun hN => ?re82)
                          case sh82 => (refine K9.below hbj ?_; refine K9.heap hH ?_; rfl)
                          revert hN; clear hH hK K; intro hH
                          try simp only [Act.put, List.setIfInBounds_toArray, List.set_cons_zero, List.set_cons_succ]
                          refine wpAnyH_ready (rs := [30]) (by kernel_rfl) (by simp) ?_
                          refine AllReadyH.cons (o := ?o82) ?ho82 (fun K hK => ?step82) ?more82
                          case ho82 => (simp only [List.getElem?_toArray, List.getElem?_cons_succ, List.getElem?_cons_zero]; rfl)
                          case step82 =>
                            go_simp
                            go_wp2_with fail
                            refine hK.out _ _ ?sh83 (fun hN => ?re83)
                            case sh83 => (exact hH)
                            revert hN; clear hH hK K; intro hH
                            try simp only [Act.put, List.setIfInBounds_toArray, List.set_cons_zero, List.set_cons_succ]
                            refine wpAnyH_ready (rs := [31]) (by kernel_rfl) (by simp) ?_
                            refine AllReadyH.cons (o := ?o83) ?ho83 (fun K hK => ?step83) ?more83
                            case ho83 => (simp only [List.getElem?_toArray, List.getElem?_cons_succ, List.getElem?_cons_zero]; rfl)
                            case step83 =>
                              go_simp
                              refine hK.out _ _ ?sh84 (fun hN => ?re84)
                              case sh84 => (exact hH)
                              revert hN; clear hH hK K; intro hH
                              try simp only [Act.put, List.setIfInBounds_toArray, List.set_cons_zero, List.set_cons_succ]
                              refine wpAnyH_done (by kernel_rfl) ?_ _
                              refine NoPanic.normal ?_
                              go_wp2
                              go_ret
                              refine ⟨ret_str (bytes_inj (by rw [append_data, HJ.out]; rfl)), ?_⟩
                              refine below_step ?_ hbj
                              refine below_al ?_ _
                              refine below_step ?_ hbq
                              repeat (first | exact hbel | refine below_bytes ?_ _ _ | refine below_drewN ?_ _)
                            exact AllReadyH.nil
                          exact AllReadyH.nil
                        exact AllReadyH.nil
                      exact AllReadyH.nil
                    exact AllReadyH.nil
                  exact AllReadyH.nil
                exact AllReadyH.nil
              exact AllReadyH.nil
            exact AllReadyH.nil
          exact AllReadyH.nil
        exact AllReadyH.nil
      exact AllReadyH.nil
    exact AllReadyH.nil
  refine AllReadyH.cons (o := ?o84) ?ho84 (fun K hK => ?step84) ?more84
  case ho84 => (simp only [List.getElem?_toArray, List.getElem?_cons_succ, List.getElem?_cons_zero]; rfl)
  case step84 =>
    go_simp
    refine hK.out _ _ ?sh85 (fun hN => ?re85)
    case sh85 => (refine K9.bytes ?_ _ _; refine K9.heap hH ?_; rfl)
    revert hN; clear hH hK K; intro hH
    try simp only [Act.put, List.setIfInBounds_toArray, List.set_cons_zero, List.set_cons_succ]
    refine wpAnyH_ready (rs := [2]) (by kernel_rfl) (by simp) ?_
    refine AllReadyH.cons (o := ?o85) ?ho85 (fun K hK => ?step85) ?more85
    case ho85 => (simp only [List.getElem?_toArray, List.getElem?_cons_succ, List.getElem?_cons_zero]; rfl)
    case step85 =>
      go_simp
      (go_at_call 119; refine (digits28_any _ (by assumption) (by assumption) _).mono ?_; rintro e w' ⟨rfl, nq, rfl⟩)
      refine hK.out _ _ ?sh86 (fun hN => ?re86)
      case sh86 => (refine K9.heap hH ?_; rfl)
      revert hN; clear hH hK K; intro hH
      try simp only [Act.put, List.setIfInBounds_toArray, List.set_cons_zero, List.set_cons_succ]
      refine wpAnyH_ready (rs := [5]) (by kernel_rfl) (by simp) ?_
      refine AllReadyH.cons (o := ?o86) ?ho86 (fun K hK => ?step86) ?more86
      case ho86 => (simp only [List.getElem?_toArray, List.getElem?_cons_succ, List.getElem?_cons_zero]; rfl)
      case step86 =>
        go_simp
        (go_at_call 119; refine (digits28_any _ (by assumption) (by assumption) _).mono ?_; rintro e w' ⟨rfl, nq, rfl⟩)
        refine hK.out _ _ ?sh87 (fun hN => ?re87)
        case sh87 => (refine K9.heap hH ?_; rfl)
        revert hN; clear hH hK K; intro hH
        try simp only [Act.put, List.setIfInBounds_toArray, List.set_cons_zero, List.set_cons_succ]
        refine wpAnyH_ready (rs := [8]) (by kernel_rfl) (by simp) ?_
        refine AllReadyH.cons (o := ?o87) ?ho87 (fun K hK => ?step87) ?more87
        case ho87 => (simp only [List.getElem?_toArray, List.getElem?_cons_succ, List.getElem?_cons_zero]; rfl)
        case step87 =>
          go_simp
          (go_at_call 28; refine (Word_any _ _).mono ?_; rintro e w' ⟨rfl, rfl⟩)
          refine hK.out _ _ ?sh88 (fun hN => ?re88)
          case sh88 => (exact hH)
          revert hN; clear hH hK K; intro hH
          try simp only [Act.put, List.setIfInBounds_toArray, List.set_cons_zero, List.set_cons_succ]
          refine wpAnyH_ready (rs := [11]) (by kernel_rfl) (by simp) ?_
          refine AllReadyH.cons (o := ?o88) ?ho88 (fun K hK => ?step88) ?more88
          case ho88 => (simp only [List.getElem?_toArray, List.getElem?_cons_succ, List.getElem?_cons_zero]; rfl)
          case step88 =>
            go_simp
            (go_at_call 120; refine (dashed_any _ _).mono ?_; rintro e w' ⟨rfl, rfl⟩)
            refine hK.out _ _ ?sh89 (fun hN => ?re89)
            case sh89 => (exact hH)
            revert hN; clear hH hK K; intro hH
            try simp only [Act.put, List.setIfInBounds_toArray, List.set_cons_zero, List.set_cons_succ]
            refine wpAnyH_ready (rs := [14]) (by kernel_rfl) (by simp) ?_
            refine AllReadyH.cons (o := ?o89) ?ho89 (fun K hK => ?step89) ?more89
            case ho89 => (simp only [List.getElem?_toArray, List.getElem?_cons_succ, List.getElem?_cons_zero]; rfl)
            case step89 =>
              go_simp
              (go_at_call 120; refine (dashed_any _ _).mono ?_; rintro e w' ⟨rfl, rfl⟩)
              refine hK.out _ _ ?sh90 (fun hN => ?re90)
              case sh90 => (exact hH)
              revert hN; clear hH hK K; intro hH
              try simp only [Act.put, List.setIfInBounds_toArray, List.set_cons_zero, List.set_cons_succ]
              refine wpAnyH_ready (rs := [17]) (by kernel_rfl) (by simp) ?_
              refine AllReadyH.cons (o := ?o90) ?ho90 (fun K hK => ?step90) ?more90
              case ho90 => (simp only [List.getElem?_toArray, List.getElem?_cons_succ, List.getElem?_cons_zero]; rfl)
              case step90 =>
                go_simp
                (go_at_call 119; refine (digits28_any _ (by assumption) (by assumption) _).mono ?_; rintro e w' ⟨rfl, nq, rfl⟩)
                refine hK.out _ _ ?sh91 (fun hN => ?re91)
                case sh91 => (refine K9.heap hH ?_; rfl)
                revert hN; clear hH hK K; intro hH
                try simp only [Act.put, List.setIfInBounds_toArray, List.set_cons_zero, List.set_cons_succ]
                refine wpAnyH_ready (rs := [20]) (by kernel_rfl) (by simp) ?_
                refine AllReadyH.cons (o := ?o91) ?ho91 (fun K hK => ?step91) ?more91
                case ho91 => (simp only [List.getElem?_toArray, List.getElem?_cons_succ, List.getElem?_cons_zero]; rfl)
                case step91 =>
                  go_simp
                  (go_at_call 119; refine (digits28_any _ (by assumption) (by assumption) _).mono ?_; rintro e w' ⟨rfl, nq, rfl⟩)
                  refine hK.out _ _ ?sh92 (fun hN => ?re92)
                  case sh92 => (refine K9.heap hH ?_; rfl)
                  revert hN; clear hH hK K; intro hH
                  try simp only [Act.put, List.setIfInBounds_toArray, List.set_cons_zero, List.set_cons_succ]
                  refine wpAnyH_ready (rs := [23]) (by kernel_rfl) (by simp) ?_
                  refine AllReadyH.cons (o := ?o92) ?ho92 (fun K hK => ?step92) ?more92
                  case ho92 => (simp only [List.getElem?_toArray, List.getElem?_cons_succ, List.getElem?_cons_zero]; rfl)
                  case step92 =>
                    go_simp
                    (go_at_call 119; refine (digits28_any _ (by assumption) (by assumption) _).mono ?_; rintro e w' ⟨rfl, nq, rfl⟩)
                    refine hK.out _ _ ?sh93 (fun hN => ?re93)
                    case sh93 => (refine K9.heap hH ?_; rfl)
                    revert hN; clear hH hK K; intro hH
                    try simp only [Act.put, List.setIfInBounds_toArray, List.set_cons_zero, List.set_cons_succ]
                    refine wpAnyH_ready (rs := [27]) (by kernel_rfl) (by simp) ?_
                    refine AllReadyH.cons (o := ?o93) ?ho93 (fun K hK => ?step93) ?more93
                    case ho93 => (simp only [List.getElem?_toArray, List.getElem?_cons_succ, List.getElem?_cons_zero]; rfl)
                    case step93 =>
                      go_simp
                      (go_at_call 121; refine (Quote_any _ _ _ _ _ (by repeat (first | exact slice_bytesWorld _ _ _ (by omega) | refine slice_drewN ?_ _)) (by omega)).mono ?_; rintro e wq ⟨rfl, hbq⟩)
                      refine hK.out _ _ ?sh94 (fun hN => ?re94)
                      case sh94 => (refine K9.below hbq ?_; refine K9.heap hH ?_; rfl)
                      revert hN; clear hH hK K; intro hH
                      try simp only [Act.put, List.setIfInBounds_toArray, List.set_cons_zero, List.set_cons_succ]
                      refine wpAnyH_ready (rs := [28]) (by kernel_rfl) (by simp) ?_
                      refine AllReadyH.cons (o := ?o94) ?ho94 (fun K hK => ?step94) ?more94
                      case ho94 => (simp only [List.getElem?_toArray, List.getElem?_cons_succ, List.getElem?_cons_zero]; rfl)
                      case step94 =>
                        go_simp
                        refine hK.out _ _ ?sh95 (fun hN => ?re95)
                        case sh95 => (refine K9.alloc ?_ _; refine K9.heap hH ?_; rfl)
                        revert hN; clear hH hK K; intro hH
                        try simp only [Act.put, List.setIfInBounds_toArray, List.set_cons_zero, List.set_cons_succ]
                        refine wpAnyH_ready (rs := [29]) (by kernel_rfl) (by simp) ?_
                        refine AllReadyH.cons (o := ?o95) ?ho95 (fun K hK => ?step95) ?more95
                        case ho95 => (simp only [List.getElem?_toArray, List.getElem?_cons_succ, List.getElem?_cons_zero]; rfl)
                        case step95 =>
                          go_simp
                          (go_at_call 118; refine (Join_any J _ [⟨(d10 tm).toArray⟩, ⟨(d10 tc).toArray⟩, ⟨(word28 tk).toArray⟩, ⟨(dash28 tme).toArray⟩, ⟨(dash28 tu).toArray⟩, ⟨(d10 ts).toArray⟩, ⟨(d10 ta).toArray⟩, ⟨(d10 tl).toArray⟩, ⟨(quote27 Sk.data.toList).toArray⟩] _ _ (RowAt.new_at _ _ _ _ rfl) 9 rfl (by decide) HJ2.out (by omega)).mono ?_; rintro e wj ⟨rfl, hbj⟩)
                          refine hK.out _ _ ?sh96 (fun hN => ?re96)
                          case sh96 => (refine K9.below hbj ?_; refine K9.heap hH ?_; rfl)
                          revert hN; clear hH hK K; intro hH
                          try simp only [Act.put, List.setIfInBounds_toArray, List.set_cons_zero, List.set_cons_succ]
                          refine wpAnyH_ready (rs := [30]) (by kernel_rfl) (by simp) ?_
                          refine AllReadyH.cons (o := ?o96) ?ho96 (fun K hK => ?step96) ?more96
                          case ho96 => (simp only [List.getElem?_toArray, List.getElem?_cons_succ, List.getElem?_cons_zero]; rfl)
                          case step96 =>
                            go_simp
                            go_wp2_with fail
                            refine hK.out _ _ ?sh97 (fun hN => ?re97)
                            case sh97 => (exact hH)
                            revert hN; clear hH hK K; intro hH
                            try simp only [Act.put, List.setIfInBounds_toArray, List.set_cons_zero, List.set_cons_succ]
                            refine wpAnyH_ready (rs := [31]) (by kernel_rfl) (by simp) ?_
                            refine AllReadyH.cons (o := ?o97) ?ho97 (fun K hK => ?step97) ?more97
                            case ho97 => (simp only [List.getElem?_toArray, List.getElem?_cons_succ, List.getElem?_cons_zero]; rfl)
                            case step97 =>
                              go_simp
                              refine hK.out _ _ ?sh98 (fun hN => ?re98)
                              case sh98 => (exact hH)
                              revert hN; clear hH hK K; intro hH
                              try simp only [Act.put, List.setIfInBounds_toArray, List.set_cons_zero, List.set_cons_succ]
                              refine wpAnyH_done (by kernel_rfl) ?_ _
                              refine NoPanic.normal ?_
                              go_wp2
                              go_ret
                              refine ⟨ret_str (bytes_inj (by rw [append_data, HJ.out]; rfl)), ?_⟩
                              refine below_step ?_ hbj
                              refine below_al ?_ _
                              refine below_step ?_ hbq
                              repeat (first | exact hbel | refine below_bytes ?_ _ _ | refine below_drewN ?_ _)
                            exact AllReadyH.nil
                          exact AllReadyH.nil
                        exact AllReadyH.nil
                      exact AllReadyH.nil
                    exact AllReadyH.nil
                  exact AllReadyH.nil
                exact AllReadyH.nil
              exact AllReadyH.nil
            exact AllReadyH.nil
          exact AllReadyH.nil
        exact AllReadyH.nil
      exact AllReadyH.nil
    exact AllReadyH.nil
  exact AllReadyH.nil
end Go.Proofs.YtaddefjkjlkjnaaDoor
