/- Walks of layer 28: counts, and what was told of a connection. No condition but that lists are within bounds. -/
import Derived.Test.YtamoebdfppjbkaaMem
import Derived.Test.YtamoebdfppjbkaaMath28
namespace Go.Proofs.Ytamoebdfppjbkaa
open Go.RowKit IH
set_option maxRecDepth 100000

def toldCells (t : Reply) : List Value := [.int .i64 t.conn, .int .i64 t.kind, .int .i64 t.moment, .int .i64 t.lines, .string ⟨t.method.toArray⟩, .string ⟨t.uri.toArray⟩, .string ⟨t.key.toArray⟩, .int .i64 t.status, .int .i64 t.age]
def toldsV (L : List Reply) : List Value := L.flatMap toldCells
theorem toldCells_length (t : Reply) : (toldCells t).length = 9 := rfl
theorem flat_length {α : Type} (f : α → List Value) (n : Nat) (hf : ∀ x, (f x).length = n) (L : List α) : (L.flatMap f).length = L.length * n := by
  induction L with
  | nil => simp
  | cons x L ih => rw [List.flatMap_cons, List.length_append, ih, hf, List.length_cons, Nat.succ_mul]; omega
theorem flat_get {α : Type} (f : α → List Value) (n : Nat) (hf : ∀ x, (f x).length = n) (L : List α) (k j : Nat) (x : α) (h : L[k]? = some x) (hj : j < n) : (L.flatMap f)[k * n + j]? = (f x)[j]? := by
  induction L generalizing k with
  | nil => simp at h
  | cons y L ih =>
    rw [List.flatMap_cons]
    cases k with
    | zero =>
      simp at h; subst h
      rw [List.getElem?_append_left (by rw [hf]; omega)]
      simp
    | succ k =>
      rw [List.getElem?_append_right (by rw [hf, Nat.succ_mul]; omega), hf]
      simp only [List.getElem?_cons_succ] at h
      rw [show (k + 1) * n + j - n = k * n + j by rw [Nat.succ_mul]; omega]
      exact ih k h
theorem toldsV_length (L : List Reply) : (toldsV L).length = L.length * 9 := flat_length _ 9 toldCells_length L
theorem toldsV_one (L : List Reply) : ∀ u ∈ toldsV L, u.oneCell' = true := by
  intro u hu
  obtain ⟨t, _, ht⟩ := List.mem_flatMap.1 hu
  simp [toldCells] at ht
  rcases ht with rfl | rfl | rfl | rfl | rfl | rfl | rfl | rfl | rfl <;> rfl

theorem told_ty : SliceTy Try.prog 28 43 (.agg #[.int .i64 0, .int .i64 0, .int .i64 0, .int .i64 0, .string ⟨#[]⟩, .string ⟨#[]⟩, .string ⟨#[]⟩, .int .i64 0, .int .i64 0]) 9 96 := ⟨Try.underlying28, by kernel_rfl, rfl, by decide⟩

set_option maxHeartbeats 4000000 in
theorem Of_any (conn : Int) (A : Option Addr) (n c : Nat) (L : List Reply) (w : World) (hin : SliceIn w w.heap.size 9 A n c (toldsV L)) (hs : n ≤ 1000000) :
    Calls Try.prog 15 #[.int .i64 conn, .slice A n c] w fun e w' => ∃ v, e = .returned v ∧ w'.ownsRow w.heap.size 43 9 v (ofConn conn L).length (toldsV (ofConn conn L)) ∧ Below w.heap.size w w' := by
  have hL : L.length = n := by have := hin.1; rw [toldsV_length] at this; omega
  go_enter Try.func15, Try.ntmps15
  go_wp2
  go_loopw [5, 10] (fun v i wr => ∃ k : Nat, k ≤ n ∧ i = .int .i64 k ∧ wr.ownsRow w.heap.size 43 9 v (ofConn conn (L.take k)).length (toldsV (ofConn conn (L.take k))) ∧ Below w.heap.size w wr) (fun _ i _ => n - (intOf i).toNat)
  case atStart => exact ⟨0, by omega, rfl, World.ownsRow_nil _ _ _ _, Below.refl _ _⟩
  case round =>
    obtain ⟨k, hk, rfl, hrow, hbel⟩ := hrel
    have Hrow := Lib.hid hrow; clear hrow
    by_cases hlt : k < n
    · obtain ⟨t, ht⟩ : ∃ l, L[k]? = some l := ⟨_, List.getElem?_eq_getElem (by omega)⟩
      obtain ⟨b, off, rfl, hb, hc⟩ := hin.2.2.2 (by omega)
      have hcell : ∀ j u, (toldCells t)[j]? = some u → wr.cell? ⟨b, off + k * 9 + j, none⟩ = some u := fun j u hu => by
        have hj : j < 9 := by have := (List.getElem?_eq_some_iff.1 hu).1; rw [toldCells_length] at this; exact this
        rw [hbel.cell (p := ⟨b, off + k * 9 + j, none⟩) hb, Nat.add_assoc]
        exact hc _ _ (by rw [toldsV, flat_get toldCells 9 toldCells_length L k j t ht hj, hu])
      have Hc := Lib.hid hcell; clear hcell hc
      have Ht := Lib.hid ht; clear ht
      have hof : ofConn conn (L.take (k + 1)) = ofConn conn (L.take k) ++ (if t.conn == conn && !(t.kind == 5) then [t] else []) := by
        unfold ofConn
        rw [List.take_add_one, Ht.out, List.filter_append]
        simp only [Option.toList_some, List.filter_cons, List.filter_nil]
      have hlen : (ofConn conn (L.take k)).length ≤ k := by
        have h1 := List.length_filter_le (fun t : Reply => t.conn == conn && !(t.kind == 5)) (L.take k)
        have h2 := List.length_take_le k L
        unfold ofConn; omega
      by_cases h1 : (t.conn == conn) = true
      · by_cases h2 : (t.kind == 5) = true
        · rw [h1, h2] at hof
          simp only [Bool.not_true, Bool.and_false, if_false, List.append_nil, Bool.false_eq_true] at hof
          have Hof := Lib.hid hof; clear hof
          have h3 : (t.kind != 5) = false := by rw [bne, h2]; rfl
          go_wp2_with (first
            | (refine wpList_load_agg rfl 43 _ rfl b (off + k * 9) rfl [.int .i64 t.conn, .int .i64 t.kind, .int .i64 t.moment, .int .i64 t.lines, .string ⟨t.method.toArray⟩, .string ⟨t.uri.toArray⟩, .string ⟨t.key.toArray⟩, .int .i64 t.status, .int .i64 t.age] _ Hc.out Try.underlying43 rfl (by kernel_rfl) ?_))
          go_roundw
          case rel => exact ⟨k + 1, by omega, by go_num, by rw [Hof.out]; exact Hrow.out.alloc _, hbel.alloc hbel.size _⟩
          case measure => simp [intOf]; omega
        · have h2' : (t.kind == 5) = false := by simpa using h2
          rw [h1, h2'] at hof
          simp only [Bool.not_false, Bool.and_true, if_true] at hof
          have Hof := Lib.hid hof; clear hof
          have h3 : (t.kind != 5) = true := by rw [bne, h2']; rfl
          clear h2
          go_wp2_with (first
            | (at_builtin; refine wpList_app2 told_ty rfl _ _ rfl w.heap.size _ _ _ rfl (by exact Hrow.out.alloc _) 1 1 _ _ rfl (by simp) (by rfl) (toldsV_one [t]) (by omega) (by simp only [maxLen]; omega) (by simp; have := hbel.size; omega) ?_; intro v' w3 hown' hgr)
            | (refine wpList_load_agg rfl 43 _ rfl b (off + k * 9) rfl [.int .i64 t.conn, .int .i64 t.kind, .int .i64 t.moment, .int .i64 t.lines, .string ⟨t.method.toArray⟩, .string ⟨t.uri.toArray⟩, .string ⟨t.key.toArray⟩, .int .i64 t.status, .int .i64 t.age] _ Hc.out Try.underlying43 rfl (by kernel_rfl) ?_))
          go_roundw
          case rel =>
            refine ⟨k + 1, by omega, by go_num, ?_, (hbel.alloc hbel.size _).grown hgr (by simp; have := hbel.size; omega) (fun g hg => (Hrow.out.lt g hg).1)⟩
            rw [Hof.out, toldsV, List.flatMap_append, List.length_append]
            exact hown'
          case measure => simp [intOf]; omega
      · have h1' : (t.conn == conn) = false := by simpa using h1
        rw [h1'] at hof
        simp only [Bool.false_and, Bool.false_eq_true, if_false, List.append_nil] at hof
        have Hof := Lib.hid hof; clear hof h1
        go_wp2_with (first
          | (refine wpList_load_agg rfl 43 _ rfl b (off + k * 9) rfl [.int .i64 t.conn, .int .i64 t.kind, .int .i64 t.moment, .int .i64 t.lines, .string ⟨t.method.toArray⟩, .string ⟨t.uri.toArray⟩, .string ⟨t.key.toArray⟩, .int .i64 t.status, .int .i64 t.age] _ Hc.out Try.underlying43 rfl (by kernel_rfl) ?_))
        go_roundw
        case rel => exact ⟨k + 1, by omega, by go_num, by rw [Hof.out]; exact Hrow.out.alloc _, hbel.alloc hbel.size _⟩
        case measure => simp [intOf]; omega
    · obtain rfl : k = n := by omega
      have e : L.take k = L := List.take_of_length_le (by omega)
      rw [e] at Hrow
      clear e
      go_wp2
      go_ret
      exact ⟨_, rfl, Hrow.out, hbel⟩
end Go.Proofs.Ytamoebdfppjbkaa
