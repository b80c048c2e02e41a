/- Walks of icehouseref28.Of and Same: the document's answer for what was told of a connection. No condition but that lists are within bounds. -/
import Derived.Test.YtamoebdfppjbkaaAcc1
import Derived.Laws.StructEq
namespace Go.Proofs.Ytamoebdfppjbkaa
open Go.RowKit IH
set_option maxRecDepth 100000
set_option maxHeartbeats 4000000 in
theorem refOf_any (conn : Int) (A : Option Addr) (n c : Nat) (L : List Reply) (w : World) (hin : SliceIn w w.heap.size 9 A n c (toldsV L)) (hs : n ≤ 1000000) :
    Calls Try.prog 16 #[.int .i64 conn, .slice A n c] w fun e w' => ∃ v, e = .returned v ∧ w'.ownsRow w.heap.size 43 9 v (ofConn conn L).length (toldsV (ofConn conn L)) ∧ Below w.heap.size w w' := by
  have hL : L.length = n := by have := hin.1; rw [toldsV_length] at this; omega
  go_enter Try.func16, Try.ntmps16
  go_wp2
  go_loopw [5, 6] (fun v i wr => ∃ k : Nat, k ≤ n ∧ i = .int .i64 k ∧ wr.ownsRow w.heap.size 43 9 v (ofConn conn (L.take k)).length (toldsV (ofConn conn (L.take k))) ∧ Below w.heap.size w wr) (fun _ i _ => n - (intOf i).toNat)
  case atStart => exact ⟨0, by omega, rfl, World.ownsRow_nil _ _ _ _, Below.refl _ _⟩
  case round =>
    obtain ⟨k, hk, rfl, hrow, hbel⟩ := hrel
    have Hrow := Lib.hid hrow; clear hrow
    by_cases hlt : k < n
    · obtain ⟨t, ht⟩ : ∃ l, L[k]? = some l := ⟨_, List.getElem?_eq_getElem (by omega)⟩
      obtain ⟨b, off, rfl, hb, hc⟩ := hin.2.2.2 (by omega)
      have hcell : ∀ j u, (toldCells t)[j]? = some u → wr.cell? ⟨b, off + k * 9 + j, none⟩ = some u := fun j u hu => by
        have hj : j < 9 := by have := (List.getElem?_eq_some_iff.1 hu).1; rw [toldCells_length] at this; exact this
        rw [hbel.cell (p := ⟨b, off + k * 9 + j, none⟩) hb, Nat.add_assoc]
        exact hc _ _ (by rw [toldsV, flat_get toldCells 9 toldCells_length L k j t ht hj, hu])
      have c0 := hcell 0 _ rfl
      have c1 := hcell 1 _ rfl
      simp only [Nat.add_zero] at c0
      have Hc := Lib.hid hcell; clear hcell hc
      have Ht := Lib.hid ht; clear ht
      have hof : ofConn conn (L.take (k + 1)) = ofConn conn (L.take k) ++ (if t.conn == conn && !(t.kind == 5) then [t] else []) := by
        unfold ofConn
        rw [List.take_add_one, Ht.out, List.filter_append]
        simp only [Option.toList_some, List.filter_cons, List.filter_nil]
      have hlen : (ofConn conn (L.take k)).length ≤ k := by
        have h1 := List.length_filter_le (fun t : Reply => t.conn == conn && !(t.kind == 5)) (L.take k)
        have h2 := List.length_take_le k L
        unfold ofConn; omega
      by_cases h1 : (t.conn == conn) = true
      · by_cases h2 : (t.kind == 5) = true
        · rw [h1, h2] at hof
          simp only [Bool.not_true, Bool.and_false, if_false, List.append_nil, Bool.false_eq_true] at hof
          have Hof := Lib.hid hof; clear hof
          have h3 : (t.kind != 5) = false := by rw [bne, h2]; rfl
          go_wp2_with (first
            | (refine wpList_load_agg rfl 43 _ rfl b (off + k * 9) rfl [.int .i64 t.conn, .int .i64 t.kind, .int .i64 t.moment, .int .i64 t.lines, .string ⟨t.method.toArray⟩, .string ⟨t.uri.toArray⟩, .string ⟨t.key.toArray⟩, .int .i64 t.status, .int .i64 t.age] _ Hc.out Try.underlying43 rfl (by kernel_rfl) ?_))
          go_roundw
          case rel => exact ⟨k + 1, by omega, by go_num, by rw [Hof.out]; exact Hrow.out, hbel⟩
          case measure => simp [intOf]; omega
        · have h2' : (t.kind == 5) = false := by simpa using h2
          rw [h1, h2'] at hof
          simp only [Bool.not_false, Bool.and_true, if_true] at hof
          have Hof := Lib.hid hof; clear hof
          have h3 : (t.kind != 5) = true := by rw [bne, h2']; rfl
          clear h2
          go_wp2_with (first
            | (at_builtin; refine wpList_app2 told_ty rfl _ _ rfl w.heap.size _ _ _ rfl Hrow.out 1 1 _ _ rfl rfl (by rfl) (toldsV_one [t]) (by omega) (by simp only [maxLen]; omega) hbel.size ?_; intro v' w3 hown' hgr)
            | (refine wpList_load_agg rfl 43 _ rfl b (off + k * 9) rfl [.int .i64 t.conn, .int .i64 t.kind, .int .i64 t.moment, .int .i64 t.lines, .string ⟨t.method.toArray⟩, .string ⟨t.uri.toArray⟩, .string ⟨t.key.toArray⟩, .int .i64 t.status, .int .i64 t.age] _ Hc.out Try.underlying43 rfl (by kernel_rfl) ?_))
          go_roundw
          case rel =>
            refine ⟨k + 1, by omega, by go_num, ?_, hbel.grown hgr hbel.size (fun g hg => (Hrow.out.lt g hg).1)⟩
            rw [Hof.out, toldsV, List.flatMap_append, List.length_append]
            exact hown'
          case measure => simp [intOf]; omega
      · have h1' : (t.conn == conn) = false := by simpa using h1
        rw [h1'] at hof
        simp only [Bool.false_and, Bool.false_eq_true, if_false, List.append_nil] at hof
        have Hof := Lib.hid hof; clear hof h1
        go_wp2_with (first
          | (refine wpList_load_agg rfl 43 _ rfl b (off + k * 9) rfl [.int .i64 t.conn, .int .i64 t.kind, .int .i64 t.moment, .int .i64 t.lines, .string ⟨t.method.toArray⟩, .string ⟨t.uri.toArray⟩, .string ⟨t.key.toArray⟩, .int .i64 t.status, .int .i64 t.age] _ Hc.out Try.underlying43 rfl (by kernel_rfl) ?_))
        go_roundw
        case rel => exact ⟨k + 1, by omega, by go_num, by rw [Hof.out]; exact Hrow.out, hbel⟩
        case measure => simp [intOf]; omega
    · obtain rfl : k = n := by omega
      have e : L.take k = L := List.take_of_length_le (by omega)
      rw [e] at Hrow
      clear e
      go_wp2
      go_ret
      exact ⟨_, rfl, Hrow.out, hbel⟩

/-- A reply's cells, one by one, at a place. -/
theorem told_cells {w : World} {b off : Nat} {t : Reply} (h : ∀ j u, (toldCells t)[j]? = some u → w.cell? ⟨b, off + j, none⟩ = some u) :
    w.cell? ⟨b, off, none⟩ = some (.int .i64 t.conn) ∧ w.cell? ⟨b, off + 1, none⟩ = some (.int .i64 t.kind) ∧ w.cell? ⟨b, off + 2, none⟩ = some (.int .i64 t.moment) ∧ w.cell? ⟨b, off + 3, none⟩ = some (.int .i64 t.lines) ∧ w.cell? ⟨b, off + 4, none⟩ = some (.string ⟨t.method.toArray⟩) ∧ w.cell? ⟨b, off + 5, none⟩ = some (.string ⟨t.uri.toArray⟩) ∧ w.cell? ⟨b, off + 6, none⟩ = some (.string ⟨t.key.toArray⟩) ∧ w.cell? ⟨b, off + 7, none⟩ = some (.int .i64 t.status) ∧ w.cell? ⟨b, off + 8, none⟩ = some (.int .i64 t.age) :=
  ⟨by simpa using h 0 _ rfl, h 1 _ rfl, h 2 _ rfl, h 3 _ rfl, h 4 _ rfl, h 5 _ rfl, h 6 _ rfl, h 7 _ rfl, h 8 _ rfl⟩

theorem told_neq (t : Reply) (w : World) : (binOp .neq 43 (.agg (toldCells t).toArray) (.agg (toldCells t).toArray)).run Try.prog w = .ok (.bool false) w := by
  have u1 := Try.underlying3
  have u2 := Try.underlying9
  have hS : Program.underlying Try.prog 43 = some (.struct (Program.fieldsOf Try.prog 43)) := by kernel_rfl
  have hp : Program.stoodInHeld Try.prog 43 = false := by kernel_rfl
  simp only [toldCells]
  rw [run_neq_struct, show (10000 : Nat) = 9999 + 1 from rfl, run_equalIn_agg w 9999 43 _ _ hS hp]
  simp only [Program.fieldsOf, Try.underlying43]
  go_simp
  try simp
end Go.Proofs.Ytamoebdfppjbkaa
