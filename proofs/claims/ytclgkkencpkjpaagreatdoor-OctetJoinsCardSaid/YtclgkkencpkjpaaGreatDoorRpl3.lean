/- strings.NewReplacer and (*strings.Replacer).Replace for the two pairs that octet.Quote gives. Condition: lengths within bounds. -/
import Derived.Test.YtclgkkencpkjpaaGreatDoorRpl2
import Derived.Test.YtclgkkencpkjpaaGreatDoorShape
namespace Go.Proofs.YtclgkkencpkjpaaGreatDoor
open Go.RowKit IH
set_option maxRecDepth 100000
theorem tbl_only {g h : Nat} {cs : List Value} {W W' : World} (ht : Tbl W h) (hg : RowAt W g 187 cs) (ho : Only g W W') : Tbl W' h := by
  obtain ⟨f, v3, hf, hrow, ⟨g1, c1, Y1, h34, hr1⟩, ⟨g2, c2, Y2, h92, hr2⟩, base, hown⟩ := ht
  exact ⟨f, v3, hf, hrow.only ho (fun e => by subst e; exact row_ty_ne hrow hg (by decide)), ⟨g1, c1, Y1, h34, hr1.only ho (fun e => by subst e; exact row_ty_ne hr1 hg (by decide))⟩,
    ⟨g2, c2, Y2, h92, hr2.only ho (fun e => by subst e; exact row_ty_ne hr2 hg (by decide))⟩, base, own_only_tyR hown ho hg (by decide)⟩
theorem tbl_drew {h : Nat} {W : World} (ht : Tbl W h) : Tbl W.drew h := by
  obtain ⟨f, v3, hf, hrow, ⟨g1, c1, Y1, h34, hr1⟩, ⟨g2, c2, Y2, h92, hr2⟩, base, hown⟩ := ht
  exact ⟨f, v3, hf, hrow.drewN 1, ⟨g1, c1, Y1, h34, hr1.drewN 1⟩, ⟨g2, c2, Y2, h92, hr2.drewN 1⟩, base, hown⟩
/-- buildOnce: the table is built and the texts given back. -/
theorem bonce_any (g : Nat) (u v z r : Value) (b o c : Nat) (w : World) (hr : RowAt w g 187 [u, v, z, r, .slice (some ⟨b, o, none⟩) 4 c]) (hin : SliceIn w w.heap.size 1 (some ⟨b, o, none⟩) 4 c (strsV rplOld)) :
    Calls Tryz.prog 116 #[.pointer (some ⟨g, 0, none⟩)] w fun e w' => e = .returned (.tuple #[]) ∧ ∃ r', RowAt w' g 187 [u, v, z, r', .slice none 0 0] ∧ ∃ h, r' = .iface 253 (.pointer (some ⟨h, 0, none⟩)) ∧ Tbl w' h ∧ Save w.heap.size g w w' := by
  have RB := Lib.hid (rbuild_any g u v z r b o c w hr hin)
  have Hr := Lib.hid hr
  clear hr hin
  go_enter Tryz.func116, Tryz.ntmps116
  go_upto_region 1 with (go_at_call 159; (with_reducible refine RB.out.mono ?_); rintro e w1 ⟨h, rfl, hh, htb, hbel⟩; have R1 := Lib.hid (Hr.out.below hbel Hr.out.lt); have f1 := R1.out.frozen (j := 3) (by show 3 < 5; decide); have c1 := R1.out.cell (j := 3) rfl; have T1 := Lib.hid htb; have B1 := Lib.hid hbel; clear hh htb hbel)
  obtain ⟨w2, hw2⟩ : ∃ W : World, w1.setCell ⟨g, 3, none⟩ (.iface 253 (.pointer (some ⟨h, 0, none⟩))) = W := ⟨_, rfl⟩
  have R2 : Hid (RowAt w2 g 187 [u, v, z, .iface 253 (.pointer (some ⟨h, 0, none⟩)), .slice (some ⟨b, o, none⟩) 4 c]) := Lib.hid (by rw [← hw2]; exact R1.out.set_ (by show 3 < 5; decide) _)
  have T2 : Hid (Tbl w2 h) := Lib.hid (by rw [← hw2]; exact tbl_only T1.out R1.out (Only.setCell g 3 w1 _))
  have S2 : Hid (Save w.heap.size g w w2) := Lib.hid (by rw [← hw2]; exact (below_save B1.out).setCell 3 _)
  rw [hw2]
  have f2 := R2.out.frozen (j := 4) (by show 4 < 5; decide)
  have c2 := R2.out.cell (j := 4) rfl
  clear hw2 f1 c1 R1 T1 B1 RB Hr
  go_wp2_with fail
  go_end0
  exact ⟨rfl, _, R2.out.set_ (j := 4) (by show 4 < 5; decide) _, h, rfl, tbl_only T2.out R2.out (Only.setCell g 4 w2 _), S2.out.setCell 4 _⟩
set_option maxHeartbeats 4000000 in
theorem rreplace_any (g b o c : Nat) (s : ByteArray) (hs : s.size ≤ 1000000) (w : World) (hr : RowAt w g 187 [.int .u32 0, .int .i32 0, .int .u32 0, .nilIface, .slice (some ⟨b, o, none⟩) 4 c]) (hin : SliceIn w g 1 (some ⟨b, o, none⟩) 4 c (strsV rplOld)) :
    Calls Tryz.prog 60 #[.pointer (some ⟨g, 0, none⟩), .string s] w fun e w' => e = .returned (.string ⟨(s.data.toList.flatMap escQ).toArray⟩) ∧ Save w.heap.size g w w' := by
  have BO := bonce_any g (.int .u32 0) (.int .i32 1) (.int .u32 0) (.nilIface) b o c (w.setCell ⟨g, 1, none⟩ (.int .i32 1)) (hr.set_ (by show 1 < 5; decide) _) (by
    have h1 := (hin.setCell (p := ⟨g, 1, none⟩) (Nat.le_refl _) (.int .i32 1)).more (B' := w.heap.size) (Nat.le_of_lt hr.lt)
    rw [World.size_setCell]
    exact h1)
  have OD := onc_do g 187 0 .nilIface (.slice (some ⟨b, o, none⟩) 4 c) (.slice none 0 0) w _ hr BO
  have SC := Lib.hid ((below_save (Below.refl w.heap.size w)).setCell (g := g) 1 (.int .i32 1))
  have ODH := Lib.hid OD
  clear BO OD hr hin
  go_enter Tryz.func60, Tryz.ntmps60
  go_upto_region 2 with (go_at_call 115; (with_reducible refine ODH.out.mono ?_); rintro e w2 ⟨rfl, w1, r', hrow, ⟨h, rfl, htb, hsv⟩, hw2⟩; have R1 := Lib.hid hrow; have T1 := Lib.hid htb; have S1 := Lib.hid hsv; have HW := Lib.hid hw2; clear hrow htb hsv hw2)
  have RA : RowAt w2 g 187 [.int .u32 1, .int .i32 0, .int .u32 0, .iface 253 (.pointer (some ⟨h, 0, none⟩)), .slice none 0 0] := by
    rw [HW.out]
    exact ((R1.out.drewN 1).set_ (j := 0) (by show 0 < 5; decide) _).set_ (j := 1) (by show 1 < 5; decide) _
  have TA : Tbl w2 h := by
    rw [HW.out]
    have t1 := tbl_drew T1.out
    have r1 := R1.out.drewN 1
    exact tbl_only (tbl_only t1 r1 (Only.setCell g 0 _ _)) (r1.set_ (j := 0) (by show 0 < 5; decide) _) (Only.setCell g 1 _ _)
  have SA : Hid (Save w.heap.size g w w2) := Lib.hid (by
    rw [HW.out]
    have s1 := S1.out
    rw [World.size_setCell] at s1
    exact ((((SC.out.trans s1).drewN 1).setCell 0 _).setCell 1 _))
  have c3 := RA.cell (j := 3) rfl
  have BR := Lib.hid (breplace_any h s hs w2 TA)
  clear RA TA HW ODH SC R1 T1 S1
  have hm : ∀ w : World, (method 449 253 (.pointer (some ⟨h, 0, none⟩)) "Replace").run Tryz.prog w = .ok (305, .pointer (some ⟨h, 0, none⟩)) w := fun _ => by kernel_rfl
  go_wp2_with (go_at_call 305; (with_reducible refine BR.out.mono ?_); rintro e w3 ⟨rfl, hb3⟩)
  go_ret
  exact ⟨rfl, SA.out.step hb3 SA.out.size⟩
theorem newrep_any (b0 o0 c0 : Nat) (w : World) (hin : SliceIn w w.heap.size 1 (some ⟨b0, o0, none⟩) 4 c0 (strsV rplOld)) :
    Calls Tryz.prog 59 #[.slice (some ⟨b0, o0, none⟩) 4 c0] w fun e w' => ∃ g b o c, e = .returned (.pointer (some ⟨g, 0, none⟩)) ∧ RowAt w' g 187 [.int .u32 0, .int .i32 0, .int .u32 0, .nilIface, .slice (some ⟨b, o, none⟩) 4 c] ∧ SliceIn w' g 1 (some ⟨b, o, none⟩) 4 c (strsV rplOld) ∧ Below w.heap.size w w' ∧ w.heap.size ≤ g := by
  have HI := Lib.hid hin
  have ON := Lib.hid (World.ownsRow_nil w w.heap.size 9 1)
  have hone : Hid (∀ u ∈ strsV rplOld, u.oneCell' = true) := Lib.hid (fun u hu => by
    obtain ⟨x, _, rfl⟩ := List.mem_map.1 hu
    rfl)
  clear hin
  go_enter Tryz.func59, Tryz.ntmps59
  go_wp2_with (at_builtin; refine wpList_appS str_ty rfl _ _ rfl w.heap.size (.slice none 0 0) 0 [] rfl ON.out w.heap.size (some ⟨b0, o0, none⟩) 4 c0 (strsV rplOld) rfl HI.out hone.out (by decide) (by simp [maxLen]) (Nat.le_refl _) ?_; intro v1 w1 hown hgr; obtain ⟨A1, k1, rfl, hs1⟩ := own_slice hown; have HS := Lib.hid hs1; have B1 := Lib.hid ((Below.refl w.heap.size w).grown hgr (Nat.le_refl _) (fun q hq => by cases hq)); clear hown hgr hs1)
  go_ret
  obtain ⟨b, o, rfl, hb, hc⟩ := HS.out.2.2.2 (by decide)
  exact ⟨w1.heap.size, b, o, k1, rfl, RowAt.new w1 187 [.int .u32 0, .int .i32 0, .int .u32 0, .nilIface, .slice (some ⟨b, o, none⟩) 4 k1], HS.out.alloc (Nat.le_refl _) _, B1.out.alloc B1.out.size _, B1.out.size⟩
end Go.Proofs.YtclgkkencpkjpaaGreatDoor
