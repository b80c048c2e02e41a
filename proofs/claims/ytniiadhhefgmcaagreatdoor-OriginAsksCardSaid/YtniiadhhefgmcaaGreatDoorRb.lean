/- Rb: several texts, one behind the other. -/
import Derived.Test.YtniiadhhefgmcaaGreatDoorMz
import Derived.Test.YtniiadhhefgmcaaGreatDoorLz
import Derived.Test.YtniiadhhefgmcaaGreatDoorCy
import Derived.Test.YtniiadhhefgmcaaGreatDoorFq
import Derived.Test.YtniiadhhefgmcaaGreatDoorShelf2
import Derived.Test.YtniiadhhefgmcaaGreatDoorCk
import Derived.Test.YtniiadhhefgmcaaGreatDoorMs
/- Layer 8: a reader in memory; a new one; the first line taken, by the code. Condition: the world's shape, at most 10^8 octets. -/
namespace Go.Proofs.YtniiadhhefgmcaaGreatDoor
open Go.RowKit IH
set_option maxRecDepth 100000
/-- Of the blocks ahead of B, none but blocks g and h may have changed. -/
structure Save2 (B g h : Nat) (w w' : World) : Prop where
  os : w'.os = w.os
  tape : w'.tape = w.tape
  output : w'.output = w.output
  size : w.heap.size ≤ w'.heap.size
  block : ∀ k, k < B → k ≠ g → k ≠ h → w'.heap[k]? = w.heap[k]?
theorem Save2.refl (B g h : Nat) (w : World) : Save2 B g h w w := ⟨rfl, rfl, rfl, Nat.le_refl _, fun _ _ _ _ => rfl⟩
theorem Save2.trans {B g h : Nat} {a b c : World} (x : Save2 B g h a b) (y : Save2 B g h b c) : Save2 B g h a c :=
  ⟨y.os.trans x.os, y.tape.trans x.tape, y.output.trans x.output, Nat.le_trans x.size y.size, fun k h1 h2 h3 => (y.block k h1 h2 h3).trans (x.block k h1 h2 h3)⟩
theorem Save2.mono {B B' g h : Nat} {w w' : World} (x : Save2 B g h w w') (hB : B' ≤ B) : Save2 B' g h w w' := ⟨x.os, x.tape, x.output, x.size, fun k h1 h2 h3 => x.block k (by omega) h2 h3⟩
theorem Save2.step {B g h : Nat} {a b c : World} (x : Save2 B g h a b) (y : Save2 b.heap.size g h b c) (hB : B ≤ a.heap.size) : Save2 B g h a c := x.trans (y.mono (Nat.le_trans hB x.size))
theorem Save.left {B g h : Nat} {w w' : World} (x : Save B g w w') : Save2 B g h w w' := ⟨x.os, x.tape, x.output, x.size, fun k h1 h2 _ => x.block k h1 h2⟩
theorem Save.right {B g h : Nat} {w w' : World} (x : Save B h w w') : Save2 B g h w w' := ⟨x.os, x.tape, x.output, x.size, fun k h1 _ h3 => x.block k h1 h3⟩
theorem Save2.of_below {B g h : Nat} {w w' : World} (x : Below B w w') : Save2 B g h w w' := ⟨x.os, x.tape, x.output, x.size, fun k h1 _ _ => x.block k h1⟩
theorem Save2.below {B g h : Nat} {w w' : World} (x : Save2 B g h w w') (h1 : B ≤ g) (h2 : B ≤ h) : Below B w w' := ⟨x.os, x.tape, x.output, x.size, fun k hk => x.block k hk (by omega) (by omega)⟩
theorem RowAt.save2 {B g h k : Nat} {e : TypeId} {cs : List Value} {w w' : World} (hr : RowAt w k e cs) (x : Save2 B g h w w') (h1 : k ≠ g) (h2 : k ≠ h) (hB : k < B) : RowAt w' k e cs := hr.keep (x.block k hB h1 h2)
theorem SliceIn.save2 {B g h size n c : Nat} {A : Option Addr} {xs : List Value} {w w' : World} (hs : SliceIn w B size A n c xs) (x : Save2 B g h w w') (hne : ∀ b o, A = some ⟨b, o, none⟩ → b ≠ g ∧ b ≠ h) : SliceIn w' B size A n c xs :=
  ⟨hs.1, hs.2.1, hs.2.2.1, fun hn => by
    obtain ⟨b, o, e, hb, hc⟩ := hs.2.2.2 hn
    obtain ⟨h1, h2⟩ := hne b o e
    exact ⟨b, o, e, hb, fun j u hu => (World.cell?_of_block (x.block b hb h1 h2)).trans (hc j u hu)⟩⟩
/-- A struct stored into the middle of a block. -/
theorem row_sets_mid {g : Nat} {e : TypeId} : ∀ (vs olds pre post : List Value) (w : World), RowAt w g e (pre ++ (olds ++ post)) → olds.length = vs.length → RowAt (w.setCells g pre.length vs) g e (pre ++ (vs ++ post))
  | [], olds, pre, post, w, h, hl => by
    obtain rfl : olds = [] := List.eq_nil_of_length_eq_zero hl
    exact h
  | v :: r, [], pre, post, w, h, hl => by simp at hl
  | v :: r, o :: olds, pre, post, w, h, hl => by
    have h1 := h.set_ (j := pre.length) (by simp) v
    have e1 : (pre ++ (o :: olds ++ post)).set pre.length v = (pre ++ [v]) ++ (olds ++ post) := by simp
    rw [e1] at h1
    have h2 := row_sets_mid r olds (pre ++ [v]) post _ h1 (by simpa using hl)
    have e2 : (pre ++ [v]).length = pre.length + 1 := by simp
    rw [e2] at h2
    have e3 : (pre ++ [v]) ++ (r ++ post) = pre ++ (v :: r ++ post) := by simp
    rw [e3] at h2
    exact h2
theorem wpList_store_at {P : Program} {ops : Array Oper} {Q : Exit → Act → World → Prop} {rest : List Oper} {op : Oper} {a : Act} {w : World} (hgd : op.guard = none) (ty : TypeId) (x y : Operand) (ho : op.op = .store ty x y)
    (g : Nat) (e : TypeId) (pre olds vs post : List Value) (hx : a.eval x = .pointer (some ⟨g, pre.length, none⟩)) (hy : a.eval y = .agg vs.toArray) (hr : RowAt w g e (pre ++ (olds ++ post))) (hl : olds.length = vs.length)
    (hi : (P.info? ty).map (·.size) = some vs.length) (h1 : ∀ v ∈ vs, v.oneCell' = true)
    (h : ∀ w', RowAt w' g e (pre ++ (vs ++ post)) → Only g w w' → wpList P ops Q rest (a.put op.dst undef) w') : wpList P ops Q (op :: rest) a w := by
  refine wpList_store_mid hgd ty x y ho g pre.length vs.toArray hx hy ?_ (by simpa using hi) (all_oneCell_toArray h1) ?_
  · intro j hj
    have hj' : j < olds.length := by simpa [hl] using hj
    have hlt : pre.length + j < (pre ++ (olds ++ post)).length := by simp only [List.length_append]; omega
    exact ⟨by rw [hr.cell (j := pre.length + j) (List.getElem?_eq_getElem hlt)]; rfl, hr.frozen hlt⟩
  · rw [List.toList_toArray]
    exact h _ (row_sets_mid vs olds pre post w hr hl) (Only.setCells g vs _ w)
/-- A reader's cells. -/
def rdV (dg : Nat) (r : Rd) (F : Value) : List Value :=
  [.pointer (some ⟨dg, 0, none⟩), .bool r.asks, .string ⟨r.method.toArray⟩, .int .i64 r.w] ++ (staC r.start ++ [F, .slice none 0 0, .int .i64 r.kind, .int .i64 r.left, .int .i64 r.fault])
theorem mnew_any (asks : Bool) (M : ByteArray) (w : World) :
    Calls Tryz.prog 33 #[.bool asks, .string M] w fun e w' => ∃ g dg, e = .returned (.pointer (some ⟨g, 0, none⟩)) ∧ w.heap.size ≤ g ∧ w.heap.size ≤ dg ∧ g ≠ dg ∧ RowAt w' g 122 (rdV dg (Rd.new asks M.data.toList) (.slice none 0 0)) ∧ RowAt w' dg 146 (decV Dec.new) ∧ Below w.heap.size w w' := by
  have N := Lib.hid (cnew_any w)
  go_enter Tryz.func33, Tryz.ntmps33
  go_wp2_with (go_at_call 78; (with_reducible refine N.out.mono ?_); rintro x2 w2 ⟨rfl, hr2, hb2⟩; have R2 := Lib.hid hr2; have B2 := Lib.hid hb2; clear hr2 hb2)
  go_ret
  have hl := R2.out.lt
  have hr := RowAt.new w2 122 (rdV w.heap.size (Rd.new asks M.data.toList) (.slice none 0 0))
  refine ⟨_, w.heap.size, rfl, B2.out.size, Nat.le_refl _, by omega, ?_, R2.out.alloc _, B2.out.alloc B2.out.size _⟩
  have e : (rdV w.heap.size (Rd.new asks M.data.toList) (.slice none 0 0)).toArray = #[.pointer (some ⟨w.heap.size, 0, none⟩), .bool asks, .string M, .int .i64 0, .string ⟨#[]⟩, .string ⟨#[]⟩, .int .i64 0, .string ⟨#[]⟩, .int .i64 0, .slice none 0 0, .slice none 0 0, .int .i64 0, .int .i64 0, .int .i64 0] := by
    simp [rdV, Rd.new, staC, Sta.zero]
  rw [e] at hr
  exact hr
end Go.Proofs.YtniiadhhefgmcaaGreatDoor

/- Layer 8: a reader takes the first line, by the code. Condition: the world's shape, at most 10^9 octets. Printed by mkrea2.py. -/
namespace Go.Proofs.YtniiadhhefgmcaaGreatDoor
open Go.RowKit IH
set_option maxRecDepth 100000
/-- A reader that took a first line. -/
def lineRd (r : Rd) (l : List UInt8) : Rd := if (lineM r.asks l).2.2 = 0 then { r with start := (lineM r.asks l).1, w := 1 } else r
theorem rdV_split (dg : Nat) (r : Rd) (F : Value) : rdV dg r F = [.pointer (some ⟨dg, 0, none⟩), .bool r.asks, .string ⟨r.method.toArray⟩, .int .i64 r.w] ++ (staC r.start ++ [F, .slice none 0 0, .int .i64 r.kind, .int .i64 r.left, .int .i64 r.fault]) := rfl
set_option maxHeartbeats 32000000 in
theorem rdline_any (g dg : Nat) (r : Rd) (F : Value) (b0 off m k : Nat) (l : List UInt8) (w : World) (hsh : w.ShapedOpen Tryz.prog) (hr : RowAt w g 122 (rdV dg r F)) (hin : SliceIn w w.heap.size 1 (some ⟨b0, off, none⟩) m k (bytesV l)) (hm : m ≤ 1000000000) (hne : b0 ≠ g) :
    Calls Tryz.prog 118 #[.pointer (some ⟨g, 0, none⟩), .slice (some ⟨b0, off, none⟩) m k] w fun e w' => e = .returned (.tuple #[.int .i64 (lineM r.asks l).2.1, .int .i64 (lineM r.asks l).2.2]) ∧ RowAt w' g 122 (rdV dg (lineRd r l) F) ∧ Save w.heap.size g w w' := by
  have _u := hne
  have RS := sresp_any b0 off m k l w hsh hin hm
  have RQ := fun W (hW : Below w.heap.size w W) => sreq_any b0 off m k l W (shaped_below hsh hW) ((hin.below hW).more hW.size) hm
  obtain ⟨Tr, hTr⟩ : ∃ T, responseL l = T := ⟨_, rfl⟩
  obtain ⟨Tq, hTq⟩ : ∃ T, requestL l = T := ⟨_, rfl⟩
  rw [hTr] at RS
  rw [hTq] at RQ
  have hM : lineM r.asks l = if r.asks = true then Tq else Tr := by unfold lineM; rw [hTr, hTq]
  have hHi : (Tryz.prog.info? 23).map (·.size) = some 5 := by kernel_rfl
  obtain ⟨Cr, hCr⟩ : ∃ C, staC Tr.1 = C := ⟨_, rfl⟩
  obtain ⟨Cq, hCq⟩ : ∃ C, staC Tq.1 = C := ⟨_, rfl⟩
  obtain ⟨C0, hC0⟩ : ∃ C, staC r.start = C := ⟨_, rfl⟩
  rw [hCr] at RS
  rw [hCq] at RQ
  have HCr : Hid (Cr.length = 5 ∧ ∀ v ∈ Cr, v.oneCell' = true) := Lib.hid (by rw [← hCr]; exact ⟨rfl, staC_one _⟩)
  have HCq : Hid (Cq.length = 5 ∧ ∀ v ∈ Cq, v.oneCell' = true) := Lib.hid (by rw [← hCq]; exact ⟨rfl, staC_one _⟩)
  have HC0 : Hid (C0.length = 5) := Lib.hid (by rw [← hC0]; rfl)
  have HIr : Hid ((Tryz.prog.info? 23).map (·.size) = some Cr.length) := Lib.hid (by rw [HCr.out.1]; exact hHi)
  have HIq : Hid ((Tryz.prog.info? 23).map (·.size) = some Cq.length) := Lib.hid (by rw [HCq.out.1]; exact hHi)
  obtain ⟨as_, has⟩ : ∃ a, r.asks = a := ⟨_, rfl⟩
  obtain ⟨V, hV⟩ : ∃ V, rdV dg r F = V := ⟨_, rfl⟩
  have h1 : V[1]? = some (.bool as_) := by rw [← hV, ← has]; rfl
  obtain ⟨er, her⟩ : ∃ e, Tr.2.2 = e := ⟨_, rfl⟩
  obtain ⟨eq, heq⟩ : ∃ e, Tq.2.2 = e := ⟨_, rfl⟩
  obtain ⟨nr, hnr⟩ : ∃ e, Tr.2.1 = e := ⟨_, rfl⟩
  obtain ⟨nq, hnq⟩ : ∃ e, Tq.2.1 = e := ⟨_, rfl⟩
  rw [her, hnr] at RS
  rw [heq, hnq] at RQ
  rw [hV] at hr
  have HM := Lib.hid hM
  have HV := Lib.hid hV
  have HAS := Lib.hid has
  have R1 := Lib.hid hr
  have HH1 := Lib.hid h1
  replace RS := Lib.hid RS
  replace RQ := Lib.hid RQ
  have HE := Lib.hid (And.intro her (And.intro heq (And.intro hnr (And.intro hnq (And.intro hCr (And.intro hCq hC0))))))
  clear hsh hin hr hM hTr hTq hCr hCq hC0 hV h1 has her heq hnr hnq hHi
  cases as_ with
  | false =>
    have HT : Hid (lineM r.asks l = Tr) := Lib.hid (by rw [HM.out, if_neg (by rw [HAS.out]; simp)])
    by_cases hz : er = 0
    · subst hz
      go_enter Tryz.func118, Tryz.ntmps118
      go_wp2_with (first
        | (go_at_call 136; (with_reducible refine RS.out.mono ?_); rintro x2 w2 ⟨rfl, hb2⟩; have B2 := Lib.hid hb2; have R2 := Lib.hid (R1.out.below hb2 R1.out.lt); have tokA : True := trivial; clear hb2 RS)
        | (have _t := tokA; refine wpList_store_row rfl 23 _ _ rfl w2.heap.size _ Cr [.string ⟨#[]⟩, .string ⟨#[]⟩, .int .i64 0, .string ⟨#[]⟩, .int .i64 0] rfl rfl (RowAt.new w2 23 _) (by rw [HCr.out.1]; rfl) HIr.out HCr.out.2 ?_; intro w3 hr3 ho3; have hb3 := ho3.below ((Below.refl w2.heap.size w2).alloc (Nat.le_refl _) _) (Nat.le_refl _); have B3 := Lib.hid (below_step B2.out hb3); have R3 := Lib.hid (R2.out.below hb3 R2.out.lt); have L3 := Lib.hid hr3; have c1 := R3.out.cell (j := 1) HH1.out; have hgl := Lib.hid R2.out.lt; have hzl := Lib.hid B2.out.size; clear hr3 ho3 hb3 tokA; have tokB : True := trivial)
        | (refine wpList_load_g (wanted_un rfl) 23 _ rfl w2.heap.size 0 rfl Cr _ (rangeOf L3.out) Tryz.underlying23 rfl HIr.out ?_)
        | (refine wpList_store_at rfl 23 _ _ rfl g _ [.pointer (some ⟨dg, 0, none⟩), .bool r.asks, .string ⟨r.method.toArray⟩, .int .i64 r.w] C0 Cr [F, .slice none 0 0, .int .i64 r.kind, .int .i64 r.left, .int .i64 r.fault] rfl rfl (by have h := R3.out; rw [← HV.out, rdV_split, HE.out.2.2.2.2.2.2] at h; exact h) (by rw [HC0.out, HCr.out.1]) HIr.out HCr.out.2 ?_; intro w7 hr7 ho7; have R7 := Lib.hid hr7; have O7 := Lib.hid ho7; have c3 := hr7.cell (j := 3) rfl; have f3 := hr7.frozen (j := 3) (by simp); clear hr7 ho7))
      go_ret2
      refine ⟨by rw [HT.out, HE.out.1, HE.out.2.2.1]; rfl, ?_, ?_⟩
      · have h := R7.out.set_ (j := 3) (by simp) (.int .i64 1)
        have e : rdV dg (lineRd r l) F = (([.pointer (some ⟨dg, 0, none⟩), .bool r.asks, .string ⟨r.method.toArray⟩, .int .i64 r.w] : List Value) ++ (Cr ++ [F, .slice none 0 0, .int .i64 r.kind, .int .i64 r.left, .int .i64 r.fault])).set 3 (.int .i64 1) := by
          unfold lineRd
          rw [HT.out, if_pos (HE.out.1), ← HE.out.2.2.2.2.1]
          rfl
        rw [e]
        exact h
      · exact ((below_save B3.out).only O7.out).setCell 3 _
    · have e0 : (er == 0) = false := by rw [beq_eq_false_iff_ne]; exact hz
      have hne0 := hz
      clear hz
      go_enter Tryz.func118, Tryz.ntmps118
      go_wp2_with (first
        | (go_at_call 136; (with_reducible refine RS.out.mono ?_); rintro x2 w2 ⟨rfl, hb2⟩; have B2 := Lib.hid hb2; have R2 := Lib.hid (R1.out.below hb2 R1.out.lt); have tokA : True := trivial; clear hb2 RS)
        | (have _t := tokA; refine wpList_store_row rfl 23 _ _ rfl w2.heap.size _ Cr [.string ⟨#[]⟩, .string ⟨#[]⟩, .int .i64 0, .string ⟨#[]⟩, .int .i64 0] rfl rfl (RowAt.new w2 23 _) (by rw [HCr.out.1]; rfl) HIr.out HCr.out.2 ?_; intro w3 hr3 ho3; have hb3 := ho3.below ((Below.refl w2.heap.size w2).alloc (Nat.le_refl _) _) (Nat.le_refl _); have B3 := Lib.hid (below_step B2.out hb3); have R3 := Lib.hid (R2.out.below hb3 R2.out.lt); have L3 := Lib.hid hr3; have c1 := R3.out.cell (j := 1) HH1.out; have hgl := Lib.hid R2.out.lt; have hzl := Lib.hid B2.out.size; clear hr3 ho3 hb3 tokA; have tokB : True := trivial))
      go_ret2
      refine ⟨by rw [HT.out, HE.out.1, HE.out.2.2.1]; rfl, ?_, below_save B3.out⟩
      have e : lineRd r l = r := by unfold lineRd; rw [HT.out, if_neg (by rw [HE.out.1]; exact hne0)]
      rw [e, HV.out]
      exact R3.out
  | true =>
    have HT : Hid (lineM r.asks l = Tq) := Lib.hid (by rw [HM.out, if_pos HAS.out])
    by_cases hz : eq = 0
    · subst hz
      go_enter Tryz.func118, Tryz.ntmps118
      go_wp2_with (first
        | (go_at_call 136; (with_reducible refine RS.out.mono ?_); rintro x2 w2 ⟨rfl, hb2⟩; have B2 := Lib.hid hb2; have R2 := Lib.hid (R1.out.below hb2 R1.out.lt); have tokA : True := trivial; clear hb2 RS)
        | (have _t := tokA; refine wpList_store_row rfl 23 _ _ rfl w2.heap.size _ Cr [.string ⟨#[]⟩, .string ⟨#[]⟩, .int .i64 0, .string ⟨#[]⟩, .int .i64 0] rfl rfl (RowAt.new w2 23 _) (by rw [HCr.out.1]; rfl) HIr.out HCr.out.2 ?_; intro w3 hr3 ho3; have hb3 := ho3.below ((Below.refl w2.heap.size w2).alloc (Nat.le_refl _) _) (Nat.le_refl _); have B3 := Lib.hid (below_step B2.out hb3); have R3 := Lib.hid (R2.out.below hb3 R2.out.lt); have L3 := Lib.hid hr3; have c1 := R3.out.cell (j := 1) HH1.out; have hgl := Lib.hid R2.out.lt; have hzl := Lib.hid B2.out.size; clear hr3 ho3 hb3 tokA; have tokB : True := trivial)
        | (go_at_call 137; (with_reducible refine (RQ.out _ B3.out).mono ?_); rintro x4 w4 ⟨rfl, hb4⟩; have B4 := Lib.hid (below_step B3.out hb4); have R4 := Lib.hid (R3.out.below hb4 R3.out.lt); have L4 := Lib.hid (L3.out.below hb4 L3.out.lt); clear hb4 RQ tokB c1; have tokC : True := trivial)
        | (have _t := tokC; refine wpList_store_row rfl 23 _ _ rfl w2.heap.size _ Cq Cr rfl rfl L4.out (by rw [HCr.out.1, HCq.out.1]) HIq.out HCq.out.2 ?_; intro w5 hr5 ho5; have B5 := Lib.hid (ho5.below B4.out hzl.out); have R5 := Lib.hid (R4.out.only ho5 (by have := hgl.out; omega)); have L5 := Lib.hid hr5; clear hr5 ho5 tokC)
        | (refine wpList_load_g (wanted_un rfl) 23 _ rfl w2.heap.size 0 rfl Cq _ (rangeOf L5.out) Tryz.underlying23 rfl HIq.out ?_)
        | (refine wpList_store_at rfl 23 _ _ rfl g _ [.pointer (some ⟨dg, 0, none⟩), .bool r.asks, .string ⟨r.method.toArray⟩, .int .i64 r.w] C0 Cq [F, .slice none 0 0, .int .i64 r.kind, .int .i64 r.left, .int .i64 r.fault] rfl rfl (by have h := R5.out; rw [← HV.out, rdV_split, HE.out.2.2.2.2.2.2] at h; exact h) (by rw [HC0.out, HCq.out.1]) HIq.out HCq.out.2 ?_; intro w7 hr7 ho7; have R7 := Lib.hid hr7; have O7 := Lib.hid ho7; have c3 := hr7.cell (j := 3) rfl; have f3 := hr7.frozen (j := 3) (by simp); clear hr7 ho7))
      go_ret2
      refine ⟨by rw [HT.out, HE.out.2.1, HE.out.2.2.2.1]; rfl, ?_, ?_⟩
      · have h := R7.out.set_ (j := 3) (by simp) (.int .i64 1)
        have e : rdV dg (lineRd r l) F = (([.pointer (some ⟨dg, 0, none⟩), .bool r.asks, .string ⟨r.method.toArray⟩, .int .i64 r.w] : List Value) ++ (Cq ++ [F, .slice none 0 0, .int .i64 r.kind, .int .i64 r.left, .int .i64 r.fault])).set 3 (.int .i64 1) := by
          unfold lineRd
          rw [HT.out, if_pos (HE.out.2.1), ← HE.out.2.2.2.2.2.1]
          rfl
        rw [e]
        exact h
      · exact ((below_save B5.out).only O7.out).setCell 3 _
    · have e0 : (eq == 0) = false := by rw [beq_eq_false_iff_ne]; exact hz
      have hne0 := hz
      clear hz
      go_enter Tryz.func118, Tryz.ntmps118
      go_wp2_with (first
        | (go_at_call 136; (with_reducible refine RS.out.mono ?_); rintro x2 w2 ⟨rfl, hb2⟩; have B2 := Lib.hid hb2; have R2 := Lib.hid (R1.out.below hb2 R1.out.lt); have tokA : True := trivial; clear hb2 RS)
        | (have _t := tokA; refine wpList_store_row rfl 23 _ _ rfl w2.heap.size _ Cr [.string ⟨#[]⟩, .string ⟨#[]⟩, .int .i64 0, .string ⟨#[]⟩, .int .i64 0] rfl rfl (RowAt.new w2 23 _) (by rw [HCr.out.1]; rfl) HIr.out HCr.out.2 ?_; intro w3 hr3 ho3; have hb3 := ho3.below ((Below.refl w2.heap.size w2).alloc (Nat.le_refl _) _) (Nat.le_refl _); have B3 := Lib.hid (below_step B2.out hb3); have R3 := Lib.hid (R2.out.below hb3 R2.out.lt); have L3 := Lib.hid hr3; have c1 := R3.out.cell (j := 1) HH1.out; have hgl := Lib.hid R2.out.lt; have hzl := Lib.hid B2.out.size; clear hr3 ho3 hb3 tokA; have tokB : True := trivial)
        | (go_at_call 137; (with_reducible refine (RQ.out _ B3.out).mono ?_); rintro x4 w4 ⟨rfl, hb4⟩; have B4 := Lib.hid (below_step B3.out hb4); have R4 := Lib.hid (R3.out.below hb4 R3.out.lt); have L4 := Lib.hid (L3.out.below hb4 L3.out.lt); clear hb4 RQ tokB c1; have tokC : True := trivial)
        | (have _t := tokC; refine wpList_store_row rfl 23 _ _ rfl w2.heap.size _ Cq Cr rfl rfl L4.out (by rw [HCr.out.1, HCq.out.1]) HIq.out HCq.out.2 ?_; intro w5 hr5 ho5; have B5 := Lib.hid (ho5.below B4.out hzl.out); have R5 := Lib.hid (R4.out.only ho5 (by have := hgl.out; omega)); have L5 := Lib.hid hr5; clear hr5 ho5 tokC))
      go_ret2
      refine ⟨by rw [HT.out, HE.out.2.1, HE.out.2.2.2.1]; rfl, ?_, below_save B5.out⟩
      have e : lineRd r l = r := by unfold lineRd; rw [HT.out, if_neg (by rw [HE.out.2.1]; exact hne0)]
      rw [e, HV.out]
      exact R5.out
end Go.Proofs.YtniiadhhefgmcaaGreatDoor

/- Layer 8: a reader takes the header, by the code. Condition: the world's shape, at most 10^8 octets. Printed by mkrea3.py. -/
namespace IH
theorem pF_len : ∀ (k N a : Nat) (rest : List UInt8) (out : List Fld), out.length ≤ 128 → (parseF k N a rest out).1.length ≤ 128 := by
  intro k
  induction k with
  | zero => intro N a rest out _; unfold parseF; simp
  | succ k ih =>
    intro N a rest out h
    unfold parseF
    split
    · simp
    · split
      · exact h
      · split
        · simp
        · split
          · simp
          · rename_i hne
            exact ih _ _ _ _ (by simp; omega)
theorem sizeL_one (out : List Fld) (f : Fld) : sizeL (out ++ [f]) = sizeL out + (f.1.length + f.2.length + 4) := by
  unfold sizeL
  simp only [List.map_append, List.map_cons, List.map_nil, List.sum_append, List.sum_cons, List.sum_nil]
  omega
theorem headF_size {s : List UInt8} {f : Fld} (h : headF s = some f) : f.1.length + f.2.length + 1 ≤ s.length := by
  unfold headF at h
  split at h
  · rename_i h58
    simp only at h
    split at h
    · simp only [Option.some.injEq] at h
      subst h
      obtain ⟨a, b, rfl, ha⟩ := List.eq_append_cons_of_mem h58
      have h1 := trim_length (((a ++ 58 :: b).dropWhile (· != 58)).drop 1)
      have h2 : (a ++ 58 :: b).takeWhile (· != 58) ++ (a ++ 58 :: b).dropWhile (· != 58) = a ++ 58 :: b := List.takeWhile_append_dropWhile
      have h3 := congrArg List.length h2
      have h4 : (a ++ 58 :: b).dropWhile (· != 58) ≠ [] := by
        intro h
        rw [h, List.append_nil] at h2
        have h5 := List.all_takeWhile (p := (· != (58 : UInt8))) (l := a ++ 58 :: b)
        rw [h2, List.all_eq_true] at h5
        have h6 := h5 58 (by simp)
        simp at h6
      have h5 := List.length_pos_iff.2 h4
      rw [List.length_append] at h3
      rw [List.length_drop] at h1
      simp only
      omega
    · cases h
  · cases h
theorem pF_size : ∀ (k N a : Nat) (rest : List UInt8) (out : List Fld), sizeL (parseF k N a rest out).1 ≤ sizeL out + 2 * rest.length := by
  intro k
  induction k with
  | zero => intro N a rest out; unfold parseF; simp [sizeL]; omega
  | succ k ih =>
    intro N a rest out
    unfold parseF
    cases hs : lineF N a rest with
    | mk s e =>
      cases s with
      | none => simp [sizeL]; omega
      | some s =>
        have hle := lineF_le hs
        simp only
        split
        · simp only; omega
        · cases hf : headF s with
          | none => simp [sizeL]; omega
          | some f =>
            simp only
            split
            · simp [sizeL]; omega
            · have h1 := ih N (a + s.length + 2) (rest.drop (s.length + 2)) (out ++ [f])
              have h2 := headF_size hf
              rw [sizeL_one, List.length_drop] at h1
              omega
theorem parse_size (l : List UInt8) : sizeL (parseFs l).1 ≤ 2 * l.length + 2 := by
  have := pF_size (l.length + 1) l.length 0 l []
  have h0 : sizeL [] = 2 := rfl
  rw [h0] at this
  unfold parseFs
  omega
theorem parse_len (l : List UInt8) : (parseFs l).1.length ≤ 128 := pF_len _ _ _ _ _ (by simp)
theorem mem_size {L : List Fld} {f : Fld} (h : f ∈ L) : f.1.length + f.2.length ≤ sizeL L := by
  induction L with
  | nil => cases h
  | cons g L ih =>
    unfold sizeL at *
    simp only [List.map_cons, List.sum_cons]
    rcases List.mem_cons.1 h with rfl | h
    · omega
    · have := ih h; omega
theorem framing_bad {s : Sta} {L : List Fld} {m : List UInt8} (h : (framingL s L m).2.2 ≠ 0) : (framingL s L m).1 = 0 ∧ (framingL s L m).2.1 = 0 := by
  unfold framingL at h ⊢
  split
  · exact ⟨rfl, rfl⟩
  · rename_i h1
    rw [if_neg h1] at h
    split
    · rename_i h2
      rw [if_pos h2] at h
      split
      · exact ⟨rfl, rfl⟩
      · rename_i h3; rw [if_neg h3] at h; exact absurd rfl h
    · rename_i h2
      rw [if_neg h2] at h
      split
      · rename_i h3
        rw [if_pos h3] at h
        split
        · exact ⟨rfl, rfl⟩
        · rename_i x l hq
          rw [hq] at h
          simp only at h
          split
          · exact ⟨rfl, rfl⟩
          · rename_i h4
            rw [if_neg h4] at h
            split
            · exact ⟨rfl, rfl⟩
            · rename_i h5; rw [if_neg h5] at h; exact absurd rfl h
      · rename_i h3
        split <;> exact ⟨rfl, rfl⟩
end IH
namespace Go.Proofs.YtniiadhhefgmcaaGreatDoor
open Go.RowKit IH
set_option maxRecDepth 100000
theorem parse_fldB (l : List UInt8) (hl : l.length ≤ 100000000) : FldB (parseFs l).1 (parseFs l).1.length :=
  ⟨by have := parse_len l; omega, fun f hf => by have h1 := mem_size hf; have h2 := parse_size l; exact ⟨by omega, by omega⟩, by have h2 := parse_size l; omega⟩
/-- The block of a slice has elements of a type. -/
def TyAt (e : TypeId) (w : World) (A : Option Addr) : Prop := ∀ b o, A = some ⟨b, o, none⟩ → ∃ cur fz, w.heap[b]? = some (Obj.cells cur e fz)
theorem TyAt.below {e : TypeId} {w w' : World} {A : Option Addr} (h : TyAt e w A) (hb : Below w.heap.size w w') : TyAt e w' A := fun b o hA => by
  obtain ⟨cur, fz, hh⟩ := h b o hA
  exact ⟨cur, fz, (hb.block b (Array.getElem?_eq_some_iff.1 hh).1).trans hh⟩
theorem TyAt.onlyNe {e : TypeId} {g : Nat} {w w' : World} {A : Option Addr} (h : TyAt e w A) (x : Only g w w') (hne : ∀ b o, A = some ⟨b, o, none⟩ → b ≠ g) : TyAt e w' A := fun b o hA => by
  obtain ⟨cur, fz, hh⟩ := h b o hA
  exact ⟨cur, fz, (x.block b (hne b o hA)).trans hh⟩
theorem TyAt.save2 {e : TypeId} {g d : Nat} {w w' : World} {A : Option Addr} (h : TyAt e w A) (x : Save2 w.heap.size g d w w') (hne : ∀ b o, A = some ⟨b, o, none⟩ → b ≠ g ∧ b ≠ d) : TyAt e w' A := fun b o hA => by
  obtain ⟨cur, fz, hh⟩ := h b o hA
  obtain ⟨h1, h2⟩ := hne b o hA
  exact ⟨cur, fz, (x.block b (Array.getElem?_eq_some_iff.1 hh).1 h1 h2).trans hh⟩
theorem own_sliceB {w : World} {base : Nat} {e : TypeId} {size n : Nat} {v : Value} {xs : List Value} (h : w.ownsRow base e size v n xs) :
    ∃ A c, v = .slice A n c ∧ SliceIn w w.heap.size size A n c xs ∧ (∀ b o, A = some ⟨b, o, none⟩ → base ≤ b ∧ b < w.heap.size) ∧ TyAt e w A := by
  rcases h.2 with ⟨h2, h3⟩ | ⟨g, cap, cur, hv, r⟩
  · subst h2 h3
    exact ⟨none, 0, rfl, SliceIn.of_own h, (fun b o e => by cases e), (fun b o e => by cases e)⟩
  · subst hv
    refine ⟨_, _, rfl, SliceIn.of_own h, fun b o e => ?_, fun b o e => ?_⟩
    · simp only [Option.some.injEq, Addr.mk.injEq, and_true] at e
      obtain ⟨rfl, rfl⟩ := e
      exact h.lt g rfl
    · simp only [Option.some.injEq, Addr.mk.injEq, and_true] at e
      obtain ⟨rfl, rfl⟩ := e
      exact ⟨cur, _, r.2.1⟩
theorem SliceIn.onlyNe {B g size n c : Nat} {A : Option Addr} {xs : List Value} {w w' : World} (hs : SliceIn w B size A n c xs) (x : Only g w w') (hne : ∀ b o, A = some ⟨b, o, none⟩ → b ≠ g) : SliceIn w' B size A n c xs :=
  ⟨hs.1, hs.2.1, hs.2.2.1, fun hn => by
    obtain ⟨b, o, e, hb, hc⟩ := hs.2.2.2 hn
    exact ⟨b, o, e, hb, fun j u hu => (World.cell?_of_block (x.block b (hne b o e))).trans (hc j u hu)⟩⟩
def fieldsE (r : Rd) (l : List UInt8) : Int := if (parseFs l).2.2 ≠ 0 then (parseFs l).2.2 else (framingL r.start (parseFs l).1 r.method).2.2
def fieldsN (r : Rd) (l : List UInt8) : Int := if fieldsE r l = 0 then (parseFs l).2.1 else 0
/-- A reader that took a header, or what it found of it. -/
def fieldsRd (r : Rd) (l : List UInt8) : Rd :=
  if (parseFs l).2.2 ≠ 0 then r
  else if (framingL r.start (parseFs l).1 r.method).2.2 ≠ 0 then { r with fields := (parseFs l).1, kind := 0, left := 0 }
  else { r with fields := (parseFs l).1, kind := (framingL r.start (parseFs l).1 r.method).1, left := (framingL r.start (parseFs l).1 r.method).2.1, w := if (framingL r.start (parseFs l).1 r.method).1 ≠ 2 ∧ (framingL r.start (parseFs l).1 r.method).2.1 = 0 then 3 else 2 }
set_option maxHeartbeats 32000000 in
theorem rdfields_any (g dg : Nat) (r : Rd) (F : Value) (b0 off m k : Nat) (l : List UInt8) (w : World) (hsh : w.ShapedOpen Tryz.prog) (hr : RowAt w g 122 (rdV dg r F)) (hin : SliceIn w w.heap.size 1 (some ⟨b0, off, none⟩) m k (bytesV l)) (hm : m ≤ 100000000) (hrl : r.method.length ≤ maxLen) :
    Calls Tryz.prog 119 #[.pointer (some ⟨g, 0, none⟩), .slice (some ⟨b0, off, none⟩) m k] w fun e w' => e = .returned (.tuple #[.int .i64 (fieldsN r l), .int .i64 (fieldsE r l)]) ∧ Save w.heap.size g w w' ∧
      (((parseFs l).2.2 ≠ 0 ∧ RowAt w' g 122 (rdV dg r F)) ∨ ((parseFs l).2.2 = 0 ∧ ∃ A n c, RowAt w' g 122 (rdV dg (fieldsRd r l) (.slice A n c)) ∧ SliceIn w' w'.heap.size 2 A n c (fldsV (parseFs l).1) ∧ (∀ b o, A = some ⟨b, o, none⟩ → w.heap.size ≤ b) ∧ TyAt 74 w' A)) := by
  have _u := hrl
  have hll : l.length = m := by have := hin.1; rw [bytesV_length] at this; omega
  have PA := fparse_any b0 off m k l w hsh hin (by omega)
  have hB := parse_fldB l (by omega)
  obtain ⟨U, hU⟩ : ∃ U, parseFs l = U := ⟨_, rfl⟩
  rw [hU] at PA hB ⊢
  have HU := Lib.hid hU
  obtain ⟨L, np, ep⟩ := U
  simp only at PA hB ⊢
  obtain ⟨nL, hnL⟩ : ∃ n, L.length = n := ⟨_, rfl⟩
  rw [hnL] at PA hB
  have R1 := Lib.hid hr
  have HL := Lib.hid hr.lt
  replace PA := Lib.hid PA
  clear hsh hin hr hll hU hnL
  by_cases hep : ep ≠ 0
  · have neb : (ep != 0) = true := by rw [bne_iff_ne]; exact hep
    have HE : Hid (fieldsE r l = ep) := Lib.hid (by unfold fieldsE; rw [HU.out]; simp only; rw [if_pos hep])
    have HN : Hid (fieldsN r l = 0) := Lib.hid (by unfold fieldsN; rw [HE.out, if_neg hep])
    have HP := Lib.hid hep
    clear hB hep
    go_enter Tryz.func119, Tryz.ntmps119
    go_wp2_with (go_at_call 138; (with_reducible refine PA.out.mono ?_); rintro x2 w2 ⟨v, rfl, ho, hb2⟩; obtain ⟨A2, c2, rfl, _, _, _⟩ := own_sliceB ho; have B2 := Lib.hid hb2; clear hb2 ho)
    go_ret2
    exact ⟨by rw [HE.out, HN.out]; rfl, below_save B2.out, .inl ⟨HP.out, R1.out.below B2.out HL.out⟩⟩
  · obtain rfl : ep = 0 := by omega
    have neb : ((0 : Int) != 0) = false := rfl
    obtain ⟨M, hM⟩ : ∃ M : ByteArray, (⟨r.method.toArray⟩ : ByteArray) = M := ⟨_, rfl⟩
    have dM : M.data.toList = r.method := by rw [← hM]
    have MF := fun (W : World) (A : Option Addr) (c : Nat) (h : SliceIn W W.heap.size 2 A nL c (fldsV L)) => mframing_any r.start A nL c L (.slice none 0 0) M W h hB
    rw [dM] at MF
    obtain ⟨f1, f2, f3, hf⟩ : ∃ a b c, framingL r.start L r.method = (a, b, c) := ⟨_, _, _, rfl⟩
    rw [hf] at MF
    simp only at MF
    have hE : fieldsE r l = f3 := by unfold fieldsE; rw [HU.out]; simp only; rw [if_neg (by simp), hf]
    have hN : fieldsN r l = if f3 = 0 then np else 0 := by unfold fieldsN; rw [hE, HU.out]
    have hFR : fieldsRd r l = if f3 ≠ 0 then { r with fields := L, kind := 0, left := 0 } else { r with fields := L, kind := f1, left := f2, w := if f1 ≠ 2 ∧ f2 = 0 then 3 else 2 } := by
      unfold fieldsRd; rw [HU.out]; simp only; rw [if_neg (by simp), hf]
    have hbad : f3 ≠ 0 → f1 = 0 ∧ f2 = 0 := fun h => by have := framing_bad (s := r.start) (L := L) (m := r.method) (by rw [hf]; exact h); rw [hf] at this; exact this
    have HFR := Lib.hid hFR
    have HEq := Lib.hid hE
    have HNq := Lib.hid hN
    have HBD := Lib.hid hbad
    unfold msgC staC at MF
    obtain ⟨Sm, hSm⟩ : ∃ S : ByteArray, (⟨r.start.method.toArray⟩ : ByteArray) = S := ⟨_, rfl⟩
    obtain ⟨St, hSt⟩ : ∃ S : ByteArray, (⟨r.start.target.toArray⟩ : ByteArray) = S := ⟨_, rfl⟩
    obtain ⟨Sr, hSr⟩ : ∃ S : ByteArray, (⟨r.start.reason.toArray⟩ : ByteArray) = S := ⟨_, rfl⟩
    obtain ⟨ss, hss⟩ : ∃ x, r.start.status = x := ⟨_, rfl⟩
    obtain ⟨mi, hmi⟩ : ∃ x, r.start.minor = x := ⟨_, rfl⟩
    rw [hSm, hSt, hSr, hss, hmi] at MF
    simp only [List.cons_append, List.nil_append] at MF
    obtain ⟨as_, has⟩ : ∃ x, r.asks = x := ⟨_, rfl⟩
    obtain ⟨wh, hwh⟩ : ∃ x, r.w = x := ⟨_, rfl⟩
    obtain ⟨k0, hk0⟩ : ∃ x, r.kind = x := ⟨_, rfl⟩
    obtain ⟨l0, hl0⟩ : ∃ x, r.left = x := ⟨_, rfl⟩
    obtain ⟨fl, hfl⟩ : ∃ x, r.fault = x := ⟨_, rfl⟩
    have HV : Hid (∀ (F' : Value) (L' : List Fld) (x y z : Int), rdV dg { r with fields := L', kind := x, left := y, w := z } F' = [.pointer (some ⟨dg, 0, none⟩), .bool as_, .string M, .int .i64 z, .string Sm, .string St, .int .i64 ss, .string Sr, .int .i64 mi, F', .slice none 0 0, .int .i64 x, .int .i64 y, .int .i64 fl]) := Lib.hid (fun F' L' x y z => by
      rw [← hSm, ← hSt, ← hSr, ← hss, ← hmi, ← hM, ← has, ← hfl]; rfl)
    have hR9 : RowAt w g 122 [.pointer (some ⟨dg, 0, none⟩), .bool as_, .string M, .int .i64 wh, .string Sm, .string St, .int .i64 ss, .string Sr, .int .i64 mi, F, .slice none 0 0, .int .i64 k0, .int .i64 l0, .int .i64 fl] := by
      have h := R1.out
      have e : rdV dg r F = [.pointer (some ⟨dg, 0, none⟩), .bool as_, .string M, .int .i64 wh, .string Sm, .string St, .int .i64 ss, .string Sr, .int .i64 mi, F, .slice none 0 0, .int .i64 k0, .int .i64 l0, .int .i64 fl] := by
        rw [← hSm, ← hSt, ← hSr, ← hss, ← hmi, ← hM, ← has, ← hfl, ← hwh, ← hk0, ← hl0]; rfl
      rw [e] at h
      exact h
    replace R1 := Lib.hid hR9
    have HWH := Lib.hid hwh
    replace MF := Lib.hid MF
    clear hB hep hM dM hf hE hN hFR hbad hSm hSt hSr hss hmi has hwh hk0 hl0 hfl hR9
    go_enter Tryz.func119, Tryz.ntmps119
    go_upto_region 5 with (go_at_call 138; (with_reducible refine PA.out.mono ?_); rintro x2 w2 ⟨v, rfl, ho, hb2⟩; obtain ⟨A2, c2, rfl, hs2, hbd2, hty2⟩ := own_sliceB ho; have T2 := Lib.hid hty2; have R2 := R1.out.below hb2 HL.out; have e9 := R2.cell (j := 9) rfl; have q9 := R2.frozen (j := 9) (by simp); have SV2 := Lib.hid (below_save (g := g) hb2); have S2 := Lib.hid hs2; have BD := Lib.hid hbd2; have R2 := Lib.hid R2; clear hb2 ho hs2 hbd2 hty2)
    obtain ⟨w3, hw3⟩ : ∃ W, w2.setCell ⟨g, 9, none⟩ (.slice A2 nL c2) = W := ⟨_, rfl⟩
    rw [hw3]
    have NE : Hid (∀ b o, A2 = some ⟨b, o, none⟩ → b ≠ g) := Lib.hid (fun b o h => by have h1 := (BD.out b o h).1; have h2 := HL.out; omega)
    have R3 : Hid (RowAt w3 g 122 [.pointer (some ⟨dg, 0, none⟩), .bool as_, .string M, .int .i64 wh, .string Sm, .string St, .int .i64 ss, .string Sr, .int .i64 mi, .slice A2 nL c2, .slice none 0 0, .int .i64 k0, .int .i64 l0, .int .i64 fl]) := Lib.hid (by rw [← hw3]; exact R2.out.set_ (j := 9) (by simp) _)
    have SV3 : Hid (Save w.heap.size g w w3) := Lib.hid (by rw [← hw3]; exact SV2.out.setCell 9 _)
    have S3 : Hid (SliceIn w3 w3.heap.size 2 A2 nL c2 (fldsV L)) := Lib.hid (by rw [← hw3]; have h := S2.out.onlyNe (Only.setCell g 9 w2 (.slice A2 nL c2)) NE.out; simpa using h)
    have T3 : Hid (TyAt 74 w3 A2) := Lib.hid (by rw [← hw3]; exact T2.out.onlyNe (Only.setCell g 9 w2 (.slice A2 nL c2)) NE.out)
    clear e9 q9 hw3 R2 SV2 S2 T2
    refine wp_region_plan (fun W => (∃ x y, RowAt W g 122 [.pointer (some ⟨dg, 0, none⟩), .bool as_, .string M, .int .i64 wh, .string Sm, .string St, .int .i64 ss, .string Sr, .int .i64 mi, .slice A2 nL c2, .slice none 0 0, .int .i64 x, .int .i64 y, .int .i64 fl]) ∧ Save w.heap.size g w W ∧ SliceIn W W.heap.size 2 A2 nL c2 (fldsV L) ∧ TyAt 74 W A2) [(0, true), (1, true), (2, true), (3, true), (4, true), (5, true), (6, true), (7, true), (8, true), (9, true), (10, false), (11, true), (12, true), (13, true), (14, true), (15, true), (16, true), (17, false), (18, true), (19, true), (20, false), (21, true)] (by kernel_rfl) (by kernel_rfl) rfl (by kernel_rfl) (⟨⟨_, _, R3.out.drewN 1⟩, SV3.out.drewN 1, S3.out, T3.out⟩) ?_
    intro w1 hH
    iterate 10
      refine plan_take (v := ?_) rfl (by rfl) ?_ ?_
      rotate_left
      · intro w2 hSw
        obtain ⟨x1, x2, h1⟩ := hSw.1
        have d2 := h1.cell (j := 2) rfl
        have d4 := h1.cell (j := 4) rfl
        have d5 := h1.cell (j := 5) rfl
        have d6 := h1.cell (j := 6) rfl
        have d7 := h1.cell (j := 7) rfl
        have d8 := h1.cell (j := 8) rfl
        have d9 := h1.cell (j := 9) rfl
        have d10 := h1.cell (j := 10) rfl
        clear h1
        clear hSw
        go_simp
        try with_reducible rfl
      try simp only [Act.put, List.setIfInBounds_toArray, List.set_cons_zero, List.set_cons_succ]
    refine plan_move rfl (by rfl) (fun K hK => ?_)
    go_simp
    (with_reducible refine (MF.out _ _ _ hH.out.2.2.1).mono ?_)
    rintro e w5 ⟨rfl, hb5⟩
    refine hK.out _ _ (⟨by obtain ⟨x1, x2, h1⟩ := hH.out.1; exact ⟨x1, x2, h1.below hb5 h1.lt⟩, hH.out.2.1.step hb5 hH.out.2.1.size, (hH.out.2.2.1.below hb5).more hb5.size, hH.out.2.2.2.below hb5⟩) ?_
    clear hH hK hb5 K
    intro hH
    try simp only [Act.put, List.setIfInBounds_toArray, List.set_cons_zero, List.set_cons_succ]
    iterate 6
      refine plan_take (v := ?_) rfl (by rfl) ?_ ?_
      rotate_left
      · intro w2 hSw
        obtain ⟨x1, x2, h1⟩ := hSw.1
        have d2 := h1.cell (j := 2) rfl
        have d4 := h1.cell (j := 4) rfl
        have d5 := h1.cell (j := 5) rfl
        have d6 := h1.cell (j := 6) rfl
        have d7 := h1.cell (j := 7) rfl
        have d8 := h1.cell (j := 8) rfl
        have d9 := h1.cell (j := 9) rfl
        have d10 := h1.cell (j := 10) rfl
        clear h1
        clear hSw
        go_simp
        try with_reducible rfl
      try simp only [Act.put, List.setIfInBounds_toArray, List.set_cons_zero, List.set_cons_succ]
    refine plan_move rfl (by rfl) (fun K hK => ?_)
    obtain ⟨⟨x1, x2, h1⟩, h3, h4, h5⟩ := hH.out
    have f3a := h1.frozen (j := 11) (by simp)
    have q3 := h1.cell (j := 11) rfl
    go_simp
    refine hK.out _ _ (⟨⟨_, _, h1.set_ (j := 11) (by simp) _⟩, h3.setCell 11 _, by have h := h4.onlyNe (Only.setCell g 11 _ (.int .i64 f1)) NE.out; simpa using h, h5.onlyNe (Only.setCell g 11 _ (.int .i64 f1)) NE.out⟩) ?_
    have h2a : Hid (RowAt _ g 122 [.pointer (some ⟨dg, 0, none⟩), .bool as_, .string M, .int .i64 wh, .string Sm, .string St, .int .i64 ss, .string Sr, .int .i64 mi, .slice A2 nL c2, .slice none 0 0, .int .i64 f1, .int .i64 x2, .int .i64 fl]) := Lib.hid (h1.set_ (j := 11) (by simp) (.int .i64 f1))
    clear hH hK K f3a q3 h1 h3 h4 h5
    intro hH
    try simp only [Act.put]
    iterate 2
      refine plan_take (v := ?_) rfl (by rfl) ?_ ?_
      rotate_left
      · intro w2 hSw
        obtain ⟨x1, x2, h1⟩ := hSw.1
        have d2 := h1.cell (j := 2) rfl
        have d4 := h1.cell (j := 4) rfl
        have d5 := h1.cell (j := 5) rfl
        have d6 := h1.cell (j := 6) rfl
        have d7 := h1.cell (j := 7) rfl
        have d8 := h1.cell (j := 8) rfl
        have d9 := h1.cell (j := 9) rfl
        have d10 := h1.cell (j := 10) rfl
        clear h1
        clear hSw
        go_simp
        try with_reducible rfl
      try simp only [Act.put, List.setIfInBounds_toArray, List.set_cons_zero, List.set_cons_succ]
    refine plan_move rfl (by rfl) (fun K hK => ?_)
    obtain ⟨_, h3, h4, h5⟩ := hH.out
    have f3a := h2a.out.frozen (j := 12) (by simp)
    have q3 := h2a.out.cell (j := 12) rfl
    go_simp
    refine hK.out _ _ (⟨⟨_, _, h2a.out.set_ (j := 12) (by simp) _⟩, h3.setCell 12 _, by have h := h4.onlyNe (Only.setCell g 12 _ (.int .i64 f2)) NE.out; simpa using h, h5.onlyNe (Only.setCell g 12 _ (.int .i64 f2)) NE.out⟩) ?_
    have h2b : RowAt _ g 122 [.pointer (some ⟨dg, 0, none⟩), .bool as_, .string M, .int .i64 wh, .string Sm, .string St, .int .i64 ss, .string Sr, .int .i64 mi, .slice A2 nL c2, .slice none 0 0, .int .i64 f1, .int .i64 f2, .int .i64 fl] := h2a.out.set_ (j := 12) (by simp) (.int .i64 f2)
    clear hH hK K f3a q3 h2a h3 h4 h5
    intro hH
    try simp only [Act.put]
    iterate 1
      refine plan_take (v := ?_) rfl (by rfl) ?_ ?_
      rotate_left
      · intro w2 hSw
        obtain ⟨x1, x2, h1⟩ := hSw.1
        have d2 := h1.cell (j := 2) rfl
        have d4 := h1.cell (j := 4) rfl
        have d5 := h1.cell (j := 5) rfl
        have d6 := h1.cell (j := 6) rfl
        have d7 := h1.cell (j := 7) rfl
        have d8 := h1.cell (j := 8) rfl
        have d9 := h1.cell (j := 9) rfl
        have d10 := h1.cell (j := 10) rfl
        clear h1
        clear hSw
        go_simp
        try with_reducible rfl
      try simp only [Act.put, List.setIfInBounds_toArray, List.set_cons_zero, List.set_cons_succ]
    refine plan_done ?_
    have SV5 := hH.out.2.1
    have S5 := hH.out.2.2.1
    have T5 := hH.out.2.2.2
    clear hH
    obtain ⟨w6, hw6⟩ : ∃ x, ((w5.setCell ⟨g, 11, none⟩ (.int .i64 f1)).setCell ⟨g, 12, none⟩ (.int .i64 f2)) = x := ⟨_, rfl⟩
    rw [hw6] at h2b SV5 S5 T5 ⊢
    have R6 := Lib.hid h2b
    have SV6 := Lib.hid SV5
    have S6 := Lib.hid S5
    have T6 := Lib.hid T5
    clear hw6 h2b SV5 S5 T5
    have BDq : Hid (∀ b o, A2 = some ⟨b, o, none⟩ → w.heap.size ≤ b) := Lib.hid (fun b o h => (BD.out b o h).1)
    by_cases h3 : f3 = 0
    · subst h3
      have n3 : ((0 : Int) != 0) = false := rfl
      have HN1 : Hid (fieldsN r l = np) := Lib.hid (by rw [HNq.out, if_pos rfl])
      clear HNq
      have d11 := R6.out.cell (j := 11) rfl
      have d12 := R6.out.cell (j := 12) rfl
      have d3 := R6.out.cell (j := 3) rfl
      have q3 := R6.out.frozen (j := 3) (by simp)
      obtain ⟨w7, hw7⟩ : ∃ x, w6.setCell ⟨g, 3, none⟩ (.int .i64 2) = x := ⟨_, rfl⟩
      have R7 : Hid (RowAt w7 g 122 [.pointer (some ⟨dg, 0, none⟩), .bool as_, .string M, .int .i64 2, .string Sm, .string St, .int .i64 ss, .string Sr, .int .i64 mi, .slice A2 nL c2, .slice none 0 0, .int .i64 f1, .int .i64 f2, .int .i64 fl]) := Lib.hid (by rw [← hw7]; exact R6.out.set_ (j := 3) (by simp) _)
      have SV7 : Hid (Save w.heap.size g w w7) := Lib.hid (by rw [← hw7]; exact SV6.out.setCell 3 _)
      have S7 : Hid (SliceIn w7 w7.heap.size 2 A2 nL c2 (fldsV L)) := Lib.hid (by rw [← hw7]; have h := S6.out.onlyNe (Only.setCell g 3 w6 (.int .i64 2)) NE.out; simpa using h)
      have T7 : Hid (TyAt 74 w7 A2) := Lib.hid (by rw [← hw7]; exact T6.out.onlyNe (Only.setCell g 3 w6 (.int .i64 2)) NE.out)
      have e11 := R7.out.cell (j := 11) rfl
      have e12 := R7.out.cell (j := 12) rfl
      have e3 := R7.out.cell (j := 3) rfl
      have p3 := R7.out.frozen (j := 3) (by simp)
      by_cases h2 : f1 = 2
      · have k2 : (f1 == 2) = true := by rw [beq_iff_eq]; exact h2
        have k3 : (f1 != 2) = false := by rw [bne, k2]; rfl
        have HF2 : Hid (fieldsRd r l = { r with fields := L, kind := f1, left := f2, w := 2 }) := Lib.hid (by rw [HFR.out, if_neg (by simp), if_neg (fun h => h.1 h2)])
        clear h2
        go_wp2_with fail
        go_ret2
        exact ⟨by rw [HEq.out, HN1.out]; rfl, SV7.out, .inr ⟨trivial, A2, nL, c2, by rw [HF2.out, HV.out]; exact R7.out, S7.out, BDq.out, T7.out⟩⟩
      · have k2 : (f1 == 2) = false := by rw [beq_eq_false_iff_ne]; exact h2
        have k3 : (f1 != 2) = true := by rw [bne, k2]; rfl
        by_cases h0 : f2 = 0
        · have j0 : (f2 == 0) = true := by rw [beq_iff_eq]; exact h0
          have HF2 : Hid (fieldsRd r l = { r with fields := L, kind := f1, left := f2, w := 3 }) := Lib.hid (by rw [HFR.out, if_neg (by simp), if_pos ⟨h2, h0⟩])
          clear h2 h0
          go_wp2_with fail
          go_ret2
          refine ⟨by rw [HEq.out, HN1.out]; rfl, SV7.out.setCell 3 _, .inr ⟨trivial, A2, nL, c2, ?_, ?_, BDq.out, T7.out.onlyNe (Only.setCell g 3 w7 (.int .i64 3)) NE.out⟩⟩
          · rw [HF2.out, HV.out]
            exact R7.out.set_ (j := 3) (by simp) (.int .i64 3)
          · have h := S7.out.onlyNe (Only.setCell g 3 w7 (.int .i64 3)) NE.out
            simpa using h
        · have j0 : (f2 == 0) = false := by rw [beq_eq_false_iff_ne]; exact h0
          have HF2 : Hid (fieldsRd r l = { r with fields := L, kind := f1, left := f2, w := 2 }) := Lib.hid (by rw [HFR.out, if_neg (by simp), if_neg (fun h => h0 h.2)])
          clear h2 h0
          go_wp2_with fail
          go_ret2
          exact ⟨by rw [HEq.out, HN1.out]; rfl, SV7.out, .inr ⟨trivial, A2, nL, c2, by rw [HF2.out, HV.out]; exact R7.out, S7.out, BDq.out, T7.out⟩⟩
    · have n3 : (f3 != 0) = true := by rw [bne_iff_ne]; exact h3
      obtain ⟨e1, e2⟩ := HBD.out h3
      have HF2 : Hid (fieldsRd r l = { r with fields := L, kind := f1, left := f2, w := wh }) := Lib.hid (by rw [HFR.out, if_pos h3, e1, e2, ← HWH.out])
      have HN0 : Hid (fieldsN r l = 0) := Lib.hid (by rw [HNq.out, if_neg h3])
      clear h3 e1 e2
      go_wp2_with fail
      go_ret2
      exact ⟨by rw [HEq.out, HN0.out]; rfl, SV6.out, .inr ⟨trivial, A2, nL, c2, by rw [HF2.out, HV.out]; exact R6.out, S6.out, BDq.out, T6.out⟩⟩
end Go.Proofs.YtniiadhhefgmcaaGreatDoor

/- Layer 8: a reader takes of a body, a reader's step, by the code. Condition: the world's shape, at most 10^8 octets. Printed by mkrea4.py. -/
namespace IH
/-- A reader's numbers within bounds. -/
structure RdIn (r : Rd) : Prop where
  dec : DecIn r.dec
  df : r.dec.fault = 0
  l0 : 0 ≤ r.left
  l1 : r.left ≤ 1048576
  m : r.method.length ≤ Go.maxLen
  w : r.w = 0 ∨ r.w = 1 ∨ r.w = 2 ∨ r.w = 3
theorem newR_in (asks : Bool) (M : List UInt8) (h : M.length ≤ Go.maxLen) : RdIn (Rd.new asks M) := ⟨new_in, rfl, by simp [Rd.new], by simp [Rd.new], h, .inl rfl⟩
theorem framing_most (s : Sta) (fs : List Fld) (m : List UInt8) : (framingL s fs m).2.1 ≤ 1048576 := by
  unfold framingL
  split
  · simp
  · split
    · split <;> simp
    · split
      · split
        · simp
        · rename_i x l _
          split
          · simp
          · split
            · simp
            · unfold numR
              split
              · simp
              · split
                · simp
                · split
                  · simp
                  · cases h : accN 10 1048576 0 x with
                    | none => simp [accR]
                    | some v => exact (accN_bound 10 (by omega) 1048576 0 v x h (by omega) (by omega)).2
      · split <;> simp
theorem stepM_in {r : Rd} (h : RdIn r) (b : List UInt8) (h0 : (stepM r b).2.2.1 = 0) : RdIn (stepM r b).2.2.2 := by
  obtain ⟨h1, h2, h3, h4, h5, h6⟩ := h
  unfold stepM at h0 ⊢
  split
  · rename_i hw
    rw [if_pos hw] at h0
    split
    · exact ⟨h1, h2, h3, h4, h5, h6⟩
    · rename_i h11
      rw [if_neg h11] at h0
      split
      · rename_i hn; rw [if_pos hn] at h0; exact absurd h0 hn
      · exact ⟨h1, h2, h3, h4, h5, .inr (.inl rfl)⟩
  · rename_i hw
    rw [if_neg hw] at h0
    split
    · rename_i hw1
      rw [if_pos hw1] at h0
      split
      · exact ⟨h1, h2, h3, h4, h5, h6⟩
      · rename_i h11
        rw [if_neg h11] at h0
        split
        · rename_i hn; rw [if_pos hn] at h0; exact absurd h0 hn
        · rename_i hn
          rw [if_neg hn] at h0
          simp only at h0 ⊢
          split
          · rename_i hf; rw [if_pos hf] at h0; exact absurd h0 hf
          · refine ⟨h1, h2, framing_left _ _ _, framing_most _ _ _, h5, ?_⟩
            simp only
            split
            · exact .inr (.inr (.inr rfl))
            · exact .inr (.inr (.inl rfl))
    · rename_i hw1
      rw [if_neg hw1] at h0
      split
      · rename_i hw2
        rw [if_pos hw2] at h0
        split
        · rename_i hk
          rw [if_pos hk] at h0
          simp only at h0 ⊢
          split
          · rename_i he; rw [if_pos he] at h0; exact absurd h0 he
          · rename_i he
            have he' : (run r.dec b).2.2.1 = 0 := by omega
            have hf := run_fault b.length r.dec b (Nat.le_refl _) h2
            refine ⟨run_in b.length r.dec b (Nat.le_refl _) h1 he', by rw [← he']; exact hf, h3, h4, h5, ?_⟩
            simp only
            split
            · exact .inr (.inr (.inr rfl))
            · exact .inr (.inr (.inl rfl))
        · simp only
          refine ⟨h1, h2, ?_, ?_, h5, ?_⟩
          · simp only; omega
          · simp only; omega
          · simp only
            split
            · exact .inr (.inr (.inr rfl))
            · exact .inr (.inr (.inl rfl))
      · exact ⟨h1, h2, h3, h4, h5, h6⟩
end IH
namespace Go.Proofs.YtniiadhhefgmcaaGreatDoor
open Go.RowKit IH
set_option maxRecDepth 100000
/-- A reader in memory: its own block, its decoder's, where its fields lie. -/
structure RdSt (W : World) (g dg : Nat) (r : Rd) (A : Option Addr) (n c : Nat) : Prop where
  row : RowAt W g 122 (rdV dg r (.slice A n c))
  dec : RowAt W dg 146 (decV r.dec)
  fl : SliceIn W W.heap.size 2 A n c (fldsV r.fields)
  ne : ∀ b o, A = some ⟨b, o, none⟩ → b ≠ g ∧ b ≠ dg
  gd : g ≠ dg
  ty : TyAt 74 W A
theorem RdSt.of_save {w w' : World} {g dg n c : Nat} {r r' : Rd} {A : Option Addr} (h : RdSt w g dg r A n c) (hs : Save w.heap.size g w w') (hr : RowAt w' g 122 (rdV dg r' (.slice A n c))) (hd : r'.dec = r.dec) (hf : r'.fields = r.fields) : RdSt w' g dg r' A n c :=
  ⟨hr, by rw [hd]; exact h.dec.save hs (Ne.symm h.gd) h.dec.lt, by rw [hf]; exact (h.fl.save2 (hs.left (h := dg)) h.ne).more hs.size, h.ne, h.gd, h.ty.save2 (hs.left (h := dg)) h.ne⟩
theorem RdSt.of_new {w w' : World} {g dg n c n' c' : Nat} {r r' : Rd} {A A' : Option Addr} (h : RdSt w g dg r A n c) (hs : Save w.heap.size g w w') (hr : RowAt w' g 122 (rdV dg r' (.slice A' n' c'))) (hd : r'.dec = r.dec) (hf : SliceIn w' w'.heap.size 2 A' n' c' (fldsV r'.fields)) (hA : ∀ b o, A' = some ⟨b, o, none⟩ → w.heap.size ≤ b) (hT : TyAt 74 w' A') : RdSt w' g dg r' A' n' c' :=
  ⟨hr, by rw [hd]; exact h.dec.save hs (Ne.symm h.gd) h.dec.lt, hf, fun b o e => by have h1 := hA b o e; have h2 := h.row.lt; have h3 := h.dec.lt; exact ⟨by omega, by omega⟩, h.gd, hT⟩
theorem RdSt.of_dec {w w' : World} {g dg n c : Nat} {r r' : Rd} {A : Option Addr} (h : RdSt w g dg r A n c) (hs : Save2 w.heap.size g dg w w') (hr : RowAt w' g 122 (rdV dg r' (.slice A n c))) (hd : RowAt w' dg 146 (decV r'.dec)) (hf : r'.fields = r.fields) : RdSt w' g dg r' A n c :=
  ⟨hr, hd, by rw [hf]; exact (h.fl.save2 hs h.ne).more hs.size, h.ne, h.gd, h.ty.save2 hs h.ne⟩
theorem RdSt.at_ {w w' : World} {g dg n c : Nat} {r : Rd} {A : Option Addr} (h : RdSt w g dg r A n c) (hb : Below w.heap.size w w') : RdSt w' g dg r A n c :=
  ⟨h.row.below hb h.row.lt, h.dec.below hb h.dec.lt, (h.fl.below hb).more hb.size, h.ne, h.gd, h.ty.below hb⟩
/-- What taking of a body leaves. -/
def bodyRd (r : Rd) (l : List UInt8) : Rd :=
  if r.kind = 2 then (if (run r.dec l).2.2.1 = 0 then { r with dec := (run r.dec l).2.2.2, w := if (run r.dec l).2.2.2.w = 4 then 3 else r.w } else { r with dec := (run r.dec l).2.2.2 })
  else { r with left := r.left - (min r.left.toNat l.length : Nat), w := if r.left - (min r.left.toNat l.length : Nat) = 0 then 3 else r.w }
def bodyOut (r : Rd) (l : List UInt8) : List UInt8 × Nat × Int := if r.kind = 2 then ((run r.dec l).1, (run r.dec l).2.1, (run r.dec l).2.2.1) else (l.take (min r.left.toNat l.length), min r.left.toNat l.length, 0)
theorem own_put' {w w2 : World} {g : Nat} {e : TypeId} {size n : Nat} {v : Value} {xs : List Value} (h : w2.ownsRow w.heap.size e size v n xs) (_hs : w.heap.size ≤ w2.heap.size) (hg : g < w.heap.size) {o : Nat} (u : Value) : (w2.setCell ⟨g, o, none⟩ u).ownsRow w.heap.size e size v n xs := by
  refine ⟨h.1, ?_⟩
  rcases h.2 with h2 | ⟨g', cap, cur, hv, hb, hh, r⟩
  · exact .inl h2
  · exact .inr ⟨g', cap, cur, hv, hb, (Below.heap_setCell w2 ⟨g, o, none⟩ u g' (by show g' ≠ g; omega)).trans hh, r⟩
theorem bytes_clone (b0 o n c : Nat) (l : List UInt8) (W : World) (h : SliceIn W W.heap.size 1 (some ⟨b0, o, none⟩) n c (bytesV l)) (hc : ∀ i, i < n → W.cell? ⟨b0, o + i, none⟩ = some (.int .u8 ((natsI l).getD i 0))) (hn : n ≤ 1000000000) :
    Calls Tryz.prog 86 #[.slice (some ⟨b0, o, none⟩) n c] W fun e w' => ∃ v, e = .returned v ∧ w'.ownsRow W.heap.size 5 1 v n (bytesV l) ∧ Below W.heap.size W w' := by
  have hl : l.length = n := by have := h.1; rw [bytesV_length] at this; omega
  have k := Tryz.bytes_Clone_at ⟨b0, o, none⟩ n c (natsI l) W (by unfold natsI; rw [List.length_map, hl]) (by omega) (fun i hi => by rw [add_plain]; exact hc i hi)
  refine k.mono ?_
  rintro e w' ⟨v, rfl, ho, _, hb⟩
  refine ⟨v, rfl, ?_, hb⟩
  have e : (natsI l).map (Value.int .u8) = bytesV l := by unfold natsI bytesV byteV; rw [List.map_map]; rfl
  rw [e] at ho
  exact ho
set_option maxHeartbeats 32000000 in
theorem rdbody_any (B g dg : Nat) (r : Rd) (A : Option Addr) (n c b0 off m k : Nat) (l : List UInt8) (w : World) (hB : B ≤ w.heap.size) (hdg : B ≤ dg) (hsh : ∀ W, Below B w W → W.ShapedOpen Tryz.prog) (hst : RdSt w g dg r A n c) (hri : RdIn r) (hin : SliceIn w w.heap.size 1 (some ⟨b0, off, none⟩) m k (bytesV l)) (hm : m ≤ 100000000) (hne : b0 ≠ g ∧ b0 ≠ dg) :
    Calls Tryz.prog 120 #[.pointer (some ⟨g, 0, none⟩), .slice (some ⟨b0, off, none⟩) m k] w fun e w' => ∃ v, e = .returned (.tuple #[v, .int .i64 (bodyOut r l).2.1, .int .i64 (bodyOut r l).2.2]) ∧ w'.ownsRow w.heap.size 5 1 v (bodyOut r l).1.length (bytesV (bodyOut r l).1) ∧ RdSt w' g dg (bodyRd r l) A n c ∧ Save2 w.heap.size g dg w w' := by
  have hll : l.length = m := by have := hin.1; rw [bytesV_length] at this; omega
  have HST := Lib.hid hst
  have d0 := hst.row.cell (j := 0) rfl
  have d11 := hst.row.cell (j := 11) rfl
  have d12 := hst.row.cell (j := 12) rfl
  have HG := Lib.hid hst.row.lt
  by_cases hk : r.kind = 2
  · have k0 : (r.kind == 2) = true := by rw [beq_iff_eq]; exact hk
    have FD := cfeed_any dg b0 off m k B r.dec l w hB hdg hsh hst.dec hri.dec hri.df hin hne.2 hm
    obtain ⟨x, nn, e, d, hT⟩ : ∃ a b c d, run r.dec l = (a, b, c, d) := ⟨_, _, _, _, rfl⟩
    rw [hT] at FD
    simp only at FD
    have hO : bodyOut r l = (x, nn, e) := by unfold bodyOut; rw [if_pos hk, hT]
    have hR : bodyRd r l = if e = 0 then { r with dec := d, w := if d.w = 4 then 3 else r.w } else { r with dec := d } := by unfold bodyRd; rw [if_pos hk, hT]
    rw [hO]
    simp only
    have HR := Lib.hid hR
    replace FD := Lib.hid FD
    clear hO hT hB hdg hsh hst hri hin hne hk
    by_cases h4 : e = 0 ∧ d.w = 4
    · rw [decide_eq_true h4] at FD
      have HR2 : Hid (bodyRd r l = { r with dec := d, w := 3 }) := Lib.hid (by rw [HR.out, if_pos h4.1, if_pos h4.2])
      replace FD := Lib.hid FD.out
      clear h4
      go_enter Tryz.func120, Tryz.ntmps120
      go_wp2_with (go_at_call 139; (with_reducible refine FD.out.mono ?_); rintro x2 w2 ⟨v, rfl, ho2, hr2, hs2⟩; have O2 := Lib.hid ho2; have D2 := Lib.hid hr2; have SV2 := Lib.hid hs2; have R2 := Lib.hid (HST.out.row.save hs2 HST.out.gd HG.out); have d3 := R2.out.cell (j := 3) rfl; have f3 := R2.out.frozen (j := 3) (by simp [rdV, staC]); clear ho2 hr2 hs2)
      go_ret3
      refine ⟨_, rfl, own_put' O2.out SV2.out.size HG.out _, ?_, ?_⟩
      · refine HST.out.of_dec (SV2.out.right.trans (Save.setCell (Save.refl _ _ _) 3 _).left) ?_ (by rw [HR2.out]; exact D2.out.far (Ne.symm HST.out.gd) _) (by rw [HR2.out])
        rw [HR2.out]
        exact R2.out.set_ (j := 3) (by simp [rdV, staC]) (.int .i64 3)
      · exact SV2.out.right.trans (Save.setCell (Save.refl _ _ _) 3 _).left
    · rw [decide_eq_false h4] at FD
      have HR2 : Hid (bodyRd r l = { r with dec := d }) := Lib.hid (by
        rw [HR.out]
        by_cases he : e = 0
        · rw [if_pos he, if_neg (fun h => h4 ⟨he, h⟩)]
        · rw [if_neg he])
      replace FD := Lib.hid FD.out
      clear h4
      go_enter Tryz.func120, Tryz.ntmps120
      go_wp2_with (go_at_call 139; (with_reducible refine FD.out.mono ?_); rintro x2 w2 ⟨v, rfl, ho2, hr2, hs2⟩; have O2 := Lib.hid ho2; have D2 := Lib.hid hr2; have SV2 := Lib.hid hs2; have R2 := Lib.hid (HST.out.row.save hs2 HST.out.gd HG.out); clear ho2 hr2 hs2)
      go_ret3
      exact ⟨_, rfl, O2.out, HST.out.of_dec SV2.out.right (by rw [HR2.out]; exact R2.out) (by rw [HR2.out]; exact D2.out) (by rw [HR2.out]), SV2.out.right⟩
  · have k0 : (r.kind == 2) = false := by rw [beq_eq_false_iff_ne]; exact hk
    have hl0 := hri.l0
    have hl1 := hri.l1
    obtain ⟨lf, hlf⟩ : ∃ x, r.left = x := ⟨_, rfl⟩
    rw [hlf] at d12 hl0 hl1
    obtain ⟨q, hq⟩ : ∃ q, min lf.toNat l.length = q := ⟨_, rfl⟩
    have hqm : q ≤ m := by omega
    have hmin : min lf (m : Int) = (q : Int) := by omega
    have hw : IntKind.i64.wrap (lf - (q : Int)) = lf - (q : Int) := IntWalk.i64_in _ ⟨by omega, by omega⟩
    have hO : bodyOut r l = (l.take q, q, 0) := by unfold bodyOut; rw [if_neg hk, hlf, hq]
    have hR : bodyRd r l = { r with left := lf - (q : Int), w := if lf - (q : Int) = 0 then 3 else r.w } := by unfold bodyRd; rw [if_neg hk, hlf, hq]
    rw [hO]
    simp only
    have HR := Lib.hid hR
    have hmk := hin.2.1
    have hqk : q ≤ k := by omega
    have hql : (l.take q).length = q := by rw [List.length_take]; omega
    have jq : (q : Int) ≤ (k : Int) := by omega
    have hsub := hin.sub (a := 0) (b := q) (by omega) hqm (some ⟨b0, off, none⟩) (fun _ => by simp [add_plain])
    simp only [Nat.sub_zero, Nat.mul_one, List.drop_zero] at hsub
    rw [show (bytesV l).take q = bytesV (l.take q) by simp [bytesV, List.map_take]] at hsub
    rw [hql]
    obtain ⟨lf2, hlf2⟩ : ∃ x, lf - (q : Int) = x := ⟨_, rfl⟩
    have f12 := hst.row.frozen (j := 12) (by simp [rdV, staC])
    obtain ⟨w2, hw2⟩ : ∃ W, w.setCell ⟨g, 12, none⟩ (.int .i64 lf2) = W := ⟨_, rfl⟩
    have R2 : Hid (RowAt w2 g 122 (rdV dg { r with left := lf2 } (.slice A n c))) := Lib.hid (by rw [← hw2]; exact hst.row.set_ (j := 12) (by simp [rdV, staC]) _)
    have SV2 : Hid (Save w.heap.size g w w2) := Lib.hid (by rw [← hw2]; exact (Save.refl _ _ _).setCell 12 _)
    have hz2 : w2.heap.size = w.heap.size := by rw [← hw2]; simp
    have S2 : SliceIn w2 w2.heap.size 1 (some ⟨b0, off, none⟩) q k (bytesV (l.take q)) := by rw [hz2]; exact hsub.save SV2.out hne.1
    have e12 := R2.out.cell (j := 12) rfl
    have hw9 : IntKind.i64.wrap (lf - (q : Int)) = lf2 := by rw [hw, hlf2]
    rw [hlf2] at hR HR
    clear hw
    have HZ2 := Lib.hid hz2
    have HL9 := Lib.hid hlf2
    by_cases hz : lf2 = 0
    · have z0 : (lf2 == 0) = true := by rw [beq_iff_eq]; exact hz
      have d3 := R2.out.cell (j := 3) rfl
      have f3 := R2.out.frozen (j := 3) (by simp [rdV, staC])
      obtain ⟨w3, hw3⟩ : ∃ W, w2.setCell ⟨g, 3, none⟩ (.int .i64 3) = W := ⟨_, rfl⟩
      have R3 : Hid (RowAt w3 g 122 (rdV dg { r with left := lf2, w := 3 } (.slice A n c))) := Lib.hid (by rw [← hw3]; exact R2.out.set_ (j := 3) (by simp [rdV, staC]) _)
      have SV3 : Hid (Save w.heap.size g w w3) := Lib.hid (by rw [← hw3]; exact SV2.out.setCell 3 _)
      have hz3 : w3.heap.size = w.heap.size := by rw [← hw3, ← hz2]; simp
      have S3 : SliceIn w3 w3.heap.size 1 (some ⟨b0, off, none⟩) q k (bytesV (l.take q)) := by rw [hz3]; exact hsub.save SV3.out hne.1
      have CL := bytes_clone b0 off q k (l.take q) w3 S3 (fun i hi => by obtain ⟨_, h⟩ := nats_cells S3; have := h i hi; rwa [add_plain] at this) (by omega)
      have HR2 : Hid (bodyRd r l = { r with left := lf2, w := 3 }) := Lib.hid (by rw [HR.out, if_pos hz])
      rw [hz3] at CL
      replace CL := Lib.hid CL
      clear hll hk hl0 hl1 hlf hq hqm hO hR hmk hql hsub hz hz3 S3 hst hri hin hne hz2 S2 HR hB hdg hsh hlf2
      go_enter Tryz.func120, Tryz.ntmps120
      go_wp2_with (go_at_call 86; (with_reducible refine CL.out.mono ?_); rintro x4 w4 ⟨v, rfl, ho4, hb4⟩; have O4 := Lib.hid ho4; have R4 := Lib.hid (R3.out.below hb4 HG.out); have SV4 := Lib.hid (SV3.out.trans (below_save hb4)); clear ho4 hb4)
      go_ret3
      exact ⟨_, rfl, O4.out, HST.out.of_save SV4.out (by rw [HR2.out]; exact R4.out) (by rw [HR2.out]) (by rw [HR2.out]), SV4.out.left⟩
    · have z0 : (lf2 == 0) = false := by rw [beq_eq_false_iff_ne]; exact hz
      have CL := bytes_clone b0 off q k (l.take q) w2 S2 (fun i hi => by obtain ⟨_, h⟩ := nats_cells S2; have := h i hi; rwa [add_plain] at this) (by omega)
      have HR2 : Hid (bodyRd r l = { r with left := lf2 }) := Lib.hid (by rw [HR.out, if_neg hz])
      rw [hz2] at CL
      replace CL := Lib.hid CL
      clear hll hk hl0 hl1 hlf hq hqm hO hR hmk hql hsub hz hst hri hin hne hz2 S2 HR hB hdg hsh hlf2
      go_enter Tryz.func120, Tryz.ntmps120
      go_wp2_with (go_at_call 86; (with_reducible refine CL.out.mono ?_); rintro x4 w4 ⟨v, rfl, ho4, hb4⟩; have O4 := Lib.hid ho4; have R4 := Lib.hid (R2.out.below hb4 HG.out); have SV4 := Lib.hid (SV2.out.trans (below_save hb4)); clear ho4 hb4)
      go_ret3
      exact ⟨_, rfl, O4.out, HST.out.of_save SV4.out (by rw [HR2.out]; exact R4.out) (by rw [HR2.out]) (by rw [HR2.out]), SV4.out.left⟩
end Go.Proofs.YtniiadhhefgmcaaGreatDoor
