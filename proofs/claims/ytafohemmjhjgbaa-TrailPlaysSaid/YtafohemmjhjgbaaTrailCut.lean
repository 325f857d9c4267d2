/-
  'Cut' of a trail: a loop over the iterator of 'back', and what it leaves.
-/
import Derived.Test.YtafohemmjhjgbaaTrail
namespace Go.Proofs.Ytafohemmjhjgbaa.Trails
open Go.RowKit Go.Proofs.Ytafohemmjhjgbaa Go.Shelf
attribute [local go_sem] Oper.semAt_some
/-- What the loop of 'Cut' keeps: what has come, and what the iterator reads. -/
def cutI (O b1 b2 p at_ : Nat) (A : Option Addr) (c : Nat) (B : Option Addr) (m d : Nat) (xs : List ByteArray) (ms : List Nat) (pre : List ByteArray) : HP := fun h => ∃ v : Option Addr × Nat × Nat,
  star [blk O #[.slice v.1 v.2.1 v.2.2] 43, vec 9 Value.string v.1 v.2.1 v.2.2 pre, blk b2 #[.int .i64 at_] 3, blk b1 #[.pointer (some ⟨p, 0, none⟩)] 44,
    blk p #[.slice A xs.length c, .slice B m d] 103, vec 9 Value.string A xs.length c xs, vec 3 I64 B m d ms] h
set_option maxRecDepth 100000 in
theorem Cut_ok {E w : World} {p k at_ : Nat} {xs : List ByteArray} {ms : List Nat} {L : List HP} (H : sat E w (trail p xs ms :: L)) (hk : ms[k]? = some at_) (hat : at_ ≤ xs.length) (hx : xs.length < 2097152) :
    Calls Try.prog 31 #[.pointer (some ⟨p, 0, none⟩), .int .i64 k] w fun e w' => ∃ A n c, e = .returned (.tuple #[.slice A n c, .int .i64 0]) ∧ sat E w' (vec 9 Value.string A n c (xs.drop at_).reverse :: trail p (xs.take at_) (ms.take k) :: L) := by
  have hkl : k < ms.length := (List.getElem?_eq_some_iff.1 hk).1
  have HB := Lib.hid (bad_yes H hkl)
  obtain ⟨A, c, B, d, H⟩ := trail_open H
  obtain ⟨b, o, rfl, -, -⟩ := H.pull2.Sl.cell hk
  have c1 := H.cell 1
  have ck := H.pull2.vcell hk
  have hi0 : (0 : Int) ≤ (k : Int) := by omega
  have hi1 : (k : Int) < (ms.length : Int) := by omega
  unfold I64 at ck
  have HA := Lib.hid (H.alloc #[.slice none 0 0] 43)
  have HP := Lib.hid (back_any (some ⟨p, 0, none⟩) at_ HA.out)
  clear H
  refine calls_of_marks Try.func31 rfl ?_
  simp only [Try.ntmps31, List.size_toArray, List.length_cons, List.length_nil, Nat.reduceAdd, Nat.reduceSub, Array.replicate_succ, Array.replicate_zero, List.push_toArray, List.append_toArray, List.nil_append, List.cons_append]
  go_wp2_with fail
  refine HB.out.mono ?_
  rintro e w1 ⟨rfl, rfl⟩
  go_wp2_with fail
  refine HP.out.mono ?_
  rintro e w1 ⟨b1, b2, rfl, H1⟩
  have HS := Lib.hid (back1_seq b1 b2 p at_ A c xs hx hat)
  have H2 : Hid (sat E w1 (cutI w.heap.size b1 b2 p at_ A c (some ⟨b, o, none⟩) ms.length d xs ms [] :: L)) :=
    sat.shut_ex (A := fun v : Option Addr × Nat × Nat => star [blk w.heap.size #[.slice v.1 v.2.1 v.2.2] 43, vec 9 Value.string v.1 v.2.1 v.2.2 [], _, _, _, _, _]) (none, 0, 0) (sat.fold (L := [_, _, _, _, _, _, _]) ((H1.pull2.nilVec 9 Value.string).pull1))
  clear H1 HP HA HB c1 ck
  generalize w.heap.size = O at *
  go_wp2_with fail
  refine wp_range_s rfl (enters_of Try.func83 (by kernel_rfl) rfl) HS.out (by rintro x vs h rfl; rfl) (cutI O b1 b2 p at_ A c (some ⟨b, o, none⟩) ms.length d xs ms) (fun _ _ _ => False) H2.out ?rd 0 ?round ?done ?stop
  case rd =>
    rintro pre W L' h
    obtain ⟨v, h⟩ := h.open_ex
    have h := h.flat
    exact ⟨h.pull3.cell 0, h.pull2.cell 0, h.pull4.cell 0, h.pull5.Sl⟩
  case stop =>
    rintro D cc pre x rest W _ h
    exact (h.pure_out).elim
  case round =>
    rintro l pre x rest vs W L' hx h K hK
    obtain rfl : vs = #[.string x] := h.pull1.pure_out
    have HH := Lib.hid h.pull1.tail
    have hpl : Hid (pre.length < 1099511627776) := by
      have := congrArg List.length hx
      simp at this
      show _ < _
      omega
    clear h hx
    gi_wp2
    refine hK _ _ _ HH.out (fun W2 L2 h2 => ?_)
    clear hK K HH
    obtain ⟨⟨v, n, c'⟩, h2⟩ := h2.open_ex
    replace h2 := h2.flat
    have hn := h2.pull1.len
    dsimp only at hn
    subst hn
    have c0 := h2.cell 0
    have H3 := Lib.hid h2.pull1
    clear h2
    gi_wp2_with (gi_at_builtin; go_must (refine wpListIn_app1 (fun _ => trivial) rfl (.tmp 27) (.tmp 29) 43 rfl infoS Try.underlying43 rfl (by decide) H3.out x rfl rfl rfl rfl rfl hpl.out ?_))
    intro A' c'' w2 h4
    have h5 := h4.pull1
    have c1 := h5.cell 0
    have f1 := h5.frozen 0
    have H6 := Lib.hid (h5.setCell 0 (.slice A' (pre.length + 1) c''))
    clear h5 h4 c0 H3
    gi_wp2
    exact sat.shut_ex (A := fun v : Option Addr × Nat × Nat => star [blk O #[.slice v.1 v.2.1 v.2.2] 43, vec 9 Value.string v.1 v.2.1 v.2.2 (pre ++ [x]), _, _, _, _, _]) (A', pre.length + 1, c'') (sat.fold (L := [_, _, _, _, _, _, _]) H6.out)
  case done =>
    rintro D W h
    obtain ⟨⟨v, n, c'⟩, h2⟩ := h.open_ex
    replace h2 := Lib.hid h2.flat
    clear h
    go_wp2_with fail
    have hcap := h2.out.pull5.cap
    have ha0 : (0 : Int) ≤ (at_ : Int) := by omega
    have ha1 : (at_ : Int) ≤ (xs.length : Int) := by omega
    have hle : at_ ≤ c := by omega
    have hk0 : k ≤ d := by have := h2.out.pull6.cap; omega
    refine Reg.wp_region_s (h2.out) (fun W => W.cell? ⟨p, 0, none⟩ = some (.slice A xs.length c) ∧ W.cell? ⟨p, 1, none⟩ = some (.slice (some ⟨b, o, none⟩) ms.length d)) [5, 11] [16, 19] [0, 1, 2, 3, 4, 5, 6, 7, 8, 9, 10, 11, 12, 13, 14, 15, 16, 17, 18, 19] (by kernel_rfl) (by kernel_rfl) (fun W H => ⟨H.pull4.cell 0, H.pull4.cell 1⟩) (fun W HW => ?_)
    simp only [Reg.pickOps, List.map_cons, List.map_nil, List.getD_cons_zero, List.getD_cons_succ, List.contains_cons, List.contains_nil, Nat.reduceBEq, Bool.or_false, Bool.or_true, Bool.or_self]
    iterate 5 (refine Reg.wpX_y (v := ?_) (fun w' => ?_) rfl ?_; rotate_left 1; focus (go_simp; (try with_reducible rfl)))
    (refine Reg.wpX_l (v := ?_) rfl (fun w' hw => ?_) rfl ?_; rotate_left 1; focus ((try dsimp only at hw); go_split_ands; go_simp; (try with_reducible rfl)))
    iterate 5 (refine Reg.wpX_y (v := ?_) (fun w' => ?_) rfl ?_; rotate_left 1; focus (go_simp; (try with_reducible rfl)))
    (refine Reg.wpX_l (v := ?_) rfl (fun w' hw => ?_) rfl ?_; rotate_left 1; focus ((try dsimp only at hw); go_split_ands; go_simp; (try with_reducible rfl)))
    iterate 4 (refine Reg.wpX_y (v := ?_) (fun w' => ?_) rfl ?_; rotate_left 1; focus (go_simp; (try with_reducible rfl)))
    try simp only [Act.put, List.setIfInBounds_toArray, List.set_cons_zero, List.set_cons_succ]
    have f0 := HW.pull4.frozen 0
    have d0 := HW.pull4.cell 0
    refine Reg.wpX_last rfl (by kernel_rfl) (fun K hK => ?_)
    go_simp
    refine nameW (HW.pull4.setCell 0 (.slice A at_ c)) (fun W1 G1 => ?_)
    have f1 := G1.frozen 1
    have d1 := G1.cell 1
    refine hK _ _ ?_
    clear HW f0 d0 hK
    iterate 2 (refine Reg.wpX_y (v := ?_) (fun w' => ?_) rfl ?_; rotate_left 1; focus (go_simp; (try with_reducible rfl)))
    try simp only [Act.put, List.setIfInBounds_toArray, List.set_cons_zero, List.set_cons_succ]
    refine Reg.wpX_last rfl (by kernel_rfl) (fun K hK => ?_)
    go_simp
    refine nameW (G1.setCell 1 (.slice (some ⟨b, o, none⟩) k d)) (fun W2 G2 => ?_)
    refine hK _ _ ?_
    have e0 := G2.pull1.cell 0
    replace G2 := (G2.pull5.vecShort hat).pull6.vecShort (k := k) (by omega)
    have G3 : Hid (sat E _ (defr D :: vec 9 Value.string v n c' (xs.drop at_).reverse :: trail p (xs.take at_) (ms.take k) :: L)) := sat.push2 (trail_shut (G2.choose 8 [2, 1, 0, 7, 4] rfl rfl))
    clear G2 G1 f1 d1 hK
    try simp only [Act.put, List.setIfInBounds_toArray, List.set_cons_zero, List.set_cons_succ]
    refine Reg.wpX_nil ?_
    go_wp2
    exact leave_mark1 rfl G3.out (fun w' H' => ⟨_, results_tmp2 rfl _ _ _, v, n, c', rfl, H'⟩)
end Go.Proofs.Ytafohemmjhjgbaa.Trails
