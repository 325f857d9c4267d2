/-
  Package page: a page's bytes.
-/
import Derived.Test.YtbkjkiaicaopoaaPage
import Derived.Test.YtbkjkiaicaopoaaRegPIn
import Derived.Test.YtbkjkiaicaopoaaRange
import Derived.RangeFuncCalls
import Derived.Laws.BitsAllLaws
namespace Go.Proofs.Ytbkjkiaicaopoaa.Pg
open Go.RowKit Go.Shelf Go.Proofs.Ytbkjkiaicaopoaa Go.Proofs.Ytbkjkiaicaopoaa.Dk
attribute [local go_sem] Oper.semAt_some

theorem lo_int (k : Nat) : IntKind.u8.wrap (k : Int) = ((lo k).toNat : Int) := by
  rw [IntKind.wrap_u8]
  unfold lo
  rw [UInt8.toNat_ofNat']
  omega
theorem hi_int (k : Nat) : IntKind.u8.wrap ((k : Int) / 256) = ((hi k).toNat : Int) := by
  rw [IntKind.wrap_u8]
  unfold hi
  rw [UInt8.toNat_ofNat']
  omega
section
variable {E w : World} {L : List HP} {g n c : Nat} {l : List UInt8}
set_option maxRecDepth 100000 in
theorem two_any (H : sat E w (vec 5 B8 (some ⟨g, 0, none⟩) n c l :: L)) (at_ k : Nat) (h : at_ + 1 < n) (hn : n ≤ 1048576) (hk : k < 2097152) :
    Calls Try.prog 82 #[.slice (some ⟨g, 0, none⟩) n c, .int .i64 at_, .int .i64 k] w fun e w' => e = .returned undef ∧ sat E w' (vec 5 B8 (some ⟨g, 0, none⟩) n c ((l.set at_ (lo k)).set (at_ + 1) (hi k)) :: L) := by
  have hl := H.len
  obtain ⟨x0, e0⟩ : ∃ x, l[at_]? = some x := ⟨_, List.getElem?_eq_getElem (by omega)⟩
  have v0 : w.cell? ⟨g, 0 + at_, none⟩ = some (B8 x0) := H.vcell e0
  rw [Nat.zero_add] at v0
  have f0 := H.vfrozen (by omega) at_
  have H1 := H.vecSet (i := at_) (by omega) (lo k)
  obtain ⟨x1, e1⟩ : ∃ x, l[at_ + 1]? = some x := ⟨_, List.getElem?_eq_getElem (by omega)⟩
  have v1 : w.cell? ⟨g, 0 + (at_ + 1), none⟩ = some (B8 x1) := H.vcell e1
  rw [Nat.zero_add] at v1
  have f1 := H.vfrozen (by omega) (at_ + 1)
  have H2 := Lib.hid (H1.vecSet (i := at_ + 1) (by omega) (hi k))
  have a0 : (0 : Int) ≤ (at_ : Int) := by omega
  have a1 : (at_ : Int) < (n : Int) := by omega
  have a2 : (at_ : Int) + 1 < (n : Int) := by omega
  have nb : (n : Int) ≤ 1048576 := by omega
  have l0 := lo_int k
  have h0 := hi_int k
  clear H H1 e0 e1 hn hk h hl
  go_enter Try.func82, Try.ntmps82
  go_wp2
  go_end0
  exact ⟨rfl, H2.out⟩
end
/-- Where each piece begins. -/
def placeOf (s : PageSt) (i : Nat) : Nat := if (s.l.getD i []).length = 0 then 0 else s.size - used (s.l.take (i + 1))
def places (s : PageSt) : List (Nat × Nat) := (List.range s.l.length).map fun i => (i, placeOf s i)
theorem places_at {s : PageSt} {pre rest : List (Nat × Nat)} {x : Nat × Nat} (h : places s = pre ++ x :: rest) : pre.length < s.l.length ∧ x = (pre.length, placeOf s pre.length) := by
  have hl := congrArg List.length h
  have h2 : (places s)[pre.length]? = (pre ++ x :: rest)[pre.length]? := by rw [h]
  simp only [places, List.length_map, List.length_range, List.length_append, List.length_cons] at hl
  have hlt : pre.length < s.l.length := by omega
  rw [List.getElem?_append_right (Nat.le_refl _), Nat.sub_self, List.getElem?_cons_zero] at h2
  unfold places at h2
  rw [List.getElem?_map, List.getElem?_range hlt] at h2
  exact ⟨hlt, (Option.some.inj h2).symm⟩
theorem places_end {s : PageSt} {pre : List (Nat × Nat)} (h : places s = pre) : pre.length = s.l.length := by
  rw [← h]; simp [places]
/-- May it be written? -/
def PageSt.fine (s : PageSt) : Prop := s.size ≤ 1048576 ∧ 1 + 4 * s.l.length + used s.l ≤ s.size
theorem fine_fit {s : PageSt} (h : s.fine) : s.fit := by
  obtain ⟨h1, h2⟩ := h
  refine ⟨h1, by omega, fun x hx => ?_⟩
  obtain ⟨k, hk⟩ := List.getElem?_of_mem hx
  have := used_take hk
  have := used_take_le s.l (k + 1)
  omega
def PlRd (b1 p : Nat) (s : PageSt) (ss : List Sec) (A : Option Addr) (c : Nat) (W : World) : Prop :=
  (W.cell? ⟨b1, 0, none⟩ = some (.pointer (some ⟨p, 0, none⟩)) ∧ W.cell? ⟨p, 0, none⟩ = some (.int .i64 s.size) ∧ W.cell? ⟨p, 1, none⟩ = some (.slice A s.l.length c)) ∧ Sl Sec.v W A ss ∧ ∀ x ∈ ss, x.l.length = x.n
set_option maxHeartbeats 1000000 in
set_option maxRecDepth 100000 in
theorem placed_seq (b1 p : Nat) (s : PageSt) (ss : List Sec) (A : Option Addr) (c : Nat) (hss : ss.map Sec.l = s.l) (hf : s.fine) :
    SeqS Try.prog 108 #[.pointer (some ⟨b1, 0, none⟩)] (fun (x : Nat × Nat) vs _ => vs = #[.int .i64 x.1, .int .i64 x.2]) (places s) (PlRd b1 p s ss A c) := by
  intro n l E J Jx hRd hY W L H
  have HH := Lib.hid H
  have SS := Lib.hid hss
  have FN := Lib.hid hf
  have sb : (s.size : Int) ≤ 1048576 := by have := hf.1; omega
  have lb : (s.l.length : Int) ≤ 1048576 := by have := hf.1; have := hf.2; omega
  clear H hss hf
  refine callsIn_of_wp Try.func108 rfl trivial ?_ rfl
  simp only [Try.ntmps108, List.size_toArray, List.length_cons, List.length_nil, Nat.reduceAdd, Nat.reduceSub, Array.replicate_succ, Array.replicate_zero, List.push_toArray, List.append_toArray, List.nil_append, List.cons_append]
  obtain ⟨⟨r1, r2, r3⟩, -, -⟩ := hRd _ _ _ HH.out
  gi_wp2
  gi_loopw [3, 16] (fun n i wr => ∃ pre rest : List (Nat × Nat), i = .int .i64 (pre.length : Int) ∧ n = .int .i64 ((s.size : Int) - used (s.l.take pre.length)) ∧ places s = pre ++ rest ∧ sat E wr (J pre :: L)) (fun _ i _ => s.l.length - (intOf i).toNat)
  case atStart => exact ⟨[], _, rfl, by simp [used], rfl, HH.out⟩
  case round =>
    clear r1 r2 r3 HH
    obtain ⟨pre, rest, rfl, rfl, hx, Hr⟩ := hrel
    have HX := Lib.hid hx
    obtain ⟨-, rs, rn⟩ := hRd _ _ _ Hr
    have HR := Lib.hid Hr
    clear Hr
    cases rest with
    | nil =>
      have hlen : pre.length = s.l.length := places_end (by rw [hx, List.append_nil])
      have ht : ¬ (pre.length : Int) < (s.l.length : Int) := by omega
      clear hx rs rn hY hRd
      gi_wp2
      go_end0
      exact ⟨⟨_, rfl⟩, .inl (by rw [HX.out, List.append_nil]; exact HR.out)⟩
    | cons x rest =>
      obtain ⟨hlt, rfl⟩ := places_at hx
      obtain ⟨fn, tmps, assign, body, hy, hR⟩ := hY pre _ rest #[.int .i64 (pre.length : Int), .int .i64 (placeOf s pre.length : Int)] wr L hx (HR.out.pureR rfl).pull1
      obtain ⟨k, hk⟩ : ∃ k, k = pre.length := ⟨_, rfl⟩
      have KP := Lib.hid hk
      rw [← hk] at hlt hy hR ⊢
      obtain ⟨⟨SA, sn, sc, sl⟩, ex, el, eg⟩ := at_of SS.out hlt
      dsimp only at el eg
      have hln : sl.length = sn := rn _ (List.mem_of_getElem? ex)
      obtain ⟨b, o, rfl, _, v0⟩ := rs.cell ex
      have v1 : wr.cell? ⟨b, o + k, none⟩ = some (.slice SA sn sc) := v0
      have hut := used_take el
      have hul := used_take_le s.l (k + 1)
      have hub := FN.out.2
      obtain ⟨U, eU⟩ : ∃ U, U = used (s.l.take k) := ⟨_, rfl⟩
      have ep : placeOf s k = if sn = 0 then 0 else s.size - used (s.l.take (k + 1)) := by unfold placeOf; rw [eg, hln]
      rw [← eU]
      have k0 : (0 : Int) ≤ (k : Int) := by omega
      have k1 : (k : Int) < (s.l.length : Int) := by omega
      have EU : Hid (used (s.l.take (k + 1)) = U + sn) := by show _ = _; omega
      have ub : (U : Int) + (sn : Int) ≤ (s.size : Int) := by omega
      by_cases hz : sn = 0
      · have t : ((sn : Int) == 0) = true := by rw [hz]; rfl
        rw [if_pos hz] at ep
        rw [ep, show ((0 : Nat) : Int) = 0 from rfl] at hy
        rw [ep] at hR
        rw [← KP.out, ep] at HX
        clear ep hz ex el eg hln rs rn hut hul hub hx hY eU v0 hk
        gi_wp2
        refine hR.mono ?_
        rintro e W3 (⟨rfl, H3⟩ | ⟨rfl, H3⟩)
        · have H4 := Lib.hid H3
          clear H3 hR hy
          obtain ⟨⟨r1', r2', r3'⟩, -, -⟩ := hRd _ _ _ H4.out
          gi_wp2
          go_roundw
          case rel => exact ⟨pre ++ [(k, 0)], rest, by rw [List.length_append]; congr 1; simp; have := KP.out; omega, by rw [List.length_append, ← KP.out]; show _ = Value.int .i64 ((s.size : Int) - used (s.l.take (k + 1))); rw [EU.out]; congr 1; push_cast; omega, by rw [HX.out, KP.out]; simp, H4.out⟩
          case measure => simp [intOf] <;> omega
        · have H4 := Lib.hid H3
          clear H3 hR hy hRd
          gi_wp2
          refine bodyPost_ret (results_none rfl _ _ _) rfl ?_
          exact ⟨⟨_, rfl⟩, .inr ⟨pre, _, rest, HX.out, H4.out⟩⟩
      · have t : ((sn : Int) == 0) = false := by rw [beq_eq_false_iff_ne]; omega
        rw [if_neg hz] at ep
        have ea : (s.size : Int) - (U : Int) - (sn : Int) = (placeOf s k : Int) := by rw [ep]; omega
        rw [← KP.out] at HX
        generalize placeOf s k = pl at *
        clear ep hz ex el eg hln rs rn hut hul hub hx hY eU v0 hk
        gi_wp2
        refine hR.mono ?_
        rintro e W3 (⟨rfl, H3⟩ | ⟨rfl, H3⟩)
        · have H4 := Lib.hid H3
          clear H3 hR hy
          obtain ⟨⟨r1', r2', r3'⟩, -, -⟩ := hRd _ _ _ H4.out
          gi_wp2
          go_roundw
          case rel => exact ⟨pre ++ [(k, pl)], rest, by rw [List.length_append]; congr 1; simp; have := KP.out; omega, by rw [List.length_append, ← KP.out]; show _ = Value.int .i64 ((s.size : Int) - used (s.l.take (k + 1))); rw [EU.out]; congr 1; push_cast; omega, by rw [HX.out, KP.out]; simp, H4.out⟩
          case measure => simp [intOf] <;> omega
        · have H4 := Lib.hid H3
          clear H3 hR hy hRd
          gi_wp2
          refine bodyPost_ret (results_none rfl _ _ _) rfl ?_
          exact ⟨⟨_, rfl⟩, .inr ⟨pre, _, rest, HX.out, H4.out⟩⟩
section
variable {E w : World} {p : Nat} {s : PageSt} {L : List HP}
theorem placed_any (q : Option Addr) (H : sat E w L) :
    Calls Try.prog 81 #[.pointer q] w fun e w' => ∃ b1, e = .returned (.func (.func 108) #[] #[.pointer (some ⟨b1, 0, none⟩)]) ∧ sat E w' (blk b1 #[.pointer q] 54 :: L) := by
  have HA := Lib.hid (H.alloc #[.pointer q] 54)
  clear H
  go_enter Try.func81, Try.ntmps81
  go_wp2
  go_ret
  exact ⟨_, rfl, HA.out⟩
theorem layK_zero (size : Nat) (h : UInt8) (l : List (List UInt8)) (hs : 0 < size) : (List.replicate size 0).set 0 h = layK size h l 0 := by
  obtain ⟨z, rfl⟩ : ∃ z, size = z + 1 := ⟨size - 1, by omega⟩
  unfold layK
  rw [List.take_zero]
  simp [List.replicate_succ, slots, body, used]
theorem copyAt {P : Program} {e : TypeId} {n c m d : Nat} {g : Nat} {B : Option Addr} {l ys : List UInt8} {L : List HP} {E W : World} (t ty : TypeId)
    (hinf : (P.info? e).map (fun i => (i.zero, i.size, i.bytes)) = some (some (.int .u8 0), 1, 1)) (ht : P.underlying t = some (.slice e))
    (H : sat E W (vec e B8 (some ⟨g, 0, none⟩) n c l :: L)) (o dl dc : Nat) (hm : ys.length = m) (hy : Sl B8 W B ys) (ho : o + m ≤ n) (hdl : m ≤ dl) (h0 : 0 < n) :
    ∃ w', (Builtin.copy_ #[t, t] ty #[.slice (some ⟨g, o, none⟩) dl dc, .slice B m d]).run P W = .ok (.int .i64 m) w' ∧ sat E w' (vec e B8 (some ⟨g, 0, none⟩) n c (l.take o ++ ys ++ l.drop (o + m)) :: L) := by
  obtain ⟨i0, hi, hz0, hz1, hz2⟩ := info_parts hinf
  have hln := H.len
  subst hm
  cases B with
  | none =>
    have hl0 : ys = [] := by
      cases ys with
      | nil => rfl
      | cons y l => obtain ⟨b, o, e, _⟩ := hy (by simp); cases e
    subst hl0
    refine ⟨W, ?_, by simpa using H⟩
    simp [Builtin.copy_, run_underlying ht, Builtin.lenOf, Builtin.firstCells, sizeOf, typeInfo, hi, storeCells, goInt]
  | some ad =>
    obtain ⟨g', cur, h, hc, hmx, hsz, htk, HB⟩ := sat.rowBlk H h0
    cases h
    rw [Nat.mul_one] at hsz htk
    have hr := run_copy_row (P := P) W t t ty e g o dl dc ad ys.length d cur e (ys.map B8) ht (by rw [hi]; simp [hz1]) HB.Blk (by simp; exact (Nat.min_eq_left hdl).symm)
      (fun j v hj => by
        rw [List.getElem?_map] at hj
        cases ey : ys[j]? with
        | none => rw [ey] at hj; simp at hj
        | some y =>
          rw [ey] at hj
          simp only [Option.map_some, Option.some.injEq] at hj
          obtain ⟨b, o, e, _, hc⟩ := hy.cell ey
          injection e with e
          subst e hj
          rw [add_off]; exact hc) (by simp; omega) (by simp only [List.mem_map]; rintro u ⟨y, _, rfl⟩; rfl)
    have H2 := (HB.setRow (cur.toList.take o ++ ys.map B8 ++ cur.toList.drop (o + (ys.map B8).length)).toArray).toRow (size := 1) (n := n) (cap := c) hc hmx (by simp; omega)
    have e1 : ((cur.toList.take o ++ ys.map B8 ++ cur.toList.drop (o + (ys.map B8).length)).toArray.toList).take (n * 1) = (l.take o ++ ys ++ l.drop (o + ys.length)).map B8 := by
      have lx : cur.toList.length = c := by rw [Array.length_toList]; exact hsz
      have t1 : cur.toList.take o = (l.take o).map B8 := by rw [List.map_take, ← htk, List.take_take]; congr 1; omega
      have t2 : (l.drop (o + ys.length)).map B8 = (cur.toList.drop (o + ys.length)).take (n - (o + ys.length)) := by rw [List.map_drop, ← htk, List.drop_take]
      rw [Nat.mul_one, List.length_map, List.map_append, List.map_append, t1, t2]
      rw [List.take_append, List.take_of_length_le (by simp; omega)]
      congr 2
      simp
      omega
    rw [e1] at H2
    refine ⟨_, ?_, H2⟩
    rw [hr]
    simp [goInt]
/-- What the loop of 'Bytes' keeps. -/
def byL (O O3 b1 gB p : Nat) (s : PageSt) (ss : List Sec) (A : Option Addr) (c k : Nat) : List HP :=
  [blk O3 #[.slice (some ⟨gB, 0, none⟩) s.size s.size] 30, vec 5 B8 (some ⟨gB, 0, none⟩) s.size s.size (layK s.size (lo s.l.length) s.l k), blk O #[.pointer (some ⟨p, 0, none⟩)] 54, blk b1 #[.pointer (some ⟨p, 0, none⟩)] 54,
    blk p #[.int .i64 s.size, .slice A s.l.length c] 125, vec 30 Sec.v A s.l.length c ss, bag 5 ss]
def byI (O O3 b1 gB p : Nat) (s : PageSt) (ss : List Sec) (A : Option Addr) (c : Nat) (pre : List (Nat × Nat)) : HP := star (byL O O3 b1 gB p s ss A c pre.length)
set_option maxHeartbeats 2000000 in
set_option maxRecDepth 100000 in
theorem pBytes_any (H : sat E w (page p s :: L)) (hf : s.fine) (h0 : 0 < s.size) : Calls Try.prog 37 #[.pointer (some ⟨p, 0, none⟩)] w fun e w' => ∃ x : Sec, x.l = s.bytes ∧ e = .returned x.v ∧ sat E w' (x.hp 5 :: page p s :: L) := by
  have H1 := H.alloc #[.pointer (some ⟨p, 0, none⟩)] 54
  have a0 := H1.cell 0
  obtain ⟨ss, A, c, hss, H2⟩ := page_open H1.pull1
  have c0 := H2.cell 0
  have mk : Hid (∀ W : World, (Instr.makeSlice 30 (.int .i64 (s.size : Int)) (.int .i64 (s.size : Int))).run Try.prog W = .ok (.slice (some ⟨W.heap.size, 0, none⟩) s.size s.size) (W.alloc (.cells (Array.replicate s.size (B8 0)) 5))) := fun W => make_bytes info8 Try.underlying30 s.size (by have := hf.1; omega) W
  have MK := mk.out (w.alloc (.cells #[.pointer (some ⟨p, 0, none⟩)] 54))
  have HZ := H2.zeros (n := s.size) 5 (by have := hf.1; unfold maxLen; omega)
  have HB0 := HZ.alloc #[.slice (some ⟨(w.alloc (.cells #[.pointer (some ⟨p, 0, none⟩)] 54)).heap.size, 0, none⟩) s.size s.size] 30
  simp only [World.size_alloc] at HB0
  have HB := Lib.hid HB0
  have FN := Lib.hid hf
  have SS := Lib.hid hss
  clear H H1 H2 HZ HB0 hf hss mk
  refine calls_of_marks Try.func37 rfl ?_
  simp only [Try.ntmps37, List.size_toArray, List.length_cons, List.length_nil, Nat.reduceAdd, Nat.reduceSub, Array.replicate_succ, Array.replicate_zero, List.push_toArray, List.append_toArray, List.nil_append, List.cons_append]
  go_wp2_with fail
  clear MK a0 c0
  generalize w.heap.size + 1 + 1 = O3 at *
  generalize w.heap.size + 1 = gB at *
  generalize w.heap.size = O at *
  refine Reg.wp_region_s (HB.out) (fun W => W.cell? ⟨O3, 0, none⟩ = some (.slice (some ⟨gB, 0, none⟩) s.size s.size) ∧ W.cell? ⟨O, 0, none⟩ = some (.pointer (some ⟨p, 0, none⟩)) ∧ W.cell? ⟨p, 1, none⟩ = some (.slice A s.l.length c)) [0, 1, 4] [8] [0, 1, 2, 3, 4, 5, 6, 7, 8] (by kernel_rfl) (by kernel_rfl) (fun W HW => ⟨HW.cell 0, HW.pull5.cell 0, HW.pull2.cell 1⟩) (fun W HW => ?_)
  simp only [Reg.pickOps, List.map_cons, List.map_nil, List.getD_cons_zero, List.getD_cons_succ, List.contains_cons, List.contains_nil, Nat.reduceBEq, Bool.or_false, Bool.or_true, Bool.or_self]
  iterate 2 (refine Reg.wpX_l (v := ?_) rfl (fun w' hw => ?_) rfl ?_; rotate_left 1; focus ((try dsimp only at hw); go_split_ands; go_simp; (try with_reducible rfl)))
  iterate 2 (refine Reg.wpX_y (v := ?_) (fun w' => ?_) rfl ?_; rotate_left 1; focus (go_simp; (try with_reducible rfl)))
  (refine Reg.wpX_l (v := ?_) rfl (fun w' hw => ?_) rfl ?_; rotate_left 1; focus ((try dsimp only at hw); go_split_ands; go_simp; (try with_reducible rfl)))
  iterate 3 (refine Reg.wpX_y (v := ?_) (fun w' => ?_) rfl ?_; rotate_left 1; focus (go_simp; (try with_reducible rfl)))
  try simp only [Act.put, List.setIfInBounds_toArray, List.set_cons_zero, List.set_cons_succ]
  have z0 : W.cell? ⟨gB, 0 + 0, none⟩ = some (B8 0) := (HW.pull1 : sat E _ (vec 5 B8 _ _ _ _ :: _)).vcell (i := 0) (by rw [List.getElem?_replicate, if_pos h0])
  have z1 := (HW.pull1 : sat E _ (vec 5 B8 _ _ _ _ :: _)).vfrozen h0 0
  have l0 := lo_int s.l.length
  have h0i : (0 : Int) < (s.size : Int) := by omega
  refine Reg.wpX_last rfl (by kernel_rfl) (fun K hK => ?_)
  go_simp
  have H3 := (HW.pull1 : sat E _ (vec 5 B8 _ _ _ _ :: _)).vecSet h0 (lo s.l.length)
  rw [layK_zero _ _ s.l h0] at H3
  replace H3 : sat E (W.setCell ⟨gB, 0, none⟩ (.int .u8 ((lo s.l.length).toNat : Int))) _ := H3
  refine hK _ _ ?_
  try simp only [Act.put, List.setIfInBounds_toArray, List.set_cons_zero, List.set_cons_succ]
  refine Reg.wpX_nil ?_
  refine nameW H3 (fun W4 H4 => ?_)
  have HF0 := Lib.hid H4
  clear H4
  have o0 := HF0.out.pull5.cell 0
  have HPl := Lib.hid (placed_any (some ⟨p, 0, none⟩) HF0.out)
  clear H3 HW HB z0 z1 l0
  (go_wp2_with fail)
  refine (HPl.out).mono ?_
  rintro e w' ⟨b1, rfl, H⟩
  have HS := Lib.hid (placed_seq b1 p s ss A c SS.out FN.out)
  have H2 : Hid (sat E w' (byI O O3 b1 gB p s ss A c [] :: L)) := sat.fold (L := byL O O3 b1 gB p s ss A c 0) (H.re [2, 1, 6, 0, 3, 4, 5] rfl)
  clear H HPl HF0 o0
  go_wp2_with fail
  refine wp_range_s rfl (enters_of Try.func108 (by kernel_rfl) rfl) HS.out (by rintro x vs h rfl; rfl) (byI O O3 b1 gB p s ss A c) (fun _ _ _ => False) H2.out ?rd 2 ?round ?done ?stop
  case rd =>
    rintro pre W L' h
    have h := h.flat
    unfold byL at h
    simp only [List.cons_append, List.nil_append] at h
    refine ⟨⟨h.pull3.cell 0, h.pull4.cell 0, h.pull4.cell 1⟩, (h.pull5 : sat E W (vec 30 Sec.v A s.l.length c ss :: _)).Sl, fun x hx => ?_⟩
    obtain ⟨k, hk⟩ := List.getElem?_of_mem hx
    exact sat.len ((h.pull6).bagGet hk)
  case stop =>
    rintro D cc pre x rest W hx h
    exact (sat.pure_out h).elim
  case done =>
    rintro D W h
    have h := h.flat
    unfold byL at h
    simp only [List.cons_append, List.nil_append] at h
    have e0 := places_end (s := s) (pre := places s) rfl
    rw [e0] at h
    have o3 := h.cell 0
    have HD := Lib.hid ((page_shut (s := s) SS.out (h.choose 8 [4, 5, 6, 1, 7] rfl rfl)).choose 3 [2, 1, 0] rfl rfl)
    clear h e0
    go_wp2
    refine leave_mark1 rfl HD.out (fun w' H' => ⟨.slice (some ⟨gB, 0, none⟩) s.size s.size, ?_, ⟨some ⟨gB, 0, none⟩, s.size, s.size, s.bytes⟩, rfl, rfl, H'⟩)
    simp [results, Try.results37, go_sem]
  case round =>
    rintro l pre x rest vs W L' hx h K hK
    obtain ⟨hlt, rfl⟩ := places_at hx
    obtain rfl : vs = #[.int .i64 (pre.length : Int), .int .i64 (placeOf s pre.length : Int)] := h.pull1.pure_out
    have HH := Lib.hid h.pull1.tail
    have EP : Hid ((pre ++ [(pre.length, placeOf s pre.length)]).length = pre.length + 1) := by show _ = _; simp
    clear h hx
    gi_wp2
    refine hK _ _ (byI O O3 b1 gB p s ss A c pre) HH.out (fun W2 L2 h2 => ?_)
    clear hK K HH
    have h5 := h2.flat
    unfold byL at h5
    simp only [List.cons_append, List.nil_append] at h5
    clear h2
    unfold rndPost
    unfold byI
    rw [EP.out]
    generalize (pre ++ [(pre.length, placeOf s pre.length)]) = pre2 at *
    generalize pre.length = k at *
    obtain ⟨⟨SA, sn, sc, sl⟩, ex, el, eg⟩ := at_of SS.out hlt
    dsimp only at el eg
    have hln : sl.length = sn := sat.len ((h5.pull6).bagGet ex)
    obtain ⟨gs, rfl⟩ := (h5.pull5 : sat E W2 (vec 30 Sec.v A s.l.length c ss :: _)).vaddr (by omega)
    obtain ⟨a, ha⟩ : ∃ a, a = placeOf s k := ⟨_, rfl⟩
    have ha2 : a = if sl.length = 0 then 0 else s.size - used (s.l.take (k + 1)) := by rw [ha]; unfold placeOf; rw [eg]
    have hr : 1 + 4 * (k + 1) + used (s.l.take (k + 1)) ≤ s.size := by have := FN.out.2; have := used_take_le s.l (k + 1); omega
    have LS := layK_succ (h := lo s.l.length) el hr
    have hut := used_take el
    simp only [← ha2] at LS
    subst hln
    have LF : Hid ((((((layK s.size (lo s.l.length) s.l k).set (1 + 4 * k) (lo a)).set (1 + 4 * k + 1) (hi a)).set (1 + 4 * k + 2) (lo sl.length)).set (1 + 4 * k + 2 + 1) (hi sl.length)).take a ++ sl ++ (((((layK s.size (lo s.l.length) s.l k).set (1 + 4 * k) (lo a)).set (1 + 4 * k + 1) (hi a)).set (1 + 4 * k + 2) (lo sl.length)).set (1 + 4 * k + 2 + 1) (hi sl.length)).drop (a + sl.length) = layK s.size (lo s.l.length) s.l (k + 1)) := by
      show _ = _
      obtain ⟨-, q1, q2⟩ := LS
      by_cases hz : sl.length = 0
      · rw [if_pos hz] at ha2
        have hx0 : sl = [] := List.length_eq_zero_iff.1 hz
        rw [← q1 hz, ha2, hx0]; simp
      · rw [if_neg hz] at ha2
        rw [← ha2] at q2
        exact q2
    have hlt2 : a < s.size := by rw [ha2]; split <;> omega
    have e1 : ((1 + 4 * k : Nat) : Int) = 1 + 4 * (k : Int) := by omega
    have e2 : ((1 + 4 * k + 2 : Nat) : Int) = 1 + 4 * (k : Int) + 2 := by omega
    have o3 := h5.cell 0
    have sb := FN.out.1
    have hal : a + sl.length ≤ s.size := by rw [ha2]; split <;> omega
    have HT1 := two_any h5.pull1 (1 + 4 * k) a (by omega) sb (by omega)
    rw [e1, ha] at HT1
    replace HT1 := Lib.hid HT1
    have EX := Lib.hid ex
    have sz : (s.size : Int) ≤ 1048576 := by omega
    have kb : 1 + 4 * (k : Int) + 4 ≤ (s.size : Int) := by omega
    have hsl : Hid (∀ W R, sat E W (bag 5 ss :: R) → Sl B8 W SA sl) := fun W R h => sat.Sl (h.bagGet EX.out)
    have k0 : (0 : Int) ≤ (k : Int) := by omega
    have k1 : (k : Int) < (s.l.length : Int) := by omega
    have AA : Hid (a = placeOf s k ∧ a + sl.length ≤ s.size ∧ a < s.size ∧ sl.length ≤ 1048576 ∧ 1 + 4 * k + 4 ≤ s.size ∧ s.size ≤ 1048576 ∧ 0 < s.size) := ⟨ha, hal, hlt2, by omega, by omega, sb, h0⟩
    clear ex el eg ha2 hr LS hut hal ha e1 hlt sb hlt2
    gi_wp2_with fail
    refine ⟨trivial, (CallsIn.inRound l (callsIn_wide.2 HT1.out)).mono ?_⟩
    rintro ee W3 ⟨rfl, H⟩
    clear HT1 o3 h5
    rw [← AA.out.1] at H ⊢
    have w1 : IntKind.i64.wrap (4 * (k : Int)) = 4 * (k : Int) := by rw [IntKind.wrap_i64]; omega
    have w2 : IntKind.i64.wrap (1 + 4 * (k : Int)) = 1 + 4 * (k : Int) := by rw [IntKind.wrap_i64]; omega
    have w3 : IntKind.i64.wrap (1 + 4 * (k : Int) + 2) = 1 + 4 * (k : Int) + 2 := by rw [IntKind.wrap_i64]; omega
    have VC : Hid (∀ W R, sat E W (vec 30 Sec.v (some ⟨gs, 0, none⟩) s.l.length c ss :: R) → W.cell? ⟨gs, k, none⟩ = some (.slice SA sl.length sc)) := fun W R h => by
      have v0 : W.cell? ⟨gs, 0 + k, none⟩ = some (.slice SA sl.length sc) := h.vcell EX.out
      rw [Nat.zero_add] at v0
      exact v0
    have HX := Lib.hid H
    clear H
    gi_wp2_with fail
    refine RegPIn.wp_region_p (fun _ => trivial) (HX.out) [13] [0, 1, 2, 3, 4, 5, 6, 7, 8, 9, 10, 11, 12, 13] (by kernel_rfl) (by kernel_rfl) (fun W HW => ?_)
    simp only [Reg.pickOps, List.map_cons, List.map_nil, List.getD_cons_zero, List.getD_cons_succ, List.contains_cons, List.contains_nil, Nat.reduceBEq, Bool.or_false, Bool.or_true, Bool.or_self]
    (refine RegPIn.wpX_l (v := ?_) (fun W => W.cell? ⟨O3, 0, none⟩ = some (.slice (some ⟨gB, 0, none⟩) s.size s.size)) (HW.pull1.cell 0) (fun w' hw => ?_) rfl ?_; rotate_left 1; focus ((try dsimp only at hw); go_split_ands; go_simp; (try with_reducible rfl)))
    iterate 4 (refine RegPIn.wpX_y (v := ?_) (fun w' => ?_) rfl ?_; rotate_left 1; focus (go_simp; (try with_reducible rfl)))
    (refine RegPIn.wpX_l (v := ?_) (fun W => W.cell? ⟨O, 0, none⟩ = some (.pointer (some ⟨p, 0, none⟩))) (HW.pull2.cell 0) (fun w' hw => ?_) rfl ?_; rotate_left 1; focus ((try dsimp only at hw); go_split_ands; go_simp; (try with_reducible rfl)))
    iterate 2 (refine RegPIn.wpX_y (v := ?_) (fun w' => ?_) rfl ?_; rotate_left 1; focus (go_simp; (try with_reducible rfl)))
    (refine RegPIn.wpX_l (v := ?_) (fun W => W.cell? ⟨p, 1, none⟩ = some (.slice (some ⟨gs, 0, none⟩) s.l.length c)) (HW.pull4.cell 1) (fun w' hw => ?_) rfl ?_; rotate_left 1; focus ((try dsimp only at hw); go_split_ands; go_simp; (try with_reducible rfl)))
    iterate 2 (refine RegPIn.wpX_y (v := ?_) (fun w' => ?_) rfl ?_; rotate_left 1; focus (go_simp; (try with_reducible rfl)))
    (refine RegPIn.wpX_l (v := ?_) (fun W => W.cell? ⟨gs, k, none⟩ = some (.slice SA sl.length sc)) (VC.out W _ HW.pull5) (fun w' hw => ?_) rfl ?_; rotate_left 1; focus ((try dsimp only at hw); go_split_ands; go_simp; (try with_reducible rfl)))
    (refine RegPIn.wpX_y (v := ?_) (fun w' => ?_) rfl ?_; rotate_left 1; focus (go_simp; (try with_reducible rfl)))
    try simp only [Act.put, List.setIfInBounds_toArray, List.set_cons_zero, List.set_cons_succ]
    have HT2 := two_any HW (1 + 4 * k + 2) sl.length (by have := AA.out; omega) (by have := AA.out; omega) (by have := AA.out; omega)
    rw [e2] at HT2
    replace HT2 := Lib.hid HT2
    refine RegPIn.wpX_go (fun _ => trivial) [fun W => W.cell? ⟨gs, k, none⟩ = some (.slice SA sl.length sc), fun W => W.cell? ⟨p, 1, none⟩ = some (.slice (some ⟨gs, 0, none⟩) s.l.length c), fun W => W.cell? ⟨O, 0, none⟩ = some (.pointer (some ⟨p, 0, none⟩))] (by kernel_rfl) rfl (by kernel_rfl) (fun K hK => ?_)
    go_simp
    refine (CallsIn.inRound l (callsIn_wide.2 HT2.out)).mono ?_
    rintro ee W5 ⟨rfl, H5⟩
    refine hK _ _ (⟨VC.out _ _ H5.pull5, H5.pull4.cell 1, H5.pull2.cell 0, trivial⟩) ?_
    try simp only [Act.put, List.setIfInBounds_toArray, List.set_cons_zero, List.set_cons_succ]
    refine RegPIn.wpX_nil ?_
    have HY := Lib.hid H5
    clear HW HX HT2 H5
    have a0 : (0 : Int) ≤ (a : Int) := by omega
    have a1 : (a : Int) < (s.size : Int) := by have := AA.out.2.2.1; omega
    have a2 : (a : Int) ≤ (s.size : Int) := by omega
    have a3 : ¬ s.size = a := by omega
    gi_wp2_with fail
    refine RegPIn.wp_region_p (fun _ => trivial) (HY.out) [10] [0, 1, 2, 3, 4, 5, 6, 7, 8, 9, 10] (by kernel_rfl) (by kernel_rfl) (fun W HW => ?_)
    simp only [Reg.pickOps, List.map_cons, List.map_nil, List.getD_cons_zero, List.getD_cons_succ, List.contains_cons, List.contains_nil, Nat.reduceBEq, Bool.or_false, Bool.or_true, Bool.or_self]
    (refine RegPIn.wpX_l (v := ?_) (fun W => W.cell? ⟨O3, 0, none⟩ = some (.slice (some ⟨gB, 0, none⟩) s.size s.size)) (HW.pull1.cell 0) (fun w' hw => ?_) rfl ?_; rotate_left 1; focus ((try dsimp only at hw); go_split_ands; go_simp; (try with_reducible rfl)))
    iterate 2 (refine RegPIn.wpX_y (v := ?_) (fun w' => ?_) rfl ?_; rotate_left 1; focus (go_simp; (try with_reducible rfl)))
    (refine RegPIn.wpX_l (v := ?_) (fun W => W.cell? ⟨O, 0, none⟩ = some (.pointer (some ⟨p, 0, none⟩))) (HW.pull2.cell 0) (fun w' hw => ?_) rfl ?_; rotate_left 1; focus ((try dsimp only at hw); go_split_ands; go_simp; (try with_reducible rfl)))
    iterate 2 (refine RegPIn.wpX_y (v := ?_) (fun w' => ?_) rfl ?_; rotate_left 1; focus (go_simp; (try with_reducible rfl)))
    (refine RegPIn.wpX_l (v := ?_) (fun W => W.cell? ⟨p, 1, none⟩ = some (.slice (some ⟨gs, 0, none⟩) s.l.length c)) (HW.pull4.cell 1) (fun w' hw => ?_) rfl ?_; rotate_left 1; focus ((try dsimp only at hw); go_split_ands; go_simp; (try with_reducible rfl)))
    iterate 2 (refine RegPIn.wpX_y (v := ?_) (fun w' => ?_) rfl ?_; rotate_left 1; focus (go_simp; (try with_reducible rfl)))
    (refine RegPIn.wpX_l (v := ?_) (fun W => W.cell? ⟨gs, k, none⟩ = some (.slice SA sl.length sc)) (VC.out W _ HW.pull5) (fun w' hw => ?_) rfl ?_; rotate_left 1; focus ((try dsimp only at hw); go_split_ands; go_simp; (try with_reducible rfl)))
    try simp only [Act.put, List.setIfInBounds_toArray, List.set_cons_zero, List.set_cons_succ]
    have hdl : sl.length ≤ s.size - a := by have h := AA.out.2.1; omega
    obtain ⟨W6, hr, H6⟩ := copyAt (P := Try.prog) (d := sc) 30 3 info8 Try.underlying30 HW a (s.size - a) (s.size - a) rfl (hsl.out W _ HW.pull6) AA.out.2.1 hdl AA.out.2.2.2.2.2.2
    rw [LF.out] at H6
    refine RegPIn.wpX_go (fun _ => trivial) [fun W => W.cell? ⟨p, 1, none⟩ = some (.slice (some ⟨gs, 0, none⟩) s.l.length c), fun W => W.cell? ⟨O, 0, none⟩ = some (.pointer (some ⟨p, 0, none⟩)), fun W => W.cell? ⟨O3, 0, none⟩ = some (.slice (some ⟨gB, 0, none⟩) s.size s.size)] (by kernel_rfl) rfl (by kernel_rfl) (fun K hK => ?_)
    go_simp
    refine hK _ _ (⟨H6.pull4.cell 1, H6.pull2.cell 0, H6.pull1.cell 0, trivial⟩) ?_
    try simp only [Act.put, List.setIfInBounds_toArray, List.set_cons_zero, List.set_cons_succ]
    refine RegPIn.wpX_nil ?_
    have H7 := Lib.hid (sat.fold (L := byL O O3 b1 gB p s ss (some ⟨gs, 0, none⟩) c (k + 1)) (H6.re [1, 0] rfl))
    clear HW HY H6 hr
    gi_wp2
    exact H7.out
end
end Go.Proofs.Ytbkjkiaicaopoaa.Pg
