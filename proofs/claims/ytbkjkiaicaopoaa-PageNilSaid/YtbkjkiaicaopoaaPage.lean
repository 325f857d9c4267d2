/-
  Package page: what each function does, by resources (but its bytes, and reading them).
-/
import Derived.Test.YtbkjkiaicaopoaaDisk
import Derived.Test.YtbkjkiaicaopoaaPagePure
namespace Go.Proofs.Ytbkjkiaicaopoaa.Pg
open Go.RowKit Go.Proofs.Ytbkjkiaicaopoaa Go.Proofs.Ytbkjkiaicaopoaa.Dk

structure PgRep where
  ss : List Sec
  A : Option Addr
  c : Nat
def page (p : Nat) (s : PageSt) : HP := fun h => ∃ r : PgRep, r.ss.map Sec.l = s.l ∧
  star [blk p #[.int .i64 s.size, .slice r.A s.l.length r.c] 125, vec 30 Sec.v r.A s.l.length r.c r.ss, bag 5 r.ss] h
/-- No greater than numbers are. -/
def PageSt.fit (s : PageSt) : Prop := s.size ≤ 1048576 ∧ s.l.length ≤ 1048576 ∧ ∀ x ∈ s.l, x.length ≤ 1048576
section
variable {E w : World} {p : Nat} {s : PageSt} {L : List HP}
theorem page_open (H : sat E w (page p s :: L)) : ∃ (ss : List Sec) (A : Option Addr) (c : Nat), ss.map Sec.l = s.l ∧
    sat E w (blk p #[.int .i64 s.size, .slice A s.l.length c] 125 :: vec 30 Sec.v A s.l.length c ss :: bag 5 ss :: L) := by
  obtain ⟨⟨ss, A, c⟩, H⟩ := H.open_ex
  obtain ⟨h1, H⟩ := H.open_and
  exact ⟨ss, A, c, h1, H.flat⟩
theorem page_shut {ss : List Sec} {A : Option Addr} {n c : Nat} (h1 : ss.map Sec.l = s.l)
    (H : sat E w (blk p #[.int .i64 s.size, .slice A n c] 125 :: vec 30 Sec.v A n c ss :: bag 5 ss :: L)) : sat E w (page p s :: L) := by
  have l1 : ss.length = n := H.pull1.len
  have l2 : s.l.length = n := by rw [← h1, List.length_map]; exact l1
  subst l2
  exact sat.shut_ex (⟨ss, A, c⟩ : PgRep) (sat.shut_and h1 (sat.fold (L := [_, _, _]) H))
theorem pNew_no {size : Int} (w : World) (h : ¬ (64 ≤ size ∧ size ≤ 1024)) : Calls Try.prog 38 #[.int .i64 size] w fun e w' => e = .returned (.tuple #[.pointer none, .int .i64 1]) ∧ w = w' := by
  have hS : Calls Try.prog 83 #[.int .i64 size] w fun e w' => e = .returned (.bool false) ∧ w = w' := by
    by_cases h1 : 64 ≤ size
    · have h2 : ¬ size ≤ 1024 := fun h' => h ⟨h1, h'⟩
      clear h
      go_enter Try.func83, Try.ntmps83
      go_wp2
      go_ret
      exact ⟨rfl, rfl⟩
    · clear h
      go_enter Try.func83, Try.ntmps83
      go_wp2
      go_ret
      exact ⟨rfl, rfl⟩
  have HS := Lib.hid hS
  clear hS h
  go_enter Try.func38, Try.ntmps38
  (go_wp2_with fail)
  refine (HS.out).mono ?_
  rintro e w' ⟨rfl, rfl⟩
  go_wp2
  go_ret2
  exact ⟨rfl, rfl⟩
theorem sized_ok {size : Nat} (w : World) (h1 : 64 ≤ size) (h2 : size ≤ 1024) : Calls Try.prog 83 #[.int .i64 size] w fun e w' => e = .returned (.bool true) ∧ w = w' := by
  have i1 : (64 : Int) ≤ (size : Int) := by omega
  have i2 : (size : Int) ≤ 1024 := by omega
  clear h1 h2
  go_enter Try.func83, Try.ntmps83
  go_wp2
  go_ret
  exact ⟨rfl, rfl⟩
theorem pNew_ok (size : Nat) (H : sat E w L) (h1 : 64 ≤ size) (h2 : size ≤ 1024) : Calls Try.prog 38 #[.int .i64 size] w fun e w' => ∃ p, e = .returned (.tuple #[.pointer (some ⟨p, 0, none⟩), .int .i64 0]) ∧ sat E w' (page p ⟨size, []⟩ :: L) := by
  have HS := Lib.hid (sized_ok w h1 h2)
  have H1 := H.alloc #[.int .i64 size, .slice none 0 0] 125
  have HF := Lib.hid (page_shut (s := ⟨size, []⟩) (ss := []) (A := none) (n := 0) (c := 0) rfl (((H1.bagNil 5).nilVec 30 Sec.v).re [2, 0, 1] rfl))
  clear H H1 h1 h2
  go_enter Try.func38, Try.ntmps38
  (go_wp2_with fail)
  refine (HS.out).mono ?_
  rintro e w' ⟨rfl, rfl⟩
  go_wp2
  go_ret2
  exact ⟨_, rfl, HF.out⟩
theorem pSlots_any (H : sat E w (page p s :: L)) : Calls Try.prog 35 #[.pointer (some ⟨p, 0, none⟩)] w fun e w' => e = .returned (.int .i64 s.l.length) ∧ w = w' := by
  obtain ⟨ss, A, c, -, H⟩ := page_open H
  have c0 := H.cell 1
  clear H
  go_enter Try.func35, Try.ntmps35
  go_wp2
  go_ret
  exact ⟨rfl, rfl⟩
theorem pthere_any (i : Int) (H : sat E w (page p s :: L)) : Calls Try.prog 80 #[.pointer (some ⟨p, 0, none⟩), .int .i64 i] w fun e w' => e = .returned (.int .i64 (if 0 ≤ i ∧ i < s.l.length then 0 else 1)) ∧ w = w' := by
  obtain ⟨ss, A, c, -, H⟩ := page_open H
  have c0 := H.cell 1
  clear H
  by_cases h : 0 ≤ i
  · by_cases h2 : i < s.l.length
    · rw [if_pos ⟨h, h2⟩]
      go_enter Try.func80, Try.ntmps80
      go_wp2
      go_ret
      exact ⟨rfl, rfl⟩
    · rw [if_neg (fun h => h2 h.2)]
      go_enter Try.func80, Try.ntmps80
      go_wp2
      go_ret
      exact ⟨rfl, rfl⟩
  · rw [if_neg (fun h' => h h'.1)]
    go_enter Try.func80, Try.ntmps80
    go_wp2
    go_ret
    exact ⟨rfl, rfl⟩
set_option maxRecDepth 100000 in
theorem pRoom_raw {ss : List Sec} {A : Option Addr} {c : Nat} (hss : ss.map Sec.l = s.l) (H : sat E w (blk p #[.int .i64 s.size, .slice A s.l.length c] 125 :: vec 30 Sec.v A s.l.length c ss :: bag 5 ss :: L)) (hf : s.fit) :
    Calls Try.prog 36 #[.pointer (some ⟨p, 0, none⟩)] w fun e w' => e = .returned (.int .i64 s.room) ∧ sat E w' (blk p #[.int .i64 s.size, .slice A s.l.length c] 125 :: vec 30 Sec.v A s.l.length c ss :: bag 5 ss :: L) := by
  obtain ⟨hf1, hf2, hf3⟩ := hf
  have SS := Lib.hid hss
  have F3 := Lib.hid hf3
  have s1 : (s.size : Int) ≤ 1048576 := by omega
  have s2 : (s.l.length : Int) ≤ 1048576 := by omega
  have HH := Lib.hid H
  clear H hss hf1 hf2 hf3
  have e1 : IntKind.i64.wrap ((s.size : Int) - 1) = (s.size : Int) - 1 := by rw [IntKind.wrap_i64]; omega
  have e2 : IntKind.i64.wrap (4 * (s.l.length : Int)) = 4 * (s.l.length : Int) := by rw [IntKind.wrap_i64]; omega
  have e3 : IntKind.i64.wrap ((s.size : Int) - 1 - 4 * (s.l.length : Int)) = (s.size : Int) - 1 - 4 * (s.l.length : Int) := by rw [IntKind.wrap_i64]; omega
  go_enter Try.func36, Try.ntmps36
  go_wp2_with fail
  refine Reg.wp_region_s (HH.out) (fun W => W.cell? ⟨p, 0, none⟩ = some (.int .i64 s.size) ∧ W.cell? ⟨p, 1, none⟩ = some (.slice A s.l.length c)) [3, 8] [] [0, 1, 2, 3, 4, 5, 6, 7, 8, 9, 10, 11, 12] (by kernel_rfl) (by kernel_rfl) (fun W HW => ⟨HW.cell 0, HW.cell 1⟩) (fun W HW => ?_)
  simp only [Reg.pickOps, List.map_cons, List.map_nil, List.getD_cons_zero, List.getD_cons_succ, List.contains_cons, List.contains_nil, Nat.reduceBEq, Bool.or_false, Bool.or_true, Bool.or_self]
  iterate 3 (refine Reg.wpX_y (v := ?_) (fun w' => ?_) rfl ?_; rotate_left 1; focus (go_simp; (try with_reducible rfl)))
  (refine Reg.wpX_l (v := ?_) rfl (fun w' hw => ?_) rfl ?_; rotate_left 1; focus ((try dsimp only at hw); go_split_ands; go_simp; (try with_reducible rfl)))
  iterate 4 (refine Reg.wpX_y (v := ?_) (fun w' => ?_) rfl ?_; rotate_left 1; focus (go_simp; (try with_reducible rfl)))
  (refine Reg.wpX_l (v := ?_) rfl (fun w' hw => ?_) rfl ?_; rotate_left 1; focus ((try dsimp only at hw); go_split_ands; go_simp; (try with_reducible rfl)))
  iterate 4 (refine Reg.wpX_y (v := ?_) (fun w' => ?_) rfl ?_; rotate_left 1; focus (go_simp; (try with_reducible rfl)))
  try simp only [Act.put, List.setIfInBounds_toArray, List.set_cons_zero, List.set_cons_succ]
  refine Reg.wpX_nil ?_
  have g1 := HW.cell 1
  have H0 := Lib.hid HW
  clear HW HH
  go_wp2_with fail
  go_loopw [3, 25] (fun n i wr => ∃ k : Nat, k ≤ s.l.length ∧ i = .int .i64 k ∧ n = .int .i64 (s.size - 1 - 4 * s.l.length - used (s.l.take k)) ∧ wr = W) (fun _ i _ => s.l.length - (intOf i).toNat)
  case atStart => exact ⟨0, Nat.zero_le _, rfl, by simp [used], rfl⟩
  case round =>
    obtain ⟨k, hk, rfl, rfl, rfl⟩ := hrel
    by_cases hlt : k < s.l.length
    · obtain ⟨⟨SA, sn, sc, sl⟩, ex⟩ : ∃ x, ss[k]? = some x := ⟨_, List.getElem?_eq_getElem (by have := SS.out; rw [← List.length_map (f := Sec.l), this]; exact hlt)⟩
      have ed : s.l[k]? = some sl := by rw [← SS.out, List.getElem?_map, ex]; rfl
      have hln : sl.length = sn := sat.len (H0.out.pull2.bagGet ex)
      have hlb := F3.out _ (List.mem_of_getElem? ed)
      obtain ⟨g, rfl⟩ := (H0.out.pull1 : sat E _ (vec 30 Sec.v A s.l.length c ss :: _)).vaddr (by omega)
      have v0 : wr.cell? ⟨g, 0 + k, none⟩ = some (.slice SA sn sc) := (H0.out.pull1 : sat E _ (vec 30 Sec.v _ s.l.length c ss :: _)).vcell ex
      rw [Nat.zero_add] at v0
      have hut := used_take ed
      have hub : used (s.l.take k) ≤ 1099511627776 := by
        have h1 := used_bound (l := s.l.take k) (m := 1048576) (fun x hx => F3.out x (List.mem_of_mem_take hx))
        have h2 : (s.l.take k).length * 1048576 ≤ 1048576 * 1048576 := Nat.mul_le_mul_right _ (by rw [List.length_take]; omega)
        omega
      have k0 : (0 : Int) ≤ (k : Int) := by omega
      have k1 : (k : Int) < (s.l.length : Int) := by omega
      obtain ⟨U, eU⟩ : ∃ U, U = used (s.l.take k) := ⟨_, rfl⟩
      have n1 : (sn : Int) ≤ 1048576 := by omega
      have n2 : (U : Int) ≤ 1099511627776 := by omega
      rw [← eU]
      have EU := Lib.hid (show used (s.l.take (k + 1)) = U + sn by omega)
      clear ex ed hln hlb hut hub eU
      go_wp2
      go_roundw
      case rel => exact ⟨k + 1, by omega, by go_num, by rw [EU.out]; congr 1; push_cast; omega, trivial⟩
      case measure => simp [intOf] <;> omega
    · obtain rfl : k = s.l.length := by omega
      have k1 : ¬ (s.l.length : Int) < (s.l.length : Int) := by omega
      rw [List.take_length]
      go_wp2
      go_ret
      exact ⟨rfl, H0.out⟩
theorem pRoom_any (H : sat E w (page p s :: L)) (hf : s.fit) : Calls Try.prog 36 #[.pointer (some ⟨p, 0, none⟩)] w fun e w' => e = .returned (.int .i64 s.room) ∧ sat E w' (page p s :: L) := by
  obtain ⟨ss, A, c, hss, H⟩ := page_open H
  exact (pRoom_raw hss H hf).mono fun e w' h => ⟨h.1, page_shut hss h.2⟩
def PageSt.add (s : PageSt) (b : List UInt8) : Int × Int × PageSt :=
  if b.length = 0 then (0, 1, s) else if 250 ≤ s.l.length ∨ s.room - 4 < b.length then (0, 12, s) else (s.l.length, 0, { s with l := s.l ++ [b] })
set_option maxRecDepth 100000 in
theorem pAdd_any {A : Option Addr} {n c : Nat} {b : List UInt8} (H : sat E w (page p s :: L)) (hf : s.fit) (hb : ∀ W, sat E W L → Sl B8 W A b) (hn : b.length = n) :
    Calls Try.prog 31 #[.pointer (some ⟨p, 0, none⟩), .slice A n c] w fun e w' => e = .returned (.tuple #[.int .i64 (s.add b).1, .int .i64 (s.add b).2.1]) ∧ sat E w' (page p (s.add b).2.2 :: L) := by
  subst hn
  unfold PageSt.add
  have hf2 := hf.1
  have HR := Lib.hid (pRoom_any H hf)
  obtain ⟨ss, A1, c1, hss, Hk⟩ := page_open H
  have g1 := Hk.cell 1
  have hrb : s.room ≤ 1048576 := by unfold PageSt.room; omega
  have hrb2 : -2000000000000000 ≤ s.room := by
    have h1 := used_bound (l := s.l) hf.2.2
    have h2 : s.l.length * 1048576 ≤ 1048576 * 1048576 := Nat.mul_le_mul_right _ hf.2.1
    unfold PageSt.room
    have := hf.2.1
    omega
  clear hss Hk hf hf2
  by_cases h1 : b.length = 0
  · rw [if_pos h1]
    have t : ((b.length : Int) == 0) = true := by rw [h1]; rfl
    have HH := Lib.hid H
    clear H hb h1 HR
    go_enter Try.func31, Try.ntmps31
    go_wp2
    go_ret2
    exact ⟨rfl, HH.out⟩
  rw [if_neg h1]
  have t : ((b.length : Int) == 0) = false := by rw [beq_eq_false_iff_ne]; omega
  by_cases h2 : (250 : Int) ≤ (s.l.length : Int)
  · rw [if_pos (.inl (by omega))]
    have HH := Lib.hid H
    clear H hb h1 HR
    go_enter Try.func31, Try.ntmps31
    go_wp2
    go_ret2
    exact ⟨rfl, HH.out⟩
  by_cases h3 : s.room - 4 < (b.length : Int)
  · rw [if_pos (.inr h3)]
    clear H hb h1
    go_enter Try.func31, Try.ntmps31
    (go_wp2_with fail)
    refine (HR.out).mono ?_
    rintro e w' ⟨rfl, H⟩
    have HH := Lib.hid H
    clear H HR
    go_wp2
    go_ret2
    exact ⟨rfl, HH.out⟩
  rw [if_neg (by omega)]
  have HB := Lib.hid hb
  have HN : Hid (b.length ≤ 1099511627776) := by show _ ≤ _; omega
  have HL : Hid (s.l.length < 1099511627776) := by show _ < _; omega
  have hlb : (s.l.length : Int) < 250 := by omega
  clear H hb h1
  go_enter Try.func31, Try.ntmps31
  (go_wp2_with fail)
  refine (HR.out).mono ?_
  rintro e w' ⟨rfl, H⟩
  obtain ⟨ss, A1, c1, hss, H⟩ := page_open H
  have SS := Lib.hid hss
  have HH := Lib.hid H
  clear H HR hss g1
  go_wp2_with fail
  refine Reg.wp_region_s (HH.out) (fun W => W.cell? ⟨p, 1, none⟩ = some (.slice A1 s.l.length c1)) [4] [6, 7, 8, 11] [0, 1, 2, 3, 4, 5, 6, 7, 8, 9, 10, 11] (by kernel_rfl) (by kernel_rfl) (fun W HW => HW.cell 1) (fun W HW => ?_)
  simp only [Reg.pickOps, List.map_cons, List.map_nil, List.getD_cons_zero, List.getD_cons_succ, List.contains_cons, List.contains_nil, Nat.reduceBEq, Bool.or_false, Bool.or_true, Bool.or_self]
  iterate 4 (refine Reg.wpX_y (v := ?_) (fun w' => ?_) rfl ?_; rotate_left 1; focus (go_simp; (try with_reducible rfl)))
  (refine Reg.wpX_l (v := ?_) rfl (fun w' hw => ?_) rfl ?_; rotate_left 1; focus ((try dsimp only at hw); go_split_ands; go_simp; (try with_reducible rfl)))
  (refine Reg.wpX_y (v := ?_) (fun w' => ?_) rfl ?_; rotate_left 1; focus (go_simp; (try with_reducible rfl)))
  try simp only [Act.put, List.setIfInBounds_toArray, List.set_cons_zero, List.set_cons_succ]
  have HC := Lib.hid (BClone_any (c := c) HW (HB.out _ (HW.choose 3 [] rfl rfl)) rfl HN.out)
  refine Reg.wpX_go rfl (fun K hK => ?_)
  go_simp
  refine HC.out.mono ?_
  rintro ee w2 ⟨⟨SA, sn, sc, sl⟩, hsl, hsn, rfl, H1⟩
  dsimp only at hsl hsn
  subst hsl
  obtain rfl : sl.length = sn := hsn.symm
  dsimp only [Sec.v]
  refine hK _ _ (H1.pull1.cell 1) ?_
  try simp only [Act.put, List.setIfInBounds_toArray, List.set_cons_zero, List.set_cons_succ]
  refine Reg.wpX_go rfl (fun K hK => ?_)
  go_simp
  refine hK _ _ ((H1.alloc _ _).pull2.cell 1) ?_
  try simp only [Act.put, List.setIfInBounds_toArray, List.set_cons_zero, List.set_cons_succ]
  refine Reg.wpX_last rfl (by kernel_rfl) (fun K hK => ?_)
  refine wp_app1 (.tmp 32) (.tmp 35) 110 rfl infoB Try.underlying110 rfl (by decide) H1.pull2 (⟨SA, sl.length, sc, sl⟩ : Sec) rfl rfl rfl (by simp) rfl HL.out (fun A3 c3 w3 H3 => ?_)
  refine hK _ _ ?_
  iterate 2 (refine Reg.wpX_y (v := ?_) (fun w' => ?_) rfl ?_; rotate_left 1; focus (go_simp; (try with_reducible rfl)))
  try simp only [Act.put, List.setIfInBounds_toArray, List.set_cons_zero, List.set_cons_succ]
  have g3 := H3.pull2.cell 1
  have f3 := H3.pull2.frozen 1
  refine Reg.wpX_last rfl (by kernel_rfl) (fun K hK => ?_)
  go_simp
  have H4 := H3.pull2.setCell 1 (.slice A3 (s.l.length + 1) c3)
  have H5 := Lib.hid (page_shut (s := { s with l := s.l ++ [sl] }) (by rw [List.map_append, SS.out]; rfl) (((H4.re [2, 3, 0, 1] rfl).bagPush (s := ⟨SA, sl.length, sc, sl⟩)).re [1, 2, 0] rfl))
  have g4 := H4.cell 1
  have hlb2 : IntKind.i64.wrap ((s.l.length : Int) + 1 - 1) = (s.l.length : Int) := by rw [IntKind.wrap_i64]; omega
  refine hK _ _ ?_
  try simp only [Act.put, List.setIfInBounds_toArray, List.set_cons_zero, List.set_cons_succ]
  refine Reg.wpX_nil ?_
  clear H1 H3 H4 HW HH HC
  go_wp2
  go_ret2
  exact ⟨rfl, H5.out⟩
def PageSt.get (s : PageSt) (i : Int) : Int × List UInt8 := if 0 ≤ i ∧ i < s.l.length then (if (s.l.getD i.toNat []).length = 0 then (13, []) else (0, s.l.getD i.toNat [])) else (1, [])
theorem at_of {ss : List Sec} {l : List (List UInt8)} (h : ss.map Sec.l = l) {j : Nat} (hj : j < l.length) : ∃ s : Sec, ss[j]? = some s ∧ l[j]? = some s.l ∧ l.getD j [] = s.l := by
  have hl : ss.length = l.length := by rw [← h, List.length_map]
  obtain ⟨x, ex⟩ : ∃ x, ss[j]? = some x := ⟨_, List.getElem?_eq_getElem (by omega)⟩
  have e : l[j]? = some x.l := by rw [← h, List.getElem?_map, ex]; rfl
  exact ⟨x, ex, e, by rw [List.getD_eq_getElem?_getD, e]; rfl⟩
set_option maxRecDepth 100000 in
theorem pGet_any (i : Int) (H : sat E w (page p s :: L)) (hf : s.fit) : Calls Try.prog 32 #[.pointer (some ⟨p, 0, none⟩), .int .i64 i] w fun e w' => ∃ x : Sec, x.l = (s.get i).2 ∧ e = .returned (.tuple #[x.v, .int .i64 (s.get i).1]) ∧ sat E w' (x.hp 5 :: page p s :: L) := by
  have HT := pthere_any i H
  unfold PageSt.get
  by_cases h : 0 ≤ i ∧ i < (s.l.length : Int)
  · rw [if_pos h] at HT ⊢
    replace HT := Lib.hid HT
    obtain ⟨j, rfl⟩ := Int.eq_ofNat_of_zero_le h.1
    obtain ⟨h0, h1⟩ := h
    rw [Int.toNat_natCast]
    obtain ⟨ss, A, c, hss, H⟩ := page_open H
    obtain ⟨⟨SA, sn, sc, sl⟩, ex, el, eg⟩ := at_of hss (by omega : j < s.l.length)
    dsimp only at el eg
    rw [eg]
    have c1 := H.cell 1
    obtain ⟨g, rfl⟩ := (H.pull1 : sat E _ (vec 30 Sec.v A s.l.length c ss :: _)).vaddr (by omega)
    have v0 : w.cell? ⟨g, 0 + j, none⟩ = some (.slice SA sn sc) := (H.pull1 : sat E _ (vec 30 Sec.v _ s.l.length c ss :: _)).vcell ex
    rw [Nat.zero_add] at v0
    have hS := H.pull2.bagGet ex
    have hln : sl.length = sn := sat.len hS
    have hsl : Sl B8 w SA sl := sat.Sl hS
    have hlb := hf.2.2 _ (List.mem_of_getElem? el)
    by_cases hz : sl.length = 0
    · rw [if_pos hz]
      obtain rfl : sn = 0 := by omega
      have HF := Lib.hid ((page_shut (s := s) hss H).nilVec 5 B8)
      clear H hS hln hsl hlb hss ex el eg hf
      go_enter Try.func32, Try.ntmps32
      (go_wp2_with fail)
      refine (HT.out).mono ?_
      rintro e w' ⟨rfl, rfl⟩
      go_wp2
      go_ret2
      exact ⟨⟨none, 0, 0, []⟩, rfl, rfl, HF.out⟩
    · rw [if_neg hz]
      have t : ((sn : Int) == 0) = false := by rw [beq_eq_false_iff_ne]; omega
      have HC := Lib.hid (BClone_any (c := sc) (page_shut (s := s) hss H) hsl hln (by omega))
      clear H hS hln hsl hlb hss ex el eg hf hz
      go_enter Try.func32, Try.ntmps32
      (go_wp2_with fail)
      refine (HT.out).mono ?_
      rintro e w' ⟨rfl, rfl⟩
      go_wp2_with fail
      refine HC.out.mono ?_
      rintro e w' ⟨⟨XA, xn, xc, xl⟩, hl, hn, rfl, H⟩
      obtain rfl : xn = sn := hn
      obtain rfl : xl = sl := hl
      dsimp only [Sec.v]
      have HF := Lib.hid H
      clear H HC
      go_wp2
      go_ret2
      exact ⟨⟨XA, xn, xc, xl⟩, rfl, rfl, HF.out⟩
  · rw [if_neg h] at HT ⊢
    replace HT := Lib.hid HT
    have HF := Lib.hid (H.nilVec 5 B8)
    clear H h hf
    go_enter Try.func32, Try.ntmps32
    (go_wp2_with fail)
    refine (HT.out).mono ?_
    rintro e w' ⟨rfl, rfl⟩
    go_wp2
    go_ret2
    exact ⟨⟨none, 0, 0, []⟩, rfl, rfl, HF.out⟩
def PageSt.put (s : PageSt) (i : Int) (b : List UInt8) : Int × PageSt :=
  if ¬ (0 ≤ i ∧ i < s.l.length) then (1, s) else if b.length = 0 then (1, s) else if s.room + (s.l.getD i.toNat []).length < b.length then (12, s) else (0, { s with l := s.l.set i.toNat b })
set_option maxRecDepth 100000 in
theorem pSet_any {i : Int} {A : Option Addr} {n c : Nat} {b : List UInt8} (H : sat E w (page p s :: L)) (hf : s.fit) (hb : ∀ W, sat E W L → Sl B8 W A b) (hn : b.length = n) :
    Calls Try.prog 33 #[.pointer (some ⟨p, 0, none⟩), .int .i64 i, .slice A n c] w fun e w' => e = .returned (.int .i64 (s.put i b).1) ∧ sat E w' (page p (s.put i b).2 :: L) := by
  subst hn
  have HT := pthere_any i H
  unfold PageSt.put
  by_cases h : 0 ≤ i ∧ i < (s.l.length : Int)
  · rw [if_pos h] at HT
    rw [if_neg (fun h' => h' h)]
    replace HT := Lib.hid HT
    by_cases h1 : b.length = 0
    · rw [if_pos h1]
      have t : ((b.length : Int) == 0) = true := by rw [h1]; rfl
      have HH := Lib.hid H
      clear H hb h1 h hf
      go_enter Try.func33, Try.ntmps33
      (go_wp2_with fail)
      refine (HT.out).mono ?_
      rintro e w' ⟨rfl, rfl⟩
      go_wp2
      go_ret
      exact ⟨rfl, HH.out⟩
    rw [if_neg h1]
    have t : ((b.length : Int) == 0) = false := by rw [beq_eq_false_iff_ne]; omega
    obtain ⟨j, rfl⟩ := Int.eq_ofNat_of_zero_le h.1
    obtain ⟨h0, hjl⟩ := h
    have HJ : Hid (j < s.l.length) := by show _ < _; omega
    rw [Int.toNat_natCast]
    have hrb : s.room ≤ 1048576 := by have := hf.1; unfold PageSt.room; omega
    have hrb2 : -2000000000000000 ≤ s.room := by
      have h1 := used_bound (l := s.l) hf.2.2
      have h2 : s.l.length * 1048576 ≤ 1048576 * 1048576 := Nat.mul_le_mul_right _ hf.2.1
      unfold PageSt.room
      have := hf.2.1
      omega
    obtain ⟨ss, A1, c1, hss, H⟩ := page_open H
    obtain ⟨⟨SA, sn, sc, sl⟩, ex, el, eg⟩ := at_of hss HJ.out
    dsimp only at el eg
    rw [eg]
    have hln : sl.length = sn := sat.len (H.pull2.bagGet ex)
    have hlb := hf.2.2 _ (List.mem_of_getElem? el)
    have EX := Lib.hid ex
    have SS := Lib.hid hss
    have FT := Lib.hid hf
    have HB := Lib.hid hb
    have HH := Lib.hid H
    have sb : (sn : Int) ≤ 1048576 := by omega
    have ew : IntKind.i64.wrap (s.room + (sn : Int)) = s.room + (sn : Int) := by rw [IntKind.wrap_i64]; omega
    obtain ⟨g, rfl⟩ := (H.pull1 : sat E _ (vec 30 Sec.v A1 s.l.length c1 ss :: _)).vaddr (by omega)
    have CC : Hid (∀ W R, sat E W (blk p #[.int .i64 s.size, .slice (some ⟨g, 0, none⟩) s.l.length c1] 125 :: vec 30 Sec.v (some ⟨g, 0, none⟩) s.l.length c1 ss :: R) → W.cell? ⟨p, 1, none⟩ = some (.slice (some ⟨g, 0, none⟩) s.l.length c1) ∧ W.cell? ⟨g, j, none⟩ = some (.slice SA sn sc)) := fun W R h => by
      have v0 : W.cell? ⟨g, 0 + j, none⟩ = some (.slice SA sn sc) := h.pull1.vcell EX.out
      rw [Nat.zero_add] at v0
      exact ⟨h.cell 1, v0⟩
    rw [hln]
    clear H hb h1 hf hss ex el eg hln hlb
    by_cases h3 : s.room + (sn : Int) < (b.length : Int)
    · rw [if_pos h3]
      go_enter Try.func33, Try.ntmps33
      (go_wp2_with fail)
      refine (HT.out).mono ?_
      rintro e w' ⟨rfl, rfl⟩
      clear HT
      go_wp2_with fail
      refine Reg.wp_region_s (HH.out) (fun W => W.cell? ⟨p, 1, none⟩ = some (.slice (some ⟨g, 0, none⟩) s.l.length c1) ∧ W.cell? ⟨g, j, none⟩ = some (.slice SA sn sc)) [5, 8] [1] [0, 2, 3, 4, 5, 6, 7, 8, 9, 11, 12, 1, 10, 13, 14] (by kernel_rfl) (by kernel_rfl) (fun W HW => CC.out W _ HW) (fun W HW => ?_)
      simp only [Reg.pickOps, List.map_cons, List.map_nil, List.getD_cons_zero, List.getD_cons_succ, List.contains_cons, List.contains_nil, Nat.reduceBEq, Bool.or_false, Bool.or_true, Bool.or_self]
      iterate 4 (refine Reg.wpX_y (v := ?_) (fun w' => ?_) rfl ?_; rotate_left 1; focus (go_simp; (try with_reducible rfl)))
      (refine Reg.wpX_l (v := ?_) rfl (fun w' hw => ?_) rfl ?_; rotate_left 1; focus ((try dsimp only at hw); go_split_ands; go_simp; (try with_reducible rfl)))
      iterate 2 (refine Reg.wpX_y (v := ?_) (fun w' => ?_) rfl ?_; rotate_left 1; focus (go_simp; (try with_reducible rfl)))
      (refine Reg.wpX_l (v := ?_) rfl (fun w' hw => ?_) rfl ?_; rotate_left 1; focus ((try dsimp only at hw); go_split_ands; go_simp; (try with_reducible rfl)))
      iterate 3 (refine Reg.wpX_y (v := ?_) (fun w' => ?_) rfl ?_; rotate_left 1; focus (go_simp; (try with_reducible rfl)))
      try simp only [Act.put, List.setIfInBounds_toArray, List.set_cons_zero, List.set_cons_succ]
      have HR := Lib.hid (pRoom_raw SS.out HW FT.out)
      refine Reg.wpX_go rfl (fun K hK => ?_)
      go_simp
      refine HR.out.mono ?_
      rintro ee w2 ⟨rfl, H1⟩
      refine hK _ _ (CC.out _ _ H1) ?_
      iterate 3 (refine Reg.wpX_y (v := ?_) (fun w' => ?_) rfl ?_; rotate_left 1; focus (go_simp; (try with_reducible rfl)))
      try simp only [Act.put, List.setIfInBounds_toArray, List.set_cons_zero, List.set_cons_succ]
      refine Reg.wpX_nil ?_
      have HF := Lib.hid (page_shut (s := s) SS.out H1)
      clear HW HH H1 HR
      go_wp2
      go_ret
      exact ⟨rfl, HF.out⟩
    · rw [if_neg h3]
      go_enter Try.func33, Try.ntmps33
      (go_wp2_with fail)
      refine (HT.out).mono ?_
      rintro e w' ⟨rfl, rfl⟩
      clear HT
      go_wp2_with fail
      refine Reg.wp_region_s (HH.out) (fun W => W.cell? ⟨p, 1, none⟩ = some (.slice (some ⟨g, 0, none⟩) s.l.length c1) ∧ W.cell? ⟨g, j, none⟩ = some (.slice SA sn sc)) [5, 8] [1] [0, 2, 3, 4, 5, 6, 7, 8, 9, 11, 12, 1, 10, 13, 14] (by kernel_rfl) (by kernel_rfl) (fun W HW => CC.out W _ HW) (fun W HW => ?_)
      simp only [Reg.pickOps, List.map_cons, List.map_nil, List.getD_cons_zero, List.getD_cons_succ, List.contains_cons, List.contains_nil, Nat.reduceBEq, Bool.or_false, Bool.or_true, Bool.or_self]
      iterate 4 (refine Reg.wpX_y (v := ?_) (fun w' => ?_) rfl ?_; rotate_left 1; focus (go_simp; (try with_reducible rfl)))
      (refine Reg.wpX_l (v := ?_) rfl (fun w' hw => ?_) rfl ?_; rotate_left 1; focus ((try dsimp only at hw); go_split_ands; go_simp; (try with_reducible rfl)))
      iterate 2 (refine Reg.wpX_y (v := ?_) (fun w' => ?_) rfl ?_; rotate_left 1; focus (go_simp; (try with_reducible rfl)))
      (refine Reg.wpX_l (v := ?_) rfl (fun w' hw => ?_) rfl ?_; rotate_left 1; focus ((try dsimp only at hw); go_split_ands; go_simp; (try with_reducible rfl)))
      iterate 3 (refine Reg.wpX_y (v := ?_) (fun w' => ?_) rfl ?_; rotate_left 1; focus (go_simp; (try with_reducible rfl)))
      try simp only [Act.put, List.setIfInBounds_toArray, List.set_cons_zero, List.set_cons_succ]
      have HR := Lib.hid (pRoom_raw SS.out HW FT.out)
      refine Reg.wpX_go rfl (fun K hK => ?_)
      go_simp
      refine HR.out.mono ?_
      rintro ee w2 ⟨rfl, H1⟩
      refine hK _ _ (CC.out _ _ H1) ?_
      iterate 3 (refine Reg.wpX_y (v := ?_) (fun w' => ?_) rfl ?_; rotate_left 1; focus (go_simp; (try with_reducible rfl)))
      try simp only [Act.put, List.setIfInBounds_toArray, List.set_cons_zero, List.set_cons_succ]
      refine Reg.wpX_nil ?_
      have H2 := Lib.hid H1
      have HN : Hid (b.length ≤ 1099511627776) := by show _ ≤ _; omega
      clear HW HH H1 HR
      go_wp2_with fail
      refine Reg.wp_region_s (H2.out) (fun W => W.cell? ⟨p, 1, none⟩ = some (.slice (some ⟨g, 0, none⟩) s.l.length c1)) [3] [6, 8] [0, 1, 2, 3, 4, 5, 6, 7, 8] (by kernel_rfl) (by kernel_rfl) (fun W HW => HW.cell 1) (fun W HW => ?_)
      simp only [Reg.pickOps, List.map_cons, List.map_nil, List.getD_cons_zero, List.getD_cons_succ, List.contains_cons, List.contains_nil, Nat.reduceBEq, Bool.or_false, Bool.or_true, Bool.or_self]
      iterate 3 (refine Reg.wpX_y (v := ?_) (fun w' => ?_) rfl ?_; rotate_left 1; focus (go_simp; (try with_reducible rfl)))
      (refine Reg.wpX_l (v := ?_) rfl (fun w' hw => ?_) rfl ?_; rotate_left 1; focus ((try dsimp only at hw); go_split_ands; go_simp; (try with_reducible rfl)))
      iterate 2 (refine Reg.wpX_y (v := ?_) (fun w' => ?_) rfl ?_; rotate_left 1; focus (go_simp; (try with_reducible rfl)))
      try simp only [Act.put, List.setIfInBounds_toArray, List.set_cons_zero, List.set_cons_succ]
      have HC := Lib.hid (BClone_any (c := c) HW (HB.out _ (HW.choose 3 [] rfl rfl)) rfl HN.out)
      refine Reg.wpX_go rfl (fun K hK => ?_)
      go_simp
      refine HC.out.mono ?_
      rintro ee w2 ⟨⟨XA, xn, xc, xl⟩, hsl, hsn, rfl, H1⟩
      obtain rfl : xn = b.length := hsn
      obtain rfl : xl = b := hsl
      dsimp only [Sec.v]
      refine hK _ _ (H1.pull1.cell 1) ?_
      (refine Reg.wpX_y (v := ?_) (fun w' => ?_) rfl ?_; rotate_left 1; focus (go_simp; (try with_reducible rfl)))
      try simp only [Act.put, List.setIfInBounds_toArray, List.set_cons_zero, List.set_cons_succ]
      have v0 : w2.cell? ⟨g, 0 + j, none⟩ = some (.slice SA sn sc) := (H1.pull2 : sat E _ (vec 30 Sec.v _ s.l.length c1 ss :: _)).vcell EX.out
      have v1 := (H1.pull2 : sat E _ (vec 30 Sec.v _ s.l.length c1 ss :: _)).vfrozen (by have := HJ.out; omega) j
      rw [Nat.zero_add] at v0
      refine Reg.wpX_last rfl (by kernel_rfl) (fun K hK => ?_)
      go_simp
      have HV : sat E (w2.setCell ⟨g, j, none⟩ (.slice XA xl.length xc)) (vec 30 Sec.v (some ⟨g, 0, none⟩) s.l.length c1 (ss.set j ⟨XA, xl.length, xc, xl⟩) :: _) := (H1.pull2 : sat E _ (vec 30 Sec.v _ s.l.length c1 ss :: _)).vecSet HJ.out (⟨XA, xl.length, xc, xl⟩ : Sec)
      have HV3 := (HV.re [1, 3, 0, 2] rfl (by simp)).bagSet (i := j) (s := ⟨XA, xl.length, xc, xl⟩) (by have := SS.out; rw [← List.length_map (f := Sec.l), this]; exact HJ.out)
      have HF := Lib.hid (page_shut (s := { s with l := s.l.set j xl }) (by rw [List.map_set, SS.out]) (HV3.re [2, 1, 0] rfl (by simp [putIn])))
      clear HV HV3 HW H2 v0 v1 H1 HC
      refine hK _ _ ?_
      try simp only [Act.put, List.setIfInBounds_toArray, List.set_cons_zero, List.set_cons_succ]
      refine Reg.wpX_nil ?_
      go_wp2
      go_ret
      exact ⟨rfl, HF.out⟩
  · rw [if_neg h] at HT
    rw [if_pos h]
    replace HT := Lib.hid HT
    have HH := Lib.hid H
    clear H hb h hf
    go_enter Try.func33, Try.ntmps33
    (go_wp2_with fail)
    refine (HT.out).mono ?_
    rintro e w' ⟨rfl, rfl⟩
    go_wp2
    go_ret
    exact ⟨rfl, HH.out⟩
/-- Without the empty ones at the end. -/
def trim (l : List (List UInt8)) : List (List UInt8) := (l.reverse.dropWhile (fun x => x.length == 0)).reverse
theorem trim_snoc (l : List (List UInt8)) (x : List UInt8) : trim (l ++ [x]) = if x.length = 0 then trim l else l ++ [x] := by
  unfold trim
  rw [List.reverse_append, List.reverse_singleton, List.singleton_append, List.dropWhile_cons]
  by_cases h : x.length = 0
  · rw [if_pos h, if_pos (by simpa using h)]
  · rw [if_neg h, if_neg (by simpa using h)]; simp
theorem trim_take {l : List (List UInt8)} {m : Nat} {x : List UInt8} (hx : l[m]? = some x) : trim (l.take (m + 1)) = if x.length = 0 then trim (l.take m) else l.take (m + 1) := by
  rw [take_succ hx, trim_snoc]
def lenAt (w : World) (p i : Nat) : Nat := match w.cell? ⟨p, i, none⟩ with
  | some (.slice _ n _) => n
  | _ => 0
def PageSt.drop (s : PageSt) (i : Int) : Int × PageSt := if (s.get i).1 = 0 then (0, { s with l := trim (s.l.set i.toNat []) }) else ((s.get i).1, s)
set_option maxRecDepth 100000 in
theorem pDrop_any (i : Int) (H : sat E w (page p s :: L)) (hf : s.fit) : Calls Try.prog 34 #[.pointer (some ⟨p, 0, none⟩), .int .i64 i] w fun e w' => e = .returned (.int .i64 (s.drop i).1) ∧ sat E w' (page p (s.drop i).2 :: L) := by
  have HG := pGet_any i H hf
  unfold PageSt.drop
  by_cases h : (s.get i).1 = 0
  · rw [if_pos h]
    rw [h] at HG
    replace HG := Lib.hid HG
    have hi : 0 ≤ i ∧ i < (s.l.length : Int) := by
      apply Classical.byContradiction
      intro hh
      unfold PageSt.get at h
      rw [if_neg hh] at h
      cases h
    obtain ⟨j, rfl⟩ := Int.eq_ofNat_of_zero_le hi.1
    obtain ⟨h0, hjl⟩ := hi
    have HJ : Hid (j < s.l.length) := by show _ < _; omega
    have lb : s.l.length ≤ 1048576 := hf.2.1
    have LB := Lib.hid lb
    rw [Int.toNat_natCast]
    clear H h hf lb
    go_enter Try.func34, Try.ntmps34
    go_wp2_with fail
    refine HG.out.mono ?_
    rintro e w1 ⟨x, -, rfl, H⟩
    have H1 := H.tail
    clear H HG
    obtain ⟨ss, A, c, hss, H⟩ := page_open H1
    obtain ⟨⟨SA, sn, sc, sl⟩, ex, el, eg⟩ := at_of hss HJ.out
    have hsl : ss.length = s.l.length := by rw [← hss, List.length_map]
    have c1 := H.cell 1
    obtain ⟨g, rfl⟩ := (H.pull1 : sat E _ (vec 30 Sec.v A s.l.length c ss :: _)).vaddr (by have := HJ.out; omega)
    have v0 : w1.cell? ⟨g, 0 + j, none⟩ = some (.slice SA sn sc) := (H.pull1 : sat E _ (vec 30 Sec.v _ s.l.length c ss :: _)).vcell ex
    have v1 := (H.pull1 : sat E _ (vec 30 Sec.v _ s.l.length c ss :: _)).vfrozen (by have := HJ.out; omega) j
    rw [Nat.zero_add] at v0
    have HV : sat E (w1.setCell ⟨g, j, none⟩ (.slice none 0 0)) (vec 30 Sec.v (some ⟨g, 0, none⟩) s.l.length c (ss.set j ⟨none, 0, 0, []⟩) :: _) := (H.pull1 : sat E _ (vec 30 Sec.v _ s.l.length c ss :: _)).vecSet HJ.out (⟨none, 0, 0, []⟩ : Sec)
    have HV2 := (HV.nilVec 5 B8).re [0, 3, 2, 1] rfl (by simp)
    have HV3 := sat.bagSet (s := ⟨none, 0, 0, []⟩) HV2 (i := j) (by rw [hsl]; exact HJ.out)
    have HV4 := Lib.hid (HV3.re [1, 2, 0] rfl (by simp [putIn]))
    obtain ⟨tt, ett⟩ : ∃ tt, tt = ss.set j ⟨none, 0, 0, []⟩ := ⟨_, rfl⟩
    have TT : Hid (tt.map Sec.l = s.l.set j [] ∧ tt.length = s.l.length) := ⟨by rw [ett, List.map_set, hss], by rw [ett, List.length_set]; exact hsl⟩
    rw [← ett] at HV4
    clear H H1 HV HV2 HV3 ex el eg hss hsl ett
    go_wp2_with fail
    go_loopw [] (fun wr => ∃ m : Nat, m ≤ s.l.length ∧ trim ((s.l.set j []).take m) = trim (s.l.set j []) ∧ sat E wr (blk p #[.int .i64 s.size, .slice (some ⟨g, 0, none⟩) m c] 125 :: vec 30 Sec.v (some ⟨g, 0, none⟩) m c (tt.take m) :: bag 5 (tt.take m) :: L)) (fun wr => lenAt wr p 1)
    case atStart => exact ⟨s.l.length, Nat.le_refl _, by rw [List.take_of_length_le (by simp)], by rw [List.take_of_length_le (by have := TT.out.2; omega)]; exact HV4.out⟩
    case round =>
      obtain ⟨m, hm, htr, H⟩ := hrel
      have HTR := Lib.hid htr
      have hcap : (m : Int) ≤ (c : Int) := by have := (H.pull1 : sat E _ (vec 30 Sec.v _ m c _ :: _)).cap; omega
      have HH := Lib.hid H
      clear HV4 htr H
      rcases m with _ | m
      · have HF := Lib.hid (page_shut (s := { s with l := trim (s.l.set j []) }) (ss := []) (by have := HTR.out; rw [List.take_zero] at this; rw [← this]; rfl) HH.out)
        go_wp2_with fail
        refine Reg.wp_region_s (HH.out) (fun W => W.cell? ⟨p, 1, none⟩ = some (.slice (some ⟨g, 0, none⟩) 0 c)) [3, 10, 14, 18] [] [0, 1, 2, 3, 4, 5, 6, 7, 8, 9, 10, 11, 12, 13, 14, 15, 16, 17, 18, 19, 20, 21] (by kernel_rfl) (by kernel_rfl) (fun W HW => HW.cell 1) (fun W HW => ?_)
        simp only [Reg.pickOps, List.map_cons, List.map_nil, List.getD_cons_zero, List.getD_cons_succ, List.contains_cons, List.contains_nil, Nat.reduceBEq, Bool.or_false, Bool.or_true, Bool.or_self]
        iterate 3 (refine Reg.wpX_y (v := ?_) (fun w' => ?_) rfl ?_; rotate_left 1; focus (go_simp; (try with_reducible rfl)))
        (refine Reg.wpX_l (v := ?_) rfl (fun w' hw => ?_) rfl ?_; rotate_left 1; focus ((try dsimp only at hw); go_split_ands; go_simp; (try with_reducible rfl)))
        iterate 3 (refine Reg.wpX_y (v := ?_) (fun w' => ?_) rfl ?_; rotate_left 1; focus (go_simp; (try with_reducible rfl)))
        (refine Reg.wpX_off (by kernel_rfl) ?_)
        try simp only [Act.put, List.setIfInBounds_toArray, List.set_cons_zero, List.set_cons_succ]
        iterate 8 (refine Reg.wpX_off (by kernel_rfl) ?_)
        try simp only [Act.put, List.setIfInBounds_toArray, List.set_cons_zero, List.set_cons_succ]
        iterate 5 (refine Reg.wpX_off (by kernel_rfl) ?_)
        (refine Reg.wpX_y (v := ?_) (fun w' => ?_) rfl ?_; rotate_left 1; focus (go_simp; (try with_reducible rfl)))
        try simp only [Act.put, List.setIfInBounds_toArray, List.set_cons_zero, List.set_cons_succ]
        refine Reg.wpX_nil ?_
        have HF := Lib.hid (page_shut (s := { s with l := trim (s.l.set j []) }) (ss := []) (by have := HTR.out; rw [List.take_zero] at this; rw [← this]; rfl) HW)
        clear HW HH
        go_wp2
        go_ret
        exact ⟨rfl, HF.out⟩
      · obtain ⟨⟨SA, sn, sc, sl⟩, ex⟩ : ∃ x, tt[m]? = some x := ⟨_, List.getElem?_eq_getElem (by have := TT.out.2; omega)⟩
        have el : (s.l.set j [])[m]? = some sl := by rw [← TT.out.1, List.getElem?_map, ex]; rfl
        have e2 : (tt.take (m + 1))[m]? = some ⟨SA, sn, sc, sl⟩ := by rw [List.getElem?_take, if_pos (by omega)]; exact ex
        have hln : sl.length = sn := sat.len (HH.out.pull2.bagGet e2)
        have ht2 := trim_take el
        have E2 := Lib.hid e2
        have CC : Hid (∀ W R, sat E W (blk p #[.int .i64 s.size, .slice (some ⟨g, 0, none⟩) (m + 1) c] 125 :: vec 30 Sec.v (some ⟨g, 0, none⟩) (m + 1) c (tt.take (m + 1)) :: R) → W.cell? ⟨p, 1, none⟩ = some (.slice (some ⟨g, 0, none⟩) (m + 1) c) ∧ W.cell? ⟨g, m, none⟩ = some (.slice SA sn sc)) := fun W R h => by
          have v0 : W.cell? ⟨g, 0 + m, none⟩ = some (.slice SA sn sc) := h.pull1.vcell E2.out
          rw [Nat.zero_add] at v0
          exact ⟨h.cell 1, v0⟩
        have mb : (m : Int) < 1048576 := by have := LB.out; omega
        have m0 : (0 : Int) ≤ (m : Int) := by omega
        have ew : IntKind.i64.wrap (m : Int) = (m : Int) := by rw [IntKind.wrap_i64]; omega
        have m1 : (0 : Int) < (m : Int) + 1 := by omega
        have m2 : (m : Int) < (m : Int) + 1 := by omega
        have hcap2 : (m : Int) ≤ (c : Int) := by omega
        by_cases hz : sl.length = 0
        · have t : ((sn : Int) == 0) = true := by rw [← hln, hz]; rfl
          rw [if_pos hz] at ht2
          have HT2 := Lib.hid (ht2.symm.trans HTR.out)
          clear ex el e2 hln ht2 hz
          go_wp2_with fail
          refine Reg.wp_region_s (HH.out) (fun W => W.cell? ⟨p, 1, none⟩ = some (.slice (some ⟨g, 0, none⟩) (m + 1) c) ∧ W.cell? ⟨g, m, none⟩ = some (.slice SA sn sc)) [3, 10, 14, 18] [] [0, 1, 2, 3, 4, 5, 6, 7, 8, 9, 10, 11, 12, 13, 14, 15, 16, 17, 18, 19, 20, 21] (by kernel_rfl) (by kernel_rfl) (fun W HW => CC.out W _ HW) (fun W HW => ?_)
          simp only [Reg.pickOps, List.map_cons, List.map_nil, List.getD_cons_zero, List.getD_cons_succ, List.contains_cons, List.contains_nil, Nat.reduceBEq, Bool.or_false, Bool.or_true, Bool.or_self]
          iterate 3 (refine Reg.wpX_y (v := ?_) (fun w' => ?_) rfl ?_; rotate_left 1; focus (go_simp; (try with_reducible rfl)))
          (refine Reg.wpX_l (v := ?_) rfl (fun w' hw => ?_) rfl ?_; rotate_left 1; focus ((try dsimp only at hw); go_split_ands; go_simp; (try with_reducible rfl)))
          iterate 3 (refine Reg.wpX_y (v := ?_) (fun w' => ?_) rfl ?_; rotate_left 1; focus (go_simp; (try with_reducible rfl)))
          (refine Reg.wpX_y (v := ?_) (fun w' => ?_) (by kernel_rfl) ?_; rotate_left 1; focus (go_simp; (try with_reducible rfl)))
          try simp only [Act.put, List.setIfInBounds_toArray, List.set_cons_zero, List.set_cons_succ]
          iterate 2 (refine Reg.wpX_y (v := ?_) (fun w' => ?_) (by kernel_rfl) ?_; rotate_left 1; focus (go_simp; (try with_reducible rfl)))
          (refine Reg.wpX_l (v := ?_) rfl (fun w' hw => ?_) (by kernel_rfl) ?_; rotate_left 1; focus ((try dsimp only at hw); go_split_ands; go_simp; (try with_reducible rfl)))
          iterate 3 (refine Reg.wpX_y (v := ?_) (fun w' => ?_) (by kernel_rfl) ?_; rotate_left 1; focus (go_simp; (try with_reducible rfl)))
          (refine Reg.wpX_l (v := ?_) rfl (fun w' hw => ?_) (by kernel_rfl) ?_; rotate_left 1; focus ((try dsimp only at hw); go_split_ands; go_simp; (try with_reducible rfl)))
          (refine Reg.wpX_y (v := ?_) (fun w' => ?_) (by kernel_rfl) ?_; rotate_left 1; focus (go_simp; (try with_reducible rfl)))
          try simp only [Act.put, List.setIfInBounds_toArray, List.set_cons_zero, List.set_cons_succ]
          iterate 2 (refine Reg.wpX_y (v := ?_) (fun w' => ?_) (by kernel_rfl) ?_; rotate_left 1; focus (go_simp; (try with_reducible rfl)))
          (refine Reg.wpX_l (v := ?_) rfl (fun w' hw => ?_) (by kernel_rfl) ?_; rotate_left 1; focus ((try dsimp only at hw); go_split_ands; go_simp; (try with_reducible rfl)))
          iterate 2 (refine Reg.wpX_y (v := ?_) (fun w' => ?_) (by kernel_rfl) ?_; rotate_left 1; focus (go_simp; (try with_reducible rfl)))
          (refine Reg.wpX_y (v := ?_) (fun w' => ?_) rfl ?_; rotate_left 1; focus (go_simp; (try with_reducible rfl)))
          try simp only [Act.put, List.setIfInBounds_toArray, List.set_cons_zero, List.set_cons_succ]
          refine Reg.wpX_nil ?_
          have H2 := Lib.hid HW
          clear HW
          go_wp2_with fail
          refine Reg.wp_region_s (H2.out) (fun W => W.cell? ⟨p, 1, none⟩ = some (.slice (some ⟨g, 0, none⟩) (m + 1) c)) [4, 8] [14] [0, 1, 2, 3, 4, 5, 6, 7, 8, 9, 10, 11, 12, 13, 14] (by kernel_rfl) (by kernel_rfl) (fun W HW => HW.cell 1) (fun W HW => ?_)
          simp only [Reg.pickOps, List.map_cons, List.map_nil, List.getD_cons_zero, List.getD_cons_succ, List.contains_cons, List.contains_nil, Nat.reduceBEq, Bool.or_false, Bool.or_true, Bool.or_self]
          iterate 4 (refine Reg.wpX_y (v := ?_) (fun w' => ?_) rfl ?_; rotate_left 1; focus (go_simp; (try with_reducible rfl)))
          (refine Reg.wpX_l (v := ?_) rfl (fun w' hw => ?_) rfl ?_; rotate_left 1; focus ((try dsimp only at hw); go_split_ands; go_simp; (try with_reducible rfl)))
          iterate 3 (refine Reg.wpX_y (v := ?_) (fun w' => ?_) rfl ?_; rotate_left 1; focus (go_simp; (try with_reducible rfl)))
          (refine Reg.wpX_l (v := ?_) rfl (fun w' hw => ?_) rfl ?_; rotate_left 1; focus ((try dsimp only at hw); go_split_ands; go_simp; (try with_reducible rfl)))
          iterate 5 (refine Reg.wpX_y (v := ?_) (fun w' => ?_) rfl ?_; rotate_left 1; focus (go_simp; (try with_reducible rfl)))
          try simp only [Act.put, List.setIfInBounds_toArray, List.set_cons_zero, List.set_cons_succ]
          have f1 := HW.frozen 1
          have c1 := HW.cell 1
          refine Reg.wpX_last rfl (by kernel_rfl) (fun K hK => ?_)
          go_simp
          have H3 := HW.setCell 1 (.slice (some ⟨g, 0, none⟩) m c)
          have H4 := ((H3.pull1 : sat E _ (vec 30 Sec.v (some ⟨g, 0, none⟩) (m + 1) c (tt.take (m + 1)) :: _)).vecShort (k := m) (by omega)).re [2, 0, 1] rfl (by simp)
          have H5 := (sat.bagTake H4 m).re [2, 1, 0] rfl (by simp)
          have ett : (tt.take (m + 1)).take m = tt.take m := by rw [List.take_take]; congr 1; omega
          have H6 : sat E (W.setCell ⟨p, 1, none⟩ (.slice (some ⟨g, 0, none⟩) m c)) (blk p #[.int .i64 s.size, .slice (some ⟨g, 0, none⟩) m c] 125 :: vec 30 Sec.v (some ⟨g, 0, none⟩) m c (tt.take m) :: bag 5 (tt.take m) :: L) := by
            rw [← ett]; exact H5
          have HF := Lib.hid H6
          have la1 : Hid (lenAt wr p 1 = m + 1) := by show _ = _; unfold lenAt; rw [HH.out.cell 1]; rfl
          have la2 : Hid (lenAt (W.setCell ⟨p, 1, none⟩ (.slice (some ⟨g, 0, none⟩) m c)) p 1 = m) := by show _ = _; unfold lenAt; rw [H6.cell 1]; rfl
          clear H3 H4 H5 H6 HW H2 HH f1 c1 ett
          refine hK _ _ ?_
          try simp only [Act.put, List.setIfInBounds_toArray, List.set_cons_zero, List.set_cons_succ]
          refine Reg.wpX_nil ?_
          go_wp2
          go_roundw
          case rel => exact ⟨m, by omega, HT2.out, HF.out⟩
          case measure => rw [la1.out, la2.out]; omega
        · have t : ((sn : Int) == 0) = false := by rw [beq_eq_false_iff_ne]; omega
          rw [if_neg hz] at ht2
          have HT2 := Lib.hid (ht2.symm.trans HTR.out)
          clear ex el e2 hln ht2 hz
          go_wp2_with fail
          refine Reg.wp_region_s (HH.out) (fun W => W.cell? ⟨p, 1, none⟩ = some (.slice (some ⟨g, 0, none⟩) (m + 1) c) ∧ W.cell? ⟨g, m, none⟩ = some (.slice SA sn sc)) [3, 10, 14, 18] [] [0, 1, 2, 3, 4, 5, 6, 7, 8, 9, 10, 11, 12, 13, 14, 15, 16, 17, 18, 19, 20, 21] (by kernel_rfl) (by kernel_rfl) (fun W HW => CC.out W _ HW) (fun W HW => ?_)
          simp only [Reg.pickOps, List.map_cons, List.map_nil, List.getD_cons_zero, List.getD_cons_succ, List.contains_cons, List.contains_nil, Nat.reduceBEq, Bool.or_false, Bool.or_true, Bool.or_self]
          iterate 3 (refine Reg.wpX_y (v := ?_) (fun w' => ?_) rfl ?_; rotate_left 1; focus (go_simp; (try with_reducible rfl)))
          (refine Reg.wpX_l (v := ?_) rfl (fun w' hw => ?_) rfl ?_; rotate_left 1; focus ((try dsimp only at hw); go_split_ands; go_simp; (try with_reducible rfl)))
          iterate 3 (refine Reg.wpX_y (v := ?_) (fun w' => ?_) rfl ?_; rotate_left 1; focus (go_simp; (try with_reducible rfl)))
          (refine Reg.wpX_y (v := ?_) (fun w' => ?_) (by kernel_rfl) ?_; rotate_left 1; focus (go_simp; (try with_reducible rfl)))
          try simp only [Act.put, List.setIfInBounds_toArray, List.set_cons_zero, List.set_cons_succ]
          iterate 2 (refine Reg.wpX_y (v := ?_) (fun w' => ?_) (by kernel_rfl) ?_; rotate_left 1; focus (go_simp; (try with_reducible rfl)))
          (refine Reg.wpX_l (v := ?_) rfl (fun w' hw => ?_) (by kernel_rfl) ?_; rotate_left 1; focus ((try dsimp only at hw); go_split_ands; go_simp; (try with_reducible rfl)))
          iterate 3 (refine Reg.wpX_y (v := ?_) (fun w' => ?_) (by kernel_rfl) ?_; rotate_left 1; focus (go_simp; (try with_reducible rfl)))
          (refine Reg.wpX_l (v := ?_) rfl (fun w' hw => ?_) (by kernel_rfl) ?_; rotate_left 1; focus ((try dsimp only at hw); go_split_ands; go_simp; (try with_reducible rfl)))
          (refine Reg.wpX_y (v := ?_) (fun w' => ?_) (by kernel_rfl) ?_; rotate_left 1; focus (go_simp; (try with_reducible rfl)))
          try simp only [Act.put, List.setIfInBounds_toArray, List.set_cons_zero, List.set_cons_succ]
          iterate 2 (refine Reg.wpX_y (v := ?_) (fun w' => ?_) (by kernel_rfl) ?_; rotate_left 1; focus (go_simp; (try with_reducible rfl)))
          (refine Reg.wpX_l (v := ?_) rfl (fun w' hw => ?_) (by kernel_rfl) ?_; rotate_left 1; focus ((try dsimp only at hw); go_split_ands; go_simp; (try with_reducible rfl)))
          iterate 2 (refine Reg.wpX_y (v := ?_) (fun w' => ?_) (by kernel_rfl) ?_; rotate_left 1; focus (go_simp; (try with_reducible rfl)))
          (refine Reg.wpX_y (v := ?_) (fun w' => ?_) rfl ?_; rotate_left 1; focus (go_simp; (try with_reducible rfl)))
          try simp only [Act.put, List.setIfInBounds_toArray, List.set_cons_zero, List.set_cons_succ]
          refine Reg.wpX_nil ?_
          have HF := Lib.hid (page_shut (s := { s with l := trim (s.l.set j []) }) (by rw [List.map_take, TT.out.1]; exact HT2.out) HW)
          clear HW HH
          go_wp2
          go_ret
          exact ⟨rfl, HF.out⟩
  · rw [if_neg h]
    have HH := Lib.hid H
    have t : ((s.get i).1 == (0 : Int)) = false := by rw [beq_eq_false_iff_ne]; exact h
    replace HG := Lib.hid HG
    clear H h hf
    go_enter Try.func34, Try.ntmps34
    go_wp2_with fail
    refine HG.out.mono ?_
    rintro e w1 ⟨x, -, rfl, H⟩
    have H1 := Lib.hid H.tail
    clear H HG
    go_wp2
    go_ret
    exact ⟨rfl, H1.out⟩
end
end Go.Proofs.Ytbkjkiaicaopoaa.Pg
