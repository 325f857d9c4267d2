/-
  LoadDraws, its walk: of any number and any limits what is drawn is what the reference says. Condition: the limits take at most 2^47 - 4096 bytes (the form's own reach).
-/
import Derived.Test.YtafohemmjhjgbaaProg
import Derived.Test.YtafohemmjhjgbaaSlice
import Derived.KernelRfl
import Derived.RowKit3
import Derived.WalkSpells
import Derived.LoopTactic
import Derived.Deep.QuietTactic
import Derived.BigQuiet
import Derived.Laws.Bits64
namespace Go.Proofs.Ytafohemmjhjgbaa.Load
open Go.RowKit Go.Proofs.Ytafohemmjhjgbaa

/-- The source's next state; what is drawn below n. -/
def nx (s : Int) : Int := (s * 6364136223846793005 + 1442695040888963407) % 18446744073709551616
def dr (s n : Int) : Int := nx s / 8589934592 % n
def one (s n : Int) : Int := if 0 < n then dr s n else 0
def go (s n : Int) : Int := if 0 < n then nx s else s
def draws : Int → List Int → List Int
  | _, [] => []
  | s, n :: l => one s n :: draws (go s n) l
def after : Int → List Int → Int
  | s, [] => s
  | s, n :: l => after (go s n) l
theorem nx_bd (s : Int) : 0 ≤ nx s ∧ nx s < 18446744073709551616 := by unfold nx; omega
theorem draws_snoc (l : List Int) : ∀ s n, draws s (l ++ [n]) = draws s l ++ [one (after s l) n] := by
  induction l with
  | nil => intro s n; rfl
  | cons m l ih => intro s n; show one s m :: draws (go s m) (l ++ [n]) = _; rw [ih]; rfl
theorem after_snoc (l : List Int) : ∀ s n, after s (l ++ [n]) = go (after s l) n := by
  induction l with
  | nil => intro s n; rfl
  | cons m l ih => intro s n; show after (go s m) (l ++ [n]) = _; rw [ih]; rfl
theorem draws_len (l : List Int) : ∀ s, (draws s l).length = l.length := by
  induction l with
  | nil => intro s; rfl
  | cons m l ih => intro s; show (draws (go s m) l).length + 1 = l.length + 1; rw [ih]

theorem ret_int {k : IntKind} {a b : Int} (h : a = b) : Ending.returned (.int k a) = .returned (.int k b) := by rw [h]
theorem ret_two {k l : IntKind} {a b c d : Int} (h : a = b) (h2 : c = d) : Ending.returned (.tuple #[.int k a, .int l c]) = .returned (.tuple #[.int k b, .int l d]) := by rw [h, h2]
theorem Int.emod_le_self' {a : Int} (n : Int) (ha : 0 ≤ a) (hn : 0 ≤ n) : a % n ≤ a := by
  have h1 := Int.mul_ediv_add_emod a n
  have h2 := Int.ediv_nonneg ha hn
  have h3 := Int.mul_nonneg hn h2
  omega

theorem draw_any (g : Nat) (s n : Int) (w : World) (hc : w.cell? ⟨g, 0, none⟩ = some (.int .u64 s)) (hf : w.frozen? ⟨g, 0, none⟩ = false) (hn : 1 ≤ n) (hn2 : n ≤ 9223372036854775807) :
    Calls Try.prog 65 #[.pointer (some ⟨g, 0, none⟩), .int .i64 n] w fun e w' => e = .returned (.int .i64 (dr s n)) ∧ w.setCell ⟨g, 0, none⟩ (.int .u64 (nx s)) = w' := by
  have E : Hid (wrap64 ((IntKind.u64.wrap (IntKind.u64.wrap (s * 6364136223846793005) + 1442695040888963407) / 8589934592).tmod n) = dr s n) := by
    show _ = _
    rw [IntKind.wrap_u64, IntKind.wrap_u64]
    have e : (s * 6364136223846793005 % 18446744073709551616 + 1442695040888963407) % 18446744073709551616 = nx s := by unfold nx; omega
    have b := nx_bd s
    rw [e, Int.tmod_eq_emod_of_nonneg (by omega)]
    have h0 := Int.emod_nonneg (nx s / 8589934592) (by omega : n ≠ 0)
    have h1 : nx s / 8589934592 % n ≤ nx s / 8589934592 := Int.emod_le_self' n (by omega) (by omega)
    unfold wrap64 dr
    omega
  have E2 : Hid (IntKind.u64.wrap (IntKind.u64.wrap (s * 6364136223846793005) + 1442695040888963407) = nx s) := by
    show _ = _
    rw [IntKind.wrap_u64, IntKind.wrap_u64]; unfold nx; omega
  go_enter Try.func65, Try.ntmps65
  go_wp2
  go_ret
  exact ⟨ret_int E.out, by rw [E2.out]⟩

theorem infoI : (Try.prog.info? 3).map (fun i => (i.zero, i.size, i.bytes)) = some (some (.int .i64 0), 1, 8) := by kernel_rfl

set_option maxRecDepth 100000 in
/-- Draw, over a list of limits that came in. -/
theorem Draw_any (s : Int) (A : Option Addr) (c : Nat) (l : List Int) (w : World) (hl : Sl (Value.int .i64) w A l) (hwf : ∀ n ∈ l, n ≤ 9223372036854775807) (hreach : l.length * 8 ≤ 140737488351232) :
    Calls Try.prog 15 #[.int .u64 s, .slice A l.length c] w fun e w' => ∃ v, e = .returned v ∧ w'.ownsRow (w.heap.size + 1) 3 1 v l.length ((draws s l).map (Value.int .i64)) ∧ Below w.heap.size w w' := by
  have hm : l.length ≤ 9223372036854775807 := by omega
  go_enter Try.func15, Try.ntmps15
  go_wp2
  go_loopw [6, 15] (fun v i wr => ∃ k : Nat, k ≤ l.length ∧ i = .int .i64 k ∧ wr.ownsRow (w.heap.size + 1) 3 1 v ((draws s (l.take k)).map (Value.int .i64)).length ((draws s (l.take k)).map (Value.int .i64)) ∧
      wr.cell? ⟨w.heap.size, 0, none⟩ = some (.int .u64 (after s (l.take k))) ∧ wr.frozen? ⟨w.heap.size, 0, none⟩ = false ∧ Below w.heap.size w wr ∧ w.heap.size + 1 ≤ wr.heap.size) (fun _ i _ => l.length - (intOf i).toNat)
  case atStart => exact ⟨0, Nat.zero_le _, rfl, by simpa [draws] using World.ownsRow_nil _ _ _ _, by simp [after], by simp, (Below.refl _ _).alloc (Nat.le_refl _) _, by simp⟩
  case round =>
    obtain ⟨k, hk, rfl, hown, hcs, hfs, hb, hsz⟩ := hrel
    by_cases hlt : k < l.length
    · obtain ⟨n, hn⟩ : ∃ n, l[k]? = some n := ⟨_, List.getElem?_eq_getElem hlt⟩
      obtain ⟨b, o, rfl, hbl, hce⟩ := (hl.below hb).cell hn
      have hn2 := hwf n (List.mem_of_getElem? hn)
      obtain ⟨ls, hls⟩ : ∃ ls, l.take k = ls := ⟨_, rfl⟩
      have hsn : l.take (k + 1) = ls ++ [n] := by rw [List.take_add_one, hn, hls]; rfl
      have hll : ls.length = k := by rw [← hls]; simp; omega
      have hdl : ((draws s ls).map (Value.int .i64)).length = k := by rw [List.length_map, draws_len, hll]
      rw [hls] at hown hcs
      obtain ⟨s', hs'⟩ : ∃ x, after s ls = x := ⟨_, rfl⟩
      rw [hs'] at hcs
      have HSN := Lib.hid hsn
      have HDL := Lib.hid hdl
      have HDL2 : Hid ((draws s ls).length = k) := by show _ = _; rw [draws_len, hll]
      have HS' := Lib.hid hs'
      have HOWN := Lib.hid hown
      clear hsn hdl hs' hown hn hls hll hl
      by_cases hpos : 0 < n
      · have D := Lib.hid (fun w' hc hf => draw_any w.heap.size s' n w' hc hf hpos hn2)
        go_wp2_with fail
        refine (D.out _ hcs hfs).mono ?_
        rintro e w1 ⟨rfl, rfl⟩
        have hown1 := Lib.hid (ownsRow_setCell_below HOWN.out (a := ⟨w.heap.size, 0, none⟩) (by simp) (.int .u64 (nx s')))
        go_wp2_with (at_builtin; go_must (refine wpList_append_one rfl (.tmp 24) (.tmp 26) 23 rfl (w.heap.size + 1) infoI Try.underlying23 rfl hown1.out rfl rfl (by simp) rfl ?c1 ?c2 ?c3 ?_))
        case c1 => have h1 := HDL.out; have h2 := HDL2.out; unfold maxLen; omega
        case c2 => have h1 := HDL.out; have h2 := HDL2.out; omega
        case c3 => simpa using hsz
        intro v' w1 hown2 hgrow hat
        have hcs1 := cell_behind hown1.out hgrow (b := w.heap.size) (i := 0) (u := .int .u64 (nx s')) (by omega) (World.cell?_setCell_same' _ _ _ (by rw [hcs]; rfl))
        have hfs1 := (frozen_behind hown1.out hgrow (b := w.heap.size) (i := 0) (by omega) (by simp; omega)).trans (by simpa using hfs)
        have hb1 := below_behind (hb.setCell (p := ⟨w.heap.size, 0, none⟩) (Nat.le_refl _) (.int .u64 (nx s'))) hown1.out hgrow (by omega) (by simp; omega)
        have hsz1 : w.heap.size + 1 ≤ w1.heap.size := by have := hgrow.size; simp at this; omega
        have hg1 : go s' n = nx s' := by unfold go; rw [if_pos hpos]
        have ho1 : one s' n = dr s' n := by unfold one; rw [if_pos hpos]
        have HF : Hid (w1.ownsRow (w.heap.size + 1) 3 1 v' ((draws s (l.take (k + 1))).map (Value.int .i64)).length ((draws s (l.take (k + 1))).map (Value.int .i64))) := by
          show World.ownsRow _ _ _ _ _ _ _
          rw [HSN.out, draws_snoc, HS'.out, ho1, List.map_append]
          simpa using hown2
        have HA : Hid (after s (l.take (k + 1)) = nx s') := by show _ = _; rw [HSN.out, after_snoc, HS'.out, hg1]
        clear hown2 hgrow hat hg1 ho1 D hcs hfs HOWN hown1
        go_wp2
        go_roundw
        case rel => exact ⟨k + 1, by omega, by go_num, HF.out, by rw [HA.out]; exact hcs1, hfs1, hb1, hsz1⟩
        case measure => simp [intOf]; omega
      · have hsz0 : w.heap.size < wr.heap.size := by omega
        go_wp2_with (at_builtin; go_must (refine wpList_append_one rfl (.tmp 24) (.tmp 26) 23 rfl (w.heap.size + 1) infoI Try.underlying23 rfl HOWN.out rfl rfl (by simp) rfl ?c1 ?c2 ?c3 ?_))
        case c1 => have h1 := HDL.out; have h2 := HDL2.out; unfold maxLen; omega
        case c2 => have h1 := HDL.out; have h2 := HDL2.out; omega
        intro v' w1 hown2 hgrow hat
        have hcs1 := cell_behind HOWN.out hgrow (b := w.heap.size) (i := 0) (by omega) hcs
        have hfs1 := (frozen_behind HOWN.out hgrow (b := w.heap.size) (i := 0) (by omega) (by omega)).trans hfs
        have hb1 := below_behind hb HOWN.out hgrow (by omega) (by omega)
        have hsz1 : w.heap.size + 1 ≤ w1.heap.size := by have := hgrow.size; omega
        have hg1 : go s' n = s' := by unfold go; rw [if_neg (by omega)]
        have ho1 : one s' n = 0 := by unfold one; rw [if_neg (by omega)]
        have HF : Hid (w1.ownsRow (w.heap.size + 1) 3 1 v' ((draws s (l.take (k + 1))).map (Value.int .i64)).length ((draws s (l.take (k + 1))).map (Value.int .i64))) := by
          show World.ownsRow _ _ _ _ _ _ _
          rw [HSN.out, draws_snoc, HS'.out, ho1, List.map_append]
          simpa using hown2
        have HA : Hid (after s (l.take (k + 1)) = s') := by show _ = _; rw [HSN.out, after_snoc, HS'.out, hg1]
        clear hown2 hgrow hat hg1 ho1 hcs hfs HOWN
        go_wp2
        go_roundw
        case rel => exact ⟨k + 1, by omega, by go_num, HF.out, by rw [HA.out]; exact hcs1, hfs1, hb1, hsz1⟩
        case measure => simp [intOf]; omega
    · obtain rfl : k = l.length := by omega
      have HF : Hid (wr.ownsRow (w.heap.size + 1) 3 1 u6 l.length ((draws s l).map (Value.int .i64))) := by
        show World.ownsRow _ _ _ _ _ _ _
        have := hown
        rw [List.take_length, List.length_map, draws_len] at this
        exact this
      clear hown hcs hfs
      go_wp2
      go_ret
      exact ⟨_, rfl, HF.out, hb⟩

theorem Next_any (s n : Int) (w : World) (hn : 1 ≤ n) (hn2 : n ≤ 9223372036854775807) :
    Calls Try.prog 16 #[.int .u64 s, .int .i64 n] w fun e w' => e = .returned (.tuple #[.int .u64 (nx s), .int .i64 (dr s n)]) ∧ ∃ nq, w' = w.drewN nq := by
  have hb := nx_bd s
  have hx : 0 ≤ nx s / 8589934592 ∧ nx s / 8589934592 < 2147483648 := by omega
  have E : Hid (wrap64 (nx s / 8589934592 % n) = dr s n) := by
    show _ = _
    have h0 := Int.emod_nonneg (nx s / 8589934592) (by omega : n ≠ 0)
    have h1 : nx s / 8589934592 % n ≤ nx s / 8589934592 := Int.emod_le_self' n (by omega) (by omega)
    unfold wrap64 dr
    omega
  have E2 : Hid (IntKind.u64.wrap (IntKind.u64.wrap (s * 6364136223846793005) + 1442695040888963407) = nx s) := by
    show _ = _
    rw [IntKind.wrap_u64, IntKind.wrap_u64]; unfold nx; omega
  obtain ⟨hb1, hb2⟩ := hb
  obtain ⟨hx1, hx2⟩ := hx
  have hn0 : (n == 0) = false := by simp; omega
  go_enter Try.func16, Try.ntmps16
  go_wp2
  rw [E2.out]
  generalize hT : nx s = t at *
  have HT := Lib.hid hT
  clear hT
  go_quiet (fail)
  go_wp2
  go_ret2
  exact ⟨ret_two HT.out.symm E.out, _, rfl⟩

theorem draws_get (l : List Int) : ∀ (s : Int) (k : Nat) (n : Int), l[k]? = some n → (draws s l)[k]? = some (one (after s (l.take k)) n) := by
  induction l with
  | nil => intro s k n h; simp at h
  | cons m l ih =>
    intro s k n h
    cases k with
    | zero => simp only [List.getElem?_cons_zero, Option.some.injEq] at h; subst h; rfl
    | succ k => simp only [List.getElem?_cons_succ] at h; exact ih (go s m) k n h

theorem awake_any (w : World) : Calls Try.prog 14 #[] w fun e w' => e = .returned (.bool true) ∧ Below w.heap.size w w' := by
  have hl : ∀ W : World, Sl (Value.int .i64) (W.alloc (.cells #[.int .i64 1000] 3)) (some ⟨W.heap.size, 0, none⟩) [1000] := by
    intro W _
    refine ⟨_, _, rfl, by simp, fun i x hi => ?_⟩
    match i, hi with
    | 0, hi => simp at hi; subst hi; simp
  have D := Lib.hid (fun (W : World) c => Draw_any 0 _ c [1000] _ (hl W) (by simp) (by simp))
  have hd : draws 0 [1000] = [807] := by decide
  rw [hd] at D
  clear hl hd
  go_enter Try.func14, Try.ntmps14
  go_wp2_with fail
  refine (D.out w 1).mono ?_
  rintro e w1 ⟨v, rfl, hown, hb⟩
  obtain ⟨A, c, rfl⟩ := own_form hown
  obtain ⟨b, o, rfl, hlt, hc⟩ := (Sl.of_own hown).cell (i := 0) (x := 807) rfl
  simp only [Nat.add_zero] at hc
  clear hown
  go_wp2
  go_ret
  exact ⟨rfl, ((Below.refl _ _).alloc (Nat.le_refl _) _).trans (hb.mono (by simp))⟩

set_option maxRecDepth 100000 in
theorem law_any (s : Int) (A : Option Addr) (c : Nat) (l : List Int) (w : World) (hl : Sl (Value.int .i64) w A l) (hwf : ∀ n ∈ l, n ≤ 9223372036854775807) (hreach : l.length * 8 ≤ 140737488351232) :
    Calls Try.prog 3 #[.int .u64 s, .slice A l.length c] w fun e w' => e = .returned (.bool true) ∧ Below w.heap.size w w' := by
  have hm : l.length ≤ 9223372036854775807 := by omega
  have AW := Lib.hid awake_any
  have D := Lib.hid (fun W hl => Draw_any s A c l W hl hwf hreach)
  by_cases h200 : 200 < l.length
  · go_enter Try.func3, Try.ntmps3
    go_wp2_with fail
    refine (AW.out _).mono ?_
    rintro e w1 ⟨rfl, hb1⟩
    go_wp2
    go_ret
    exact ⟨rfl, hb1⟩
  · have h2 : ¬ (200 : Int) < (l.length : Int) := by omega
    go_enter Try.func3, Try.ntmps3
    go_wp2_with fail
    refine (AW.out _).mono ?_
    rintro e w1 ⟨rfl, hb1⟩
    have hl1 := hl.below hb1
    go_wp2_with fail
    refine (D.out _ hl1).mono ?_
    rintro e w2 ⟨v, rfl, hown, hb2⟩
    have hl2 := hl1.below hb2
    obtain ⟨Ad, cd, rfl⟩ := own_form hown
    have hd := Sl.of_own hown
    clear hown hl hl1
    go_wp2
    go_loopw [0, 6] (fun s0 i wr => ∃ k : Nat, k ≤ l.length ∧ i = .int .i64 k ∧ s0 = .int .u64 (after s (l.take k)) ∧ Below w2.heap.size w2 wr) (fun _ i _ => l.length - (intOf i).toNat)
    case atStart => exact ⟨0, Nat.zero_le _, rfl, by simp [after], Below.refl _ _⟩
    case round =>
      obtain ⟨k, hk, rfl, rfl, hb⟩ := hrel
      by_cases hlt : k < l.length
      · obtain ⟨n, hn⟩ : ∃ n, l[k]? = some n := ⟨_, List.getElem?_eq_getElem hlt⟩
        obtain ⟨b1, o1, rfl, _, hc1⟩ := (hl2.below hb).cell hn
        obtain ⟨b2, o2, rfl, _, hc2⟩ := (hd.below hb).cell (draws_get l s k n hn)
        have hn2 := hwf n (List.mem_of_getElem? hn)
        have hsn : l.take (k + 1) = l.take k ++ [n] := by rw [List.take_add_one, hn]; rfl
        have HSN : Hid (after s (l.take (k + 1)) = go (after s (l.take k)) n) := by show _ = _; rw [hsn, after_snoc]
        generalize after s (l.take k) = s' at *
        clear hn hsn hl2 hd
        by_cases hpos : 0 < n
        · have ho1 : one s' n = dr s' n := by unfold one; rw [if_pos hpos]
          have hg1 : go s' n = nx s' := by unfold go; rw [if_pos hpos]
          rw [ho1] at hc2
          rw [hg1] at HSN
          clear ho1 hg1
          have N := Lib.hid (fun W => Next_any s' n W hpos hn2)
          go_wp2_with fail
          refine (N.out _).mono ?_
          rintro e w' ⟨rfl, nq, rfl⟩
          go_wp2
          go_roundw
          case rel => exact ⟨k + 1, by omega, by go_num, by rw [HSN.out], below_drewN hb _⟩
          case measure => simp [intOf]; omega
        · have ho1 : one s' n = 0 := by unfold one; rw [if_neg hpos]
          have hg1 : go s' n = s' := by unfold go; rw [if_neg hpos]
          rw [ho1] at hc2
          rw [hg1] at HSN
          clear ho1 hg1
          go_wp2
          go_roundw
          case rel => exact ⟨k + 1, by omega, by go_num, by rw [HSN.out], hb⟩
          case measure => simp [intOf]; omega
      · obtain rfl : k = l.length := by omega
        go_wp2
        go_ret
        exact ⟨rfl, (hb1.trans (hb2.mono hb1.size)).trans (hb.mono (Nat.le_trans hb1.size hb2.size))⟩

theorem law_row (s : Int) (A : Option Addr) (c : Nat) (l : List Int) (w : World) (_hs : (Lit.int .u64 s).wf = true) (_hc : l.length ≤ c) (hl : Sl (Value.int .i64) w A l) (hwf : ∀ n ∈ l, (Lit.int .i64 n).wf = true) (hreach : l.length * 8 ≤ 140737488351232) :
    Calls Try.prog 3 #[.int .u64 s, .slice A l.length c] w fun e w' => e = .returned (.bool true) ∧ Below w.heap.size w w' :=
  law_any s A c l w hl (fun n hn => by have := hwf n hn; simp [Lit.wf, IntKind.min, IntKind.max, IntKind.signed, IntKind.bits] at this; omega) hreach
end Go.Proofs.Ytafohemmjhjgbaa.Load
