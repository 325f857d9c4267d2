/-
  TrailNests: cut at the inner mark, then at the outer one, what comes is what comes when it is cut at the outer one at once.
-/
import Derived.Test.YtafohemmjhjgbaaTrailLaw
import Derived.Deep.DeepCutAuto
import Derived.Deep.Cut
namespace Go.Proofs.Ytafohemmjhjgbaa.Trails
open Go.RowKit Go.Proofs.Ytafohemmjhjgbaa Go.Shelf

/-- The marks laid in the first k rounds. -/
def mks (a b k : Nat) : List Nat := (if a < k then [a] else []) ++ (if b < k then [b] else [])
theorem mks_succ (a b k : Nat) (h : a ≤ b) : mks a b (k + 1) = mks a b k ++ (if k = a then [k] else []) ++ (if k = b then [k] else []) := by
  unfold mks
  by_cases h1 : k = a
  · subst h1
    by_cases h2 : k = b
    · subst h2; simp
    · rw [if_pos (by omega), if_neg (by omega), if_neg (by omega), if_neg (by omega), if_pos rfl, if_neg h2]; simp
  · by_cases h2 : k = b
    · subst h2
      rw [if_pos (by omega), if_pos (by omega), if_pos (by omega), if_neg (by omega), if_neg h1, if_pos rfl]; simp
    · rw [if_neg h1, if_neg h2]
      by_cases h3 : a < k
      · by_cases h4 : b < k
        · rw [if_pos (by omega), if_pos (by omega), if_pos h3, if_pos h4]; simp
        · rw [if_pos (by omega), if_neg (by omega), if_pos h3, if_neg h4]; simp
      · rw [if_neg (by omega), if_neg (by omega), if_neg h3, if_neg (by omega)]; simp
def mkh (a b k : Nat) : List Nat := mks a b k ++ (if k = a then [k] else [])
theorem mkh_succ (a b k : Nat) (h : a ≤ b) : mks a b (k + 1) = mkh a b k ++ (if k = b then [k] else []) := mks_succ a b k h
theorem mks_len (a b k : Nat) : (mks a b k).length ≤ 2 := by unfold mks; split <;> split <;> simp

set_option maxRecDepth 100000 in
theorem nests_any (A : Option Addr) (c : Nat) (l : List ByteArray) (at_ more : Int) (w : World) (hl : Sl Value.string w A l) (hm : l.length ≤ 8796093022208) (h1 : (Lit.int .i64 at_).wf = true) (h2 : (Lit.int .i64 more).wf = true) :
    Calls Try.prog 7 #[.slice A l.length c, .int .i64 at_, .int .i64 more] w fun e w' => e = .returned (.bool true) ∧ Below w.heap.size w w' := by
  have HW := Lib.hid (awake_any (sat.start w))
  by_cases hbig : 200 < l.length
  · have hb : (200 : Int) < (l.length : Int) := by omega
    clear hl
    go_enter Try.func7, Try.ntmps7
    (go_wp2_with fail)
    refine (HW.out).mono ?_
    rintro e w' ⟨rfl, H⟩
    have HB := Lib.hid H.toBelow
    go_wp2
    go_ret
    exact ⟨rfl, HB.out⟩
  · have hb : ¬ (200 : Int) < (l.length : Int) := by omega
    obtain ⟨a, ha, ea⟩ := pick at_ l.length (by omega)
    obtain ⟨d, hd, ed⟩ := pick more (l.length - a) (by omega)
    have HX := Lib.hid hl
    clear hl
    replace ed : wrap64 ((IntKind.u64.wrap more).tmod ((l.length : Int) - a + 1)) = d := by
      rw [← ed, Int.ofNat_sub ha]
    have ED := Lib.hid ed
    clear ed
    go_enter Try.func7, Try.ntmps7
    (go_wp2_with fail)
    refine (HW.out).mono ?_
    rintro e w' ⟨rfl, H⟩
    have HN := Lib.hid (New_any H)
    go_wp2_with fail
    try rw [ea]
    rw [ED.out]
    clear ea ED
    refine HN.out.mono ?_
    rintro e w1 ⟨px, rfl, H⟩
    have HN := Lib.hid (New_any H)
    go_wp2_with fail
    refine HN.out.mono ?_
    rintro e w2 ⟨py, rfl, H⟩
    have H0 := Lib.hid H
    clear H HN HW
    obtain ⟨b, hb2⟩ : ∃ b, b = a + d := ⟨_, rfl⟩
    have ew : wrap64 ((a : Int) + (d : Int)) = ((b : Nat) : Int) := by unfold wrap64; omega
    have hab : a ≤ b := by omega
    have hbl : b ≤ l.length := by omega
    go_wp2_with fail
    have eb : (a : Int) + (d : Int) = (b : Int) := by omega
    try rw [ew]
    try rw [eb]
    clear ew eb hb2 HN
    go_loopw [11] (fun i wr => ∃ k : Nat, k ≤ l.length + 1 ∧ i = .int .i64 k ∧ sat w wr (trail px (l.take k) (mks a b k) :: trail py (l.take k) (mks a b k) :: oldH w :: [])) (fun i _ => l.length + 1 - (intOf i).toNat)
    case atStart => exact ⟨0, Nat.zero_le _, rfl, H0.out.pull1⟩
    case round =>
      obtain ⟨k, hk, rfl, H⟩ := hrel
      have HH := Lib.hid H
      clear H H0
      by_cases hlt : k ≤ l.length
      · have hk' : (k : Int) ≤ (l.length : Int) := by omega
        have hm1 := mks_len a b k
        have e1 := mkh_succ a b k hab
        have E1 := Lib.hid e1
        clear e1
        go_upto_if 53 with (fail)
        go_cut [] (fun wx => sat w wx (trail px (l.take k) (mkh a b k) :: trail py (l.take k) (mkh a b k) :: oldH w :: []))
        case first =>
          by_cases e : k = a
          · have t : ((k : Int) == (a : Int)) = true := by rw [e]; simp
            have e' := Lib.hid e
            clear e
            have HM := Lib.hid (Mark_any HH.out (by omega))
            (go_wp2_with fail)
            refine (HM.out).mono ?_
            rintro e w' ⟨rfl, H⟩
            have HM := Lib.hid (Mark_any H.pull1 (by omega))
            (go_wp2_with fail)
            refine (HM.out).mono ?_
            rintro e w' ⟨rfl, H⟩
            go_wp2_with fail
            go_meet
            case rel => have := H.pull1; rw [List.length_take, Nat.min_eq_left hlt] at this; unfold mkh; rw [if_pos e'.out]; exact this
          · have t : ((k : Int) == (a : Int)) = false := by rw [beq_eq_false_iff_ne]; omega
            go_wp2_with fail
            go_meet
            case rel => unfold mkh; rw [if_neg e, List.append_nil]; exact HH.out
        case rest =>
          clear HH
          go_upto_if 60 with (fail)
          have H2 := Lib.hid hcut
          clear hcut
          go_cut [] (fun wx => sat w wx (trail px (l.take k) (mks a b (k + 1)) :: trail py (l.take k) (mks a b (k + 1)) :: oldH w :: []))
          case first =>
            have hm2 : Hid ((mkh a b k).length < 1048576) := by show _ < _; unfold mkh; rw [List.length_append]; split <;> simp <;> omega
            by_cases e : k = b
            · have t : ((k : Int) == (b : Int)) = true := by rw [e]; simp
              have e' := Lib.hid e
              clear e
              have HM := Lib.hid (Mark_any H2.out hm2.out)
              (go_wp2_with fail)
              refine (HM.out).mono ?_
              rintro e w' ⟨rfl, H⟩
              have HM := Lib.hid (Mark_any H.pull1 hm2.out)
              (go_wp2_with fail)
              refine (HM.out).mono ?_
              rintro e w' ⟨rfl, H⟩
              go_wp2_with fail
              go_meet
              case rel => have := H.pull1; rw [List.length_take, Nat.min_eq_left hlt] at this; rw [E1.out, if_pos e'.out]; exact this
            · have t : ((k : Int) == (b : Int)) = false := by rw [beq_eq_false_iff_ne]; omega
              go_wp2_with fail
              go_meet
              case rel => rw [E1.out, if_neg e, List.append_nil]; exact H2.out
          case rest =>
            have H3 := Lib.hid hcut
            clear hcut H2 E1
            by_cases hin : k < l.length
            · obtain ⟨x, ex⟩ : ∃ x, l[k]? = some x := ⟨_, List.getElem?_eq_getElem hin⟩
              obtain ⟨g, o, rfl, -⟩ := HX.out.cell ex
              have ht : l.take (k + 1) = l.take k ++ [x] := by rw [List.take_add_one, ex]; rfl
              have k0 : (0 : Int) ≤ (k : Int) := by omega
              have k1 : (k : Int) < (l.length : Int) := by omega
              have HC : Hid (∀ W L, sat w W (oldH w :: L) → W.cell? ⟨g, o + k, none⟩ = some (.string x)) := fun W L h => by
                obtain ⟨g', o', e, hlt', hc⟩ := HX.out (by omega)
                injection e with e
                injection e with e1 e2
                subst e1 e2
                exact (World.cell?_of_block (h.old g hlt')).trans (hc k x ex)
              have c0 := HC.out _ _ H3.out.pull2
              have hlx : (l.take k).length < 1048576 := by rw [List.length_take]; omega
              have HT := Lib.hid ht
              have HA := Lib.hid (Add_any x H3.out hlx)
              clear ex ht
              (go_wp2_with fail)
              refine (HA.out).mono ?_
              rintro e w' ⟨rfl, H⟩
              have c1 := HC.out _ _ H.pull2
              have HA := Lib.hid (Add_any x H.pull1 hlx)
              (go_wp2_with fail)
              refine (HA.out).mono ?_
              rintro e w' ⟨rfl, H⟩
              go_wp2_with fail
              go_roundw
              case rel => exact ⟨k + 1, by omega, by go_num, by rw [HT.out]; exact H.pull1⟩
              case measure => simp [intOf]; omega
            · have k1 : ¬ (k : Int) < (l.length : Int) := by omega
              have ht : l.take (k + 1) = l.take k := by rw [List.take_of_length_le (by omega), List.take_of_length_le (by omega)]
              have HT := Lib.hid ht
              clear ht
              go_wp2_with fail
              go_roundw
              case rel => exact ⟨k + 1, by omega, by go_num, by rw [HT.out]; exact H3.out⟩
              case measure => simp [intOf]; omega
      · obtain rfl : k = l.length + 1 := by omega
        have hmk : mks a b (l.length + 1) = [a, b] := by unfold mks; rw [if_pos (by omega), if_pos (by omega)]; rfl
        have hl1 : (l.take (l.length + 1)) = l := List.take_of_length_le (by omega)
        rw [hmk, hl1] at HH
        clear hmk hl1
        have HC := Lib.hid (Cut_ok (k := 1) (at_ := b) HH.out rfl hbl (by omega))
        (go_wp2_with fail)
        refine (HC.out).mono ?_
        rintro e w' ⟨A1, n1, c1, rfl, H⟩
        have HC := Lib.hid (Cut_ok (k := 0) (at_ := a) H.pull1 rfl (by rw [List.length_take]; omega) (by rw [List.length_take]; omega))
        (go_wp2_with fail)
        refine (HC.out).mono ?_
        rintro e w' ⟨A2, n2, c2, rfl, H⟩
        have HC := Lib.hid (Cut_ok (k := 0) (at_ := a) H.pull3 rfl (by omega) (by omega))
        (go_wp2_with fail)
        refine (HC.out).mono ?_
        rintro e w' ⟨A3, n3, c3, rfl, H⟩
        obtain ⟨rfl, E1⟩ : l.length - b = n1 ∧ Hid ((l.drop b).reverse.length = l.length - b) := ⟨by have := H.pull4.len; simpa using this, by show _ = _; simp⟩
        obtain ⟨rfl, E2⟩ : b - a = n2 ∧ Hid (((l.take b).drop a).reverse.length = b - a) := ⟨by have := H.pull2.len; simpa [Nat.min_eq_left hbl] using this, by show _ = _; simp [Nat.min_eq_left hbl]⟩
        obtain ⟨rfl, E3⟩ : l.length - a = n3 ∧ Hid ((l.drop a).reverse.length = l.length - a) := ⟨by have := H.len; simpa using this, by show _ = _; simp⟩
        have HH := Lib.hid H
        have G0 := Lib.hid (H.emptyLit Value.string 9)
        have s1 := Lib.hid G0.out.pull5.Sl
        have B1 : Hid (0 + (l.length - b) ≤ 1099511627776) := by show _ ≤ _; omega
        have B2 : Hid (l.length - b + (b - a) ≤ 1099511627776) := by show _ ≤ _; omega
        clear H HC
        go_wp2_with (at_builtin; go_must (refine wpList_appS rfl (.tmp 107) (.tmp 108) 43 rfl infoS Try.underlying43 rfl (by decide) G0.out rfl rfl E1.out s1.out string_one B1.out ?_))
        intro A4 c4 w4 H
        have s2 := Lib.hid H.pull3.Sl
        have G1 := Lib.hid H
        clear H s1 G0 HH
        go_wp2_with (at_builtin; go_must (refine wpList_appS rfl (.tmp 109) (.tmp 110) 43 rfl infoS Try.underlying43 rfl (by decide) G1.out rfl rfl E2.out s2.out string_one B2.out ?_))
        intro A5 c5 w5 H
        have he : (l.drop b).reverse ++ ((l.take b).drop a).reverse = (l.drop a).reverse := by
          rw [← List.reverse_append]
          congr 1
          rw [List.drop_take]
          have := List.take_append_drop (b - a) (l.drop a)
          rw [List.drop_drop, show a + (b - a) = b from by omega] at this
          exact this
        have en : l.length - b + (b - a) = l.length - a := by omega
        rw [he] at H
        have HSM := Same_any A5 A3 _ _ c5 c3 _ _ w5 H.len E3.out H.Sl H.pull1.Sl (by omega) (by omega)
        rw [decide_eq_true (rfl : (l.drop a).reverse = (l.drop a).reverse)] at HSM
        replace HSM := Lib.hid HSM
        have G2 := Lib.hid H
        clear H G1 s2 he en
        (go_wp2_with fail)
        refine (HSM.out).mono ?_
        rintro e w' ⟨rfl, q, rfl⟩
        refine nameW (G2.out.drewN q) (fun W6 G3 => ?_)
        have q1 : ((l.take b).take a).length = a := by simp; omega
        have q2 : (l.take a).length = a := by simp; omega
        have LX := Len_any G3.pull4
        have LY := Len_any G3.pull2
        rw [q1] at LX
        rw [q2] at LY
        replace LX := Lib.hid LX
        replace LY := Lib.hid LY
        have MY := Lib.hid (Marks_any G3.pull2)
        have HB := Lib.hid G3.pull6.toBelow
        clear q1 q2 G3 G2 HSM
        (go_wp2_with fail)
        refine (LX.out).mono ?_
        rintro e w' ⟨rfl, rfl⟩
        (go_wp2_with fail)
        refine (LY.out).mono ?_
        rintro e w' ⟨rfl, rfl⟩
        (go_wp2_with fail)
        refine (MY.out).mono ?_
        rintro e w' ⟨rfl, rfl⟩
        go_wp2
        go_ret
        exact ⟨rfl, HB.out⟩
theorem nests_row (A : Option Addr) (c : Nat) (l : List ByteArray) (at_ more : Int) (w : World) (_hc : l.length ≤ c) (hl : Sl Value.string w A l) (_hs : ∀ s ∈ l, s.size ≤ maxLen) (hm : l.length * 16 ≤ 140737488351232) (h1 : (Lit.int .i64 at_).wf = true) (h2 : (Lit.int .i64 more).wf = true) :
    Calls Try.prog 7 #[.slice A l.length c, .int .i64 at_, .int .i64 more] w fun e w' => e = .returned (.bool true) ∧ Below w.heap.size w w' := nests_any A c l at_ more w hl (by omega) h1 h2
end Go.Proofs.Ytafohemmjhjgbaa.Trails
