/-
  TrailTurns: what is cut is what came since, the other way round.
-/
import Derived.Test.YtafohemmjhjgbaaTrailLaw
namespace Go.Proofs.Ytafohemmjhjgbaa.Trails
open Go.RowKit Go.Proofs.Ytafohemmjhjgbaa Go.Shelf

def mk1 (a k : Nat) : List Nat := if a < k then [a] else []
def mv1 (a k : Nat) : Int := if a < k then 0 else -1
theorem mk1_at (k : Nat) : mk1 k k = [] ∧ mv1 k k = -1 ∧ mk1 k (k + 1) = [k] ∧ mv1 k (k + 1) = 0 := by unfold mk1 mv1; simp
theorem mk1_ne {a k : Nat} (h : k ≠ a) : mk1 a (k + 1) = mk1 a k ∧ mv1 a (k + 1) = mv1 a k := by
  unfold mk1 mv1
  by_cases e : a < k
  · rw [if_pos (by omega), if_pos e, if_pos (by omega), if_pos e]; exact ⟨rfl, rfl⟩
  · rw [if_neg (by omega), if_neg e, if_neg (by omega), if_neg e]; exact ⟨rfl, rfl⟩
set_option maxHeartbeats 1000000 in
set_option maxRecDepth 100000 in
theorem turns_any (A : Option Addr) (c : Nat) (l : List ByteArray) (at_ : Int) (w : World) (hl : Sl Value.string w A l) (hm : l.length ≤ 8796093022208) (h1 : (Lit.int .i64 at_).wf = true) :
    Calls Try.prog 12 #[.slice A l.length c, .int .i64 at_] w fun e w' => e = .returned (.bool true) ∧ Below w.heap.size w w' := by
  have HW := Lib.hid (awake_any (sat.start w))
  by_cases hbig : 200 < l.length
  · have hb : (200 : Int) < (l.length : Int) := by omega
    clear hl
    go_enter Try.func12, Try.ntmps12
    (go_wp2_with fail)
    refine (HW.out).mono ?_
    rintro e w' ⟨rfl, H⟩
    have HB := Lib.hid H.toBelow
    go_wp2
    go_ret
    exact ⟨rfl, HB.out⟩
  · have hb : ¬ (200 : Int) < (l.length : Int) := by omega
    obtain ⟨a, ha, ea⟩ := pick at_ l.length (by omega)
    have HX := Lib.hid hl
    clear hl
    go_enter Try.func12, Try.ntmps12
    (go_wp2_with fail)
    refine (HW.out).mono ?_
    rintro e w' ⟨rfl, H⟩
    have HN := Lib.hid (New_any H)
    go_wp2_with fail
    refine HN.out.mono ?_
    rintro e w1 ⟨px, rfl, H⟩
    have H0 := Lib.hid H
    clear H HN HW
    go_wp2_with fail
    rw [ea]
    clear ea
    go_loopw [7, 8] (fun m i wr => ∃ k : Nat, k ≤ l.length + 1 ∧ m = .int .i64 (mv1 a k) ∧ i = .int .i64 k ∧ sat w wr (trail px (l.take k) (mk1 a k) :: oldH w :: [])) (fun _ i _ => l.length + 1 - (intOf i).toNat)
    case atStart => exact ⟨0, Nat.zero_le _, by unfold mv1; rw [if_neg (by omega)], rfl, by unfold mk1; rw [if_neg (by omega)]; exact H0.out⟩
    case round =>
      obtain ⟨k, hk, rfl, rfl, H⟩ := hrel
      have HH := Lib.hid H
      clear H H0
      by_cases hlt : k ≤ l.length
      · have hk' : (k : Int) ≤ (l.length : Int) := by omega
        by_cases e : k = a
        · subst e
          obtain ⟨e1, e2, e3, e4⟩ := mk1_at k
          have HM := Mark_any HH.out (by rw [e1]; decide)
          rw [e1] at HM
          replace HM := Lib.hid HM
          have E3 := Lib.hid e3
          have E4 := Lib.hid e4
          have hle : Hid ((l.take k).length = k) := by show _ = _; rw [List.length_take]; omega
          have t : ((k : Int) == (k : Int)) = true := by simp
          clear e1 e2 e3 e4 HH
          (go_wp2_with fail)
          refine (HM.out).mono ?_
          rintro e w' ⟨rfl, H⟩
          rw [hle.out] at H
          replace H : sat w w' (trail px (l.take k) (mk1 k (k + 1)) :: oldH w :: []) := by rw [E3.out]; exact H
          by_cases hin : k < l.length
          · obtain ⟨x, ex⟩ : ∃ x, l[k]? = some x := ⟨_, List.getElem?_eq_getElem hin⟩
            obtain ⟨g, o, rfl, hgl, hgc⟩ := HX.out.cell ex
            have c0 := (World.cell?_of_block (H.pull1.old g hgl)).trans hgc
            have ht : l.take (k + 1) = l.take k ++ [x] := by rw [List.take_add_one, ex]; rfl
            have k0 : (0 : Int) ≤ (k : Int) := by omega
            have k1 : (k : Int) < (l.length : Int) := by omega
            have HT := Lib.hid ht
            have HA := Lib.hid (Add_any x H (by rw [List.length_take]; omega))
            clear ex ht hgl hgc H
            (go_wp2_with fail)
            refine (HA.out).mono ?_
            rintro e w' ⟨rfl, H⟩
            go_wp2_with fail
            go_roundw
            case rel => exact ⟨k + 1, by omega, by rw [E4.out], by go_num, by rw [HT.out]; exact H⟩
            case measure => simp [intOf]; omega
          · have k1 : ¬ (k : Int) < (l.length : Int) := by omega
            have ht : l.take (k + 1) = l.take k := by rw [List.take_of_length_le (by omega), List.take_of_length_le (by omega)]
            have HT := Lib.hid ht
            have HH := Lib.hid H
            clear ht H
            go_wp2_with fail
            go_roundw
            case rel => exact ⟨k + 1, by omega, by rw [E4.out], by go_num, by rw [HT.out]; exact HH.out⟩
            case measure => simp [intOf]; omega
        · have t : ((k : Int) == (a : Int)) = false := by rw [beq_eq_false_iff_ne]; omega
          obtain ⟨e3, e4⟩ := mk1_ne e
          have HK := HH.out
          rw [← e3] at HK
          have E4 := Lib.hid e4
          have H := HK
          clear e3 e4 HH e HK
          by_cases hin : k < l.length
          · obtain ⟨x, ex⟩ : ∃ x, l[k]? = some x := ⟨_, List.getElem?_eq_getElem hin⟩
            obtain ⟨g, o, rfl, hgl, hgc⟩ := HX.out.cell ex
            have c0 := (World.cell?_of_block (H.pull1.old g hgl)).trans hgc
            have ht : l.take (k + 1) = l.take k ++ [x] := by rw [List.take_add_one, ex]; rfl
            have k0 : (0 : Int) ≤ (k : Int) := by omega
            have k1 : (k : Int) < (l.length : Int) := by omega
            have HT := Lib.hid ht
            have HA := Lib.hid (Add_any x H (by rw [List.length_take]; omega))
            clear ex ht hgl hgc H
            (go_wp2_with fail)
            refine (HA.out).mono ?_
            rintro e w' ⟨rfl, H⟩
            go_wp2_with fail
            go_roundw
            case rel => exact ⟨k + 1, by omega, by rw [E4.out], by go_num, by rw [HT.out]; exact H⟩
            case measure => simp [intOf]; omega
          · have k1 : ¬ (k : Int) < (l.length : Int) := by omega
            have ht : l.take (k + 1) = l.take k := by rw [List.take_of_length_le (by omega), List.take_of_length_le (by omega)]
            have HT := Lib.hid ht
            have HH := Lib.hid H
            clear ht H
            go_wp2_with fail
            go_roundw
            case rel => exact ⟨k + 1, by omega, by rw [E4.out], by go_num, by rw [HT.out]; exact HH.out⟩
            case measure => simp [intOf]; omega
      · obtain rfl : k = l.length + 1 := by omega
        have hmk : mk1 a (l.length + 1) = [a] := by unfold mk1; rw [if_pos (by omega)]
        have hmv : mv1 a (l.length + 1) = 0 := by unfold mv1; rw [if_pos (by omega)]
        have hl1 : (l.take (l.length + 1)) = l := List.take_of_length_le (by omega)
        rw [hmk, hl1] at HH
        rw [hmv]
        clear hmk hl1 hmv
        have HC := Lib.hid (Since_ok (k := 0) (at_ := a) HH.out rfl ha (by omega))
        (go_wp2_with fail)
        refine (HC.out).mono ?_
        rintro e w' ⟨A1, n1, c1, rfl, H⟩
        have HC := Lib.hid (Cut_ok (k := 0) (at_ := a) H.pull1 rfl ha (by omega))
        (go_wp2_with fail)
        refine (HC.out).mono ?_
        rintro e w' ⟨A2, n2, c2, rfl, H⟩
        obtain rfl : l.length - a = n1 := by have := H.pull2.len; simpa using this
        obtain rfl : l.length - a = n2 := by have := H.len; simpa using this
        obtain ⟨j, hj⟩ : ∃ j, j = l.length - a := ⟨_, rfl⟩
        have ej : (l.length : Int) - (a : Int) = (j : Int) := by omega
        rw [← hj] at H ⊢
        have q2 : (l.take a).length = a := by simp; omega
        have LX := Len_any H.pull1
        rw [q2] at LX
        replace LX := Lib.hid LX
        have MX := Lib.hid (Marks_any H.pull1)
        have G := Lib.hid H
        have HJ := Lib.hid hj
        clear H HC q2 HH hj
        (go_wp2_with fail)
        refine (LX.out).mono ?_
        rintro e w' ⟨rfl, rfl⟩
        (go_wp2_with fail)
        refine (MX.out).mono ?_
        rintro e w' ⟨rfl, rfl⟩
        go_wp2_with fail
        go_loopw [13] (fun i wr => ∃ i' : Nat, i' ≤ j ∧ i = .int .i64 i' ∧ sat w wr (vec 9 Value.string A2 j c2 (l.drop a).reverse :: trail px (l.take a) ([a].take 0) :: vec 9 Value.string A1 j c1 (l.drop a) :: oldH w :: [])) (fun i _ => j - (intOf i).toNat)
        case atStart => exact ⟨0, Nat.zero_le _, rfl, G.out⟩
        case round =>
          obtain ⟨i, hi, rfl, H⟩ := hrel
          have H3 := Lib.hid H
          clear H G LX MX
          by_cases hlt : i < j
          · have hai : a + i < l.length := by have := HJ.out; omega
            obtain ⟨x, ex⟩ : ∃ x, l[a + i]? = some x := ⟨_, List.getElem?_eq_getElem hai⟩
            have ed : (l.drop a)[i]? = some x := by rw [List.getElem?_drop]; exact ex
            have er : (l.drop a).reverse[j - 1 - i]? = some x := by
              rw [List.getElem?_reverse (by rw [List.length_drop]; omega), List.length_drop, ← HJ.out, show j - 1 - (j - 1 - i) = i by omega]
              exact ed
            obtain ⟨g, o, rfl, hgl, hgc⟩ := HX.out.cell ex
            have k0 := (World.cell?_of_block (H3.out.pull3.old g hgl)).trans hgc
            obtain ⟨g1, o1, rfl, -, k1⟩ := H3.out.pull2.Sl.cell ed
            obtain ⟨g2, o2, rfl, -, k2⟩ := H3.out.Sl.cell er
            have i0 : (0 : Int) ≤ (i : Int) := by omega
            have i1 : (i : Int) < (j : Int) := by omega
            have i2 : (0 : Int) ≤ (a : Int) + (i : Int) := by omega
            have i3 : (a : Int) + (i : Int) < (l.length : Int) := by omega
            have i4 : ((a : Int) + (i : Int)).toNat = a + i := by omega
            have i5 : (j : Int) - 1 - (i : Int) < (j : Int) := by omega
            have i6 : (0 : Int) ≤ (j : Int) - 1 - (i : Int) := by omega
            have i7 : ((j : Int) - 1 - (i : Int)).toNat = j - 1 - i := by omega
            clear ex ed er hgl hgc
            go_wp2
            go_quiet (fail)
            go_wp2
            go_roundw
            case rel => exact ⟨i + 1, by omega, by go_num, H3.out.drewN _⟩
            case measure => simp [intOf]; omega
          · have i1 : ¬ (i : Int) < (j : Int) := by omega
            have HB := Lib.hid H3.out.pull3.toBelow
            go_wp2
            go_ret
            exact ⟨rfl, HB.out⟩
theorem turns_row (A : Option Addr) (c : Nat) (l : List ByteArray) (at_ : Int) (w : World) (_hc : l.length ≤ c) (hl : Sl Value.string w A l) (_hs : ∀ s ∈ l, s.size ≤ maxLen) (hm : l.length * 16 ≤ 140737488351232) (h1 : (Lit.int .i64 at_).wf = true) :
    Calls Try.prog 12 #[.slice A l.length c, .int .i64 at_] w fun e w' => e = .returned (.bool true) ∧ Below w.heap.size w w' := turns_any A c l at_ w hl (by omega) h1
end Go.Proofs.Ytafohemmjhjgbaa.Trails
