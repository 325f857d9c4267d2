/-
  TrailPlays: whatever is added, marked, cut and forgotten.
-/
import Derived.Test.YtafohemmjhjgbaaTrailRef
import Derived.Test.YtafohemmjhjgbaaTrailLaw
import Derived.Test.YtafohemmjhjgbaaArgRows
namespace Go.Proofs.Ytafohemmjhjgbaa.Trails
open Go.RowKit Go.Proofs.Ytafohemmjhjgbaa Go.Shelf

/-- The marks, each by how many things stand ahead of it. -/
def mpos : Nat → List One → List Nat
  | _, [] => []
  | n, (true, _) :: os => n :: mpos n os
  | n, (false, _) :: os => mpos (n + 1) os
theorem cnt_false : ∀ os : List One, os.countP (fun x => x.1 == false) = (texts os).length
  | [] => rfl
  | (true, _) :: os => by rw [List.countP_cons, cnt_false os]; simp [texts]
  | (false, s) :: os => by rw [List.countP_cons, cnt_false os]; simp [texts]
theorem cnt_true : ∀ (os : List One) (n : Nat), os.countP (fun x => x.1 == true) = (mpos n os).length
  | [], _ => rfl
  | (true, _) :: os, n => by rw [List.countP_cons, cnt_true os n]; simp [mpos]
  | (false, s) :: os, n => by rw [List.countP_cons, cnt_true os (n + 1)]; simp [mpos]
theorem texts_app : ∀ a b : List One, texts (a ++ b) = texts a ++ texts b
  | [], _ => rfl
  | (true, _) :: a, b => texts_app a b
  | (false, s) :: a, b => by show s :: texts (a ++ b) = _; rw [texts_app a b]; rfl
theorem mpos_app : ∀ (a b : List One) (n : Nat), mpos n (a ++ b) = mpos n a ++ mpos (n + (texts a).length) b
  | [], _, _ => rfl
  | (true, _) :: a, b, n => by show n :: mpos n (a ++ b) = _; rw [mpos_app a b n]; rfl
  | (false, s) :: a, b, n => by
    show mpos (n + 1) (a ++ b) = _
    rw [mpos_app a b (n + 1)]
    show _ = mpos (n + 1) a ++ mpos (n + ((texts a).length + 1)) b
    rw [show n + 1 + (texts a).length = n + ((texts a).length + 1) by omega]
theorem bare_texts : ∀ a : List One, texts (bare a) = texts a
  | [] => rfl
  | (true, _) :: a => bare_texts a
  | (false, s) :: a => by show s :: texts (bare a) = _; rw [bare_texts a]; rfl
theorem bare_mpos : ∀ (a : List One) (n : Nat), mpos n (bare a) = []
  | [], _ => rfl
  | (true, _) :: a, n => bare_mpos a n
  | (false, s) :: a, n => bare_mpos a (n + 1)
theorem at_none : ∀ (os : List One) (m n : Nat), atN os m = none → (mpos n os).length ≤ m
  | [], _, _, _ => Nat.zero_le _
  | (true, _) :: os, 0, n, h => by cases h
  | (true, _) :: os, m + 1, n, h => by
    have := at_none os m n (by simpa [atN] using h)
    show (mpos n os).length + 1 ≤ m + 1
    omega
  | (false, _) :: os, m, n, h => at_none os m (n + 1) (by simpa [atN] using h)
theorem at_some : ∀ (os : List One) (m n i : Nat), atN os m = some i → i < os.length ∧ (mpos n os)[m]? = some (n + (texts (os.take i)).length) ∧ mpos n (os.take i) = (mpos n os).take m
  | [], _, _, _, h => by cases h
  | (true, _) :: os, 0, n, i, h => by
    cases h
    exact ⟨by simp, by simp [mpos, texts], by simp [mpos]⟩
  | (true, _) :: os, m + 1, n, i, h => by
    cases hh : atN os m with
    | none => simp [atN, hh] at h
    | some j =>
      simp [atN, hh] at h
      subst h
      obtain ⟨h1, h2, h3⟩ := at_some os m n j hh
      exact ⟨by simp; exact h1, by simpa [mpos, texts] using h2, by simp [mpos, h3]⟩
  | (false, s) :: os, m, n, i, h => by
    cases hh : atN os m with
    | none => simp [atN, hh] at h
    | some j =>
      simp [atN, hh] at h
      subst h
      obtain ⟨h1, h2, h3⟩ := at_some os m (n + 1) j hh
      refine ⟨by simp; exact h1, ?_, by simp [mpos, h3]⟩
      show (mpos (n + 1) os)[m]? = some (n + ((texts (os.take j)).length + 1))
      rw [h2]; congr 1; omega
theorem texts_split (os : List One) (i : Nat) : texts os = texts (os.take i) ++ texts (os.drop i) := by rw [← texts_app, List.take_append_drop]
/-- Is there such a mark? -/
theorem at_cases (os : List One) (m : Int) :
    (∃ M i q : Nat, m = M ∧ atV os m = i ∧ i < os.length ∧ M < (mpos 0 os).length ∧ (mpos 0 os)[M]? = some q ∧ q ≤ (texts os).length ∧ texts (os.take i) = (texts os).take q ∧ texts (os.drop i) = (texts os).drop q ∧ mpos 0 (os.take i) = (mpos 0 os).take M) ∨
    (atV os m = -1 ∧ ¬ (0 ≤ m ∧ m < (mpos 0 os).length)) := by
  by_cases hm : m < 0
  · exact .inr ⟨by unfold atV; rw [if_pos hm], by omega⟩
  · obtain ⟨M, rfl⟩ := Int.eq_ofNat_of_zero_le (by omega : 0 ≤ m)
    have e : atV os (M : Int) = atI (atN os M) := by unfold atV; rw [if_neg hm, Int.toNat_natCast]
    cases h : atN os M with
    | none =>
      have := at_none os M 0 h
      exact .inr ⟨by rw [e, h]; rfl, by omega⟩
    | some i =>
      obtain ⟨h1, h2, h3⟩ := at_some os M 0 i h
      rw [Nat.zero_add] at h2
      have hs := texts_split os i
      refine .inl ⟨M, i, _, rfl, by rw [e, h]; rfl, h1, (List.getElem?_eq_some_iff.1 h2).1, h2, ?_, ?_, ?_, h3⟩
      · rw [hs, List.length_append]; omega
      · rw [hs, List.take_left]
      · rw [hs, List.drop_left]

abbrev Deed := Int × Int × ByteArray
def encD (x : Deed) : List Value := [.int .i64 x.1, .int .i64 x.2.1, .string x.2.2]
set_option maxHeartbeats 2000000 in
set_option maxRecDepth 100000 in
theorem plays_any (A : Option Addr) (c : Nat) (l : List Deed) (w : World) (hl : SlR 3 encD w A l) (hm : l.length ≤ 8796093022208) :
    Calls Try.prog 13 #[.slice A l.length c] w fun e w' => e = .returned (.bool true) ∧ Below w.heap.size w w' := by
  have HW := Lib.hid (awake_any (sat.start w))
  have HX := Lib.hid hl
  clear hl
  go_enter Try.func13, Try.ntmps13
  (go_wp2_with fail)
  refine (HW.out).mono ?_
  rintro e w' ⟨rfl, H⟩
  have HN := Lib.hid (New_any H)
  go_wp2_with fail
  refine HN.out.mono ?_
  rintro e w1 ⟨px, rfl, H⟩
  have H0 := Lib.hid (rtrail_shut ((H.nilRows 87 2 encO).alloc #[.slice none 0 0] 83))
  clear H HN HW
  go_wp2_with fail
  go_loopw [5] (fun i wr => ∃ (k : Nat) (os : List One), k ≤ l.length ∧ k ≤ 200 ∧ os.length ≤ k ∧ i = .int .i64 k ∧ sat w wr (trail px (texts os) (mpos 0 os) :: rtrail w1.heap.size os :: oldH w :: [])) (fun i _ => l.length - (intOf i).toNat)
  case atStart => exact ⟨0, [], Nat.zero_le _, by omega, Nat.le_refl _, rfl, H0.out.pull1⟩
  case round =>
    obtain ⟨k, os, hk, hk2, hos, rfl, H⟩ := hrel
    by_cases hin : k < l.length ∧ k < 200
    · obtain ⟨hin1, hin2⟩ := hin
      obtain ⟨⟨kd, m, s⟩, ex⟩ : ∃ x, l[k]? = some x := ⟨_, List.getElem?_eq_getElem hin1⟩
      have hX := HX.out.old H.pull2 H.size
      obtain ⟨g, o, rfl, -, hc⟩ := hX.cells ex
      have c0 := hc 0 _ rfl
      have c1 := hc 1 _ rfl
      have c2 := hc 2 _ rfl
      rw [Nat.add_zero] at c0
      have k0 : (0 : Int) ≤ (k : Int) := by omega
      have k1 : (k : Int) < (l.length : Int) := by omega
      have k2 : (k : Int) < 200 := by omega
      have HH := Lib.hid H
      have H1 := Lib.hid (HH.out.alloc #[.int .i64 kd, .int .i64 m, .string s] 85)
      have HAT := Lib.hid (rAt_any m H1.out.pull2 (by omega))
      clear hc hX ex H H0 HH
      (go_wp2_with fail)
      refine (HAT.out).mono ?_
      rintro e w' ⟨rfl, rfl⟩
      clear HAT
      refine nameW H1.out (fun W H1 => ?_)
      have b0 := H1.cell 0
      have b1 := H1.cell 1
      have b2 := H1.cell 2
      have H2 := Lib.hid H1
      clear H1 c0 c1 c2
      by_cases e1 : kd = 1
      · subst e1
        have HA := Lib.hid (Add_any s H2.out.pull1 (by have := texts_len os; omega))
        clear H2
        (go_wp2_with fail)
        refine (HA.out).mono ?_
        rintro e w' ⟨rfl, H⟩
        clear HA
        obtain ⟨A', n', c', rfl, H⟩ := rtrail_open H.pull2
        have b2 := H.pull3.cell 2
        have p0 := H.cell 0
        have hn : os.length < 1099511627776 := by omega
        go_wp2
        refine Reg.wp_region_s (H) (fun W => W.cell? ⟨wr.heap.size, 2, none⟩ = some (.string s) ∧ W.cell? ⟨w1.heap.size, 0, none⟩ = some (.slice A' os.length c')) [4, 6] [8, 9, 12] [0, 1, 2, 3, 4, 5, 6, 7, 8, 9, 10, 11, 12] (by kernel_rfl) (by kernel_rfl) (fun W HW => ⟨HW.pull3.cell 2, HW.cell 0⟩) (fun W HW => ?_)
        simp only [Reg.pickOps, List.map_cons, List.map_nil, List.getD_cons_zero, List.getD_cons_succ, List.contains_cons, List.contains_nil, Nat.reduceBEq, Bool.or_false, Bool.or_true, Bool.or_self]
        iterate 4 (refine Reg.wpX_y (v := ?_) (fun w' => ?_) rfl ?_; rotate_left 1; focus (go_simp; (try with_reducible rfl)))
        (refine Reg.wpX_l (v := ?_) rfl (fun w' hw => ?_) rfl ?_; rotate_left 1; focus ((try dsimp only at hw); go_split_ands; go_simp; (try with_reducible rfl)))
        (refine Reg.wpX_y (v := ?_) (fun w' => ?_) rfl ?_; rotate_left 1; focus (go_simp; (try with_reducible rfl)))
        (refine Reg.wpX_l (v := ?_) rfl (fun w' hw => ?_) rfl ?_; rotate_left 1; focus ((try dsimp only at hw); go_split_ands; go_simp; (try with_reducible rfl)))
        (refine Reg.wpX_y (v := ?_) (fun w' => ?_) rfl ?_; rotate_left 1; focus (go_simp; (try with_reducible rfl)))
        try simp only [Act.put, List.setIfInBounds_toArray, List.set_cons_zero, List.set_cons_succ]
        refine Reg.wpX_go rfl (fun K hK => ?_)
        go_simp
        refine hK _ _ ⟨(HW.alloc _ _).pull4.cell 2, (HW.alloc _ _).pull1.cell 0⟩ ?_
        try simp only [Act.put, List.setIfInBounds_toArray, List.set_cons_zero, List.set_cons_succ]
        refine Reg.wpX_go rfl (fun K hK => ?_)
        refine wp_appR1 (.tmp 50) (.tmp 54) 81 rfl infoO Try.underlying81 rfl encO_len (by decide) (by decide) HW.pull1 (false, s) rfl rfl rfl rfl (encO_one _) hn (fun A3 c3 w3 H3 => ?_)
        refine hK _ _ ⟨H3.pull3.cell 2, H3.pull1.cell 0⟩ ?_
        iterate 2 (refine Reg.wpX_y (v := ?_) (fun w' => ?_) rfl ?_; rotate_left 1; focus (go_simp; (try with_reducible rfl)))
        try simp only [Act.put, List.setIfInBounds_toArray, List.set_cons_zero, List.set_cons_succ]
        have c3' := H3.pull1.cell 0
        have f3 := H3.pull1.frozen 0
        refine Reg.wpX_last rfl (by kernel_rfl) (fun K hK => ?_)
        go_simp
        have H4 := rtrail_shut ((H3.pull1.setCell 0 (.slice A3 (os.length + 1) c3)))
        have HE := H4.choose 3 [1, 0] rfl rfl
        clear H3 H4 HW H c3' f3 hn
        refine hK _ _ ?_
        try simp only [Act.put, List.setIfInBounds_toArray, List.set_cons_zero, List.set_cons_succ]
        refine Reg.wpX_nil ?_
        refine nameW HE (fun W HE => ?_)
        replace HE : sat w W (trail px (texts (os ++ [(false, s)])) (mpos 0 (os ++ [(false, s)])) :: rtrail w1.heap.size (os ++ [(false, s)]) :: oldH w :: []) := by
          rw [texts_app, mpos_app]
          rw [show mpos (0 + (texts os).length) [((false, s) : One)] = [] from rfl, List.append_nil]
          exact HE
        replace HE := Lib.hid HE
        have hol2 : (os ++ [((false, s) : One)]).length ≤ k + 1 := by rw [List.length_append]; simp; omega
        have hol : (os ++ [((false, s) : One)]).length < 1048576 := by omega
        have E1 := Lib.hid (Len_any HE.out)
        have E2 := rLen_any false HE.out.pull1 hol
        rw [cnt_false] at E2
        replace E2 := Lib.hid E2
        have E3 := Lib.hid (Marks_any HE.out)
        have E4 := rLen_any true HE.out.pull1 hol
        rw [cnt_true _ 0] at E4
        replace E4 := Lib.hid E4
        (go_wp2_with fail)
        refine (E1.out).mono ?_
        rintro e w' ⟨rfl, rfl⟩
        (go_wp2_with fail)
        refine (E2.out).mono ?_
        rintro e w' ⟨rfl, rfl⟩
        (go_wp2_with fail)
        refine (E3.out).mono ?_
        rintro e w' ⟨rfl, rfl⟩
        (go_wp2_with fail)
        refine (E4.out).mono ?_
        rintro e w' ⟨rfl, rfl⟩
        go_wp2_with fail
        go_roundw
        case rel => exact ⟨k + 1, os ++ [((false, s) : One)], by omega, by omega, by omega, by go_num, HE.out⟩
        case measure => simp [intOf] <;> omega
      by_cases e2 : kd = 2
      · subst e2
        have hml : (mpos 0 os).length ≤ os.length := by rw [← cnt_true]; exact List.countP_le_length
        have HM := Lib.hid (Mark_any H2.out.pull1 (by omega))
        clear H2
        (go_wp2_with fail)
        refine (HM.out).mono ?_
        rintro e w' ⟨rfl, H⟩
        have R := rLen_any true H.pull2 (by omega)
        rw [cnt_true _ 0] at R
        replace R := Lib.hid R
        clear HM
        (go_wp2_with fail)
        refine (R.out).mono ?_
        rintro e w' ⟨rfl, rfl⟩
        clear R
        obtain ⟨A', n', c', rfl, H⟩ := rtrail_open H.pull2
        have p0 := H.cell 0
        have HH := Lib.hid H
        have hn : Hid (os.length < 1099511627776) := by show _ < _; omega
        clear H e1 hml
        go_wp2_with (at_builtin; go_must (refine wpList_appR1 rfl (.tmp 69) (.tmp 71) 81 rfl infoO Try.underlying81 rfl encO_len (by decide) (by decide) HH.out.pull1 (true, ByteArray.empty) rfl rfl rfl rfl (encO_one _) hn.out ?_))
        intro A3 c3 w3 H3
        have c3' := H3.pull1.cell 0
        have f3 := H3.pull1.frozen 0
        have H4 := rtrail_shut ((H3.pull1.setCell 0 (.slice A3 (os.length + 1) c3)))
        have HE := H4.choose 3 [1, 0] rfl rfl
        clear H3 H4 HH p0
        replace HE : sat w (w3.setCell ⟨w1.heap.size, 0, none⟩ (.slice A3 (os.length + 1) c3)) (trail px (texts (os ++ [(true, ByteArray.empty)])) (mpos 0 (os ++ [(true, ByteArray.empty)])) :: rtrail w1.heap.size (os ++ [(true, ByteArray.empty)]) :: oldH w :: []) := by
          rw [texts_app, mpos_app]
          rw [show mpos (0 + (texts os).length) [((true, ByteArray.empty) : One)] = [0 + (texts os).length] from rfl, show texts [((true, ByteArray.empty) : One)] = [] from rfl, List.append_nil, Nat.zero_add]
          exact HE
        replace HE := Lib.hid HE
        have hol2 : (os ++ [((true, ByteArray.empty) : One)]).length ≤ k + 1 := by rw [List.length_append]; simp; omega
        have hol : (os ++ [((true, ByteArray.empty) : One)]).length < 1048576 := by omega
        have E1 := Lib.hid (Len_any HE.out)
        have E2 := rLen_any false HE.out.pull1 hol
        rw [cnt_false] at E2
        replace E2 := Lib.hid E2
        have E3 := Lib.hid (Marks_any HE.out)
        have E4 := rLen_any true HE.out.pull1 hol
        rw [cnt_true _ 0] at E4
        replace E4 := Lib.hid E4
        (go_wp2_with fail)
        refine (E1.out).mono ?_
        rintro e w' ⟨rfl, rfl⟩
        (go_wp2_with fail)
        refine (E2.out).mono ?_
        rintro e w' ⟨rfl, rfl⟩
        (go_wp2_with fail)
        refine (E3.out).mono ?_
        rintro e w' ⟨rfl, rfl⟩
        (go_wp2_with fail)
        refine (E4.out).mono ?_
        rintro e w' ⟨rfl, rfl⟩
        go_wp2_with fail
        go_roundw
        case rel => exact ⟨k + 1, os ++ [((true, ByteArray.empty) : One)], by omega, by omega, by omega, by go_num, HE.out⟩
        case measure => simp [intOf] <;> omega
      have htl := texts_len os
      by_cases e3 : kd = 3
      · subst e3
        clear e1 e2
        rcases at_cases os m with ⟨M, i, q, rfl, ha, hi, hM, hq, hql, ht1, ht2, hm3⟩ | ⟨ha, hno⟩
        · have hd0 : (0 : Int) ≤ atV os (M : Int) := by omega
          have HC := Lib.hid (Cut_ok H2.out.pull1 hq hql (by omega))
          have HA := Lib.hid ha
          have T1 := Lib.hid ht1
          have T2 := Lib.hid ht2
          have T3 := Lib.hid hm3
          clear H2 ha hq ht1 ht2 hm3
          (go_wp2_with fail)
          refine (HC.out).mono ?_
          rintro e w' ⟨A1, n1, d1, rfl, H⟩
          have HR := Lib.hid (rCut_any H.pull3 (by omega) HA.out (by omega))
          have b1 := H.pull2.cell 1
          clear HC H
          (go_wp2_with fail)
          refine (HR.out).mono ?_
          rintro e w' ⟨A2, n2, d2, rfl, H⟩
          have he : ((texts os).drop q).reverse = (texts (os.drop i)).reverse := by rw [T2.out]
          have HS := Same_any A1 A2 n1 n2 d1 d2 _ _ w' H.pull2.len H.len H.pull2.Sl H.Sl (by rw [← H.pull2.len]; simp; omega) (by rw [← H.len, ← he]; simp; omega)
          rw [decide_eq_true he] at HS
          replace HS := Lib.hid HS
          have HE := H.choose 5 [3, 1] rfl rfl
          rw [← T1.out, ← T3.out] at HE
          replace HE := Lib.hid HE
          clear HR H he T1 T2 T3
          (go_wp2_with fail)
          refine (HS.out).mono ?_
          rintro e w' ⟨rfl, qq, rfl⟩
          clear HS
          replace HE := Lib.hid (HE.out.drewN qq)
          refine nameW HE.out (fun W HE => ?_)
          replace HE := Lib.hid HE
          have hol2 : (os.take i).length ≤ k + 1 := by rw [List.length_take]; omega
          have hol : (os.take i).length < 1048576 := by omega
          have E1 := Lib.hid (Len_any HE.out)
          have E2 := rLen_any false HE.out.pull1 hol
          rw [cnt_false] at E2
          replace E2 := Lib.hid E2
          have E3 := Lib.hid (Marks_any HE.out)
          have E4 := rLen_any true HE.out.pull1 hol
          rw [cnt_true _ 0] at E4
          replace E4 := Lib.hid E4
          (go_wp2_with fail)
          refine (E1.out).mono ?_
          rintro e w' ⟨rfl, rfl⟩
          (go_wp2_with fail)
          refine (E2.out).mono ?_
          rintro e w' ⟨rfl, rfl⟩
          (go_wp2_with fail)
          refine (E3.out).mono ?_
          rintro e w' ⟨rfl, rfl⟩
          (go_wp2_with fail)
          refine (E4.out).mono ?_
          rintro e w' ⟨rfl, rfl⟩
          go_wp2_with fail
          go_roundw
          case rel => exact ⟨k + 1, os.take i, by omega, by omega, by omega, by go_num, HE.out⟩
          case measure => simp [intOf] <;> omega
        · have hd0 : ¬ (0 : Int) ≤ atV os m := by omega
          have HC := Lib.hid (Cut_no H2.out.pull1 hno)
          have HE := Lib.hid (H2.out.choose 3 [1, 2] rfl rfl)
          clear H2 ha hno
          (go_wp2_with fail)
          refine (HC.out).mono ?_
          rintro e w' ⟨rfl, rfl⟩
          clear HC
          have hol : (os).length < 1048576 := by omega
          have E1 := Lib.hid (Len_any HE.out)
          have E2 := rLen_any false HE.out.pull1 hol
          rw [cnt_false] at E2
          replace E2 := Lib.hid E2
          have E3 := Lib.hid (Marks_any HE.out)
          have E4 := rLen_any true HE.out.pull1 hol
          rw [cnt_true _ 0] at E4
          replace E4 := Lib.hid E4
          (go_wp2_with fail)
          refine (E1.out).mono ?_
          rintro e w' ⟨rfl, rfl⟩
          (go_wp2_with fail)
          refine (E2.out).mono ?_
          rintro e w' ⟨rfl, rfl⟩
          (go_wp2_with fail)
          refine (E3.out).mono ?_
          rintro e w' ⟨rfl, rfl⟩
          (go_wp2_with fail)
          refine (E4.out).mono ?_
          rintro e w' ⟨rfl, rfl⟩
          go_wp2_with fail
          go_roundw
          case rel => exact ⟨k + 1, os, by omega, by omega, by omega, by go_num, HE.out⟩
          case measure => simp [intOf] <;> omega
      by_cases e4 : kd = 4
      · subst e4
        clear e1 e2 e3
        rcases at_cases os m with ⟨M, i, q, rfl, ha, hi, hM, hq, hql, ht1, ht2, hm3⟩ | ⟨ha, hno⟩
        · have hd0 : (0 : Int) ≤ atV os (M : Int) := by omega
          have HC := Lib.hid (Forget_ok H2.out.pull1 hM)
          have HA := Lib.hid ha
          have T3 := Lib.hid hm3
          clear H2 ha hq ht1 ht2 hm3
          (go_wp2_with fail)
          refine (HC.out).mono ?_
          rintro e w' ⟨rfl, H⟩
          have HR := Lib.hid (rForget_any H.pull2 (by omega) HA.out (by omega))
          have b1 := H.pull1.cell 1
          clear HC H
          (go_wp2_with fail)
          refine (HR.out).mono ?_
          rintro e w' ⟨rfl, H⟩
          have HE := H.choose 3 [1, 0] rfl rfl
          replace HE : sat w w' (trail px (texts (os.take i ++ bare (os.drop i))) (mpos 0 (os.take i ++ bare (os.drop i))) :: rtrail w1.heap.size (os.take i ++ bare (os.drop i)) :: oldH w :: []) := by
            rw [texts_app, mpos_app, bare_texts, bare_mpos, List.append_nil, ← texts_split, T3.out]
            exact HE
          replace HE := Lib.hid HE
          have hol2 : (os.take i ++ bare (os.drop i)).length ≤ k + 1 := by
            have := List.length_filter_le (fun x : One => !x.1) (os.drop i)
            rw [List.length_append, List.length_take]
            unfold bare
            rw [List.length_drop] at this
            omega
          clear HR H T3
          have hol : (os.take i ++ bare (os.drop i)).length < 1048576 := by omega
          have E1 := Lib.hid (Len_any HE.out)
          have E2 := rLen_any false HE.out.pull1 hol
          rw [cnt_false] at E2
          replace E2 := Lib.hid E2
          have E3 := Lib.hid (Marks_any HE.out)
          have E4 := rLen_any true HE.out.pull1 hol
          rw [cnt_true _ 0] at E4
          replace E4 := Lib.hid E4
          (go_wp2_with fail)
          refine (E1.out).mono ?_
          rintro e w' ⟨rfl, rfl⟩
          (go_wp2_with fail)
          refine (E2.out).mono ?_
          rintro e w' ⟨rfl, rfl⟩
          (go_wp2_with fail)
          refine (E3.out).mono ?_
          rintro e w' ⟨rfl, rfl⟩
          (go_wp2_with fail)
          refine (E4.out).mono ?_
          rintro e w' ⟨rfl, rfl⟩
          go_wp2_with fail
          go_roundw
          case rel => exact ⟨k + 1, os.take i ++ bare (os.drop i), by omega, by omega, by omega, by go_num, HE.out⟩
          case measure => simp [intOf] <;> omega
        · have hd0 : ¬ (0 : Int) ≤ atV os m := by omega
          have HC := Lib.hid (Forget_no H2.out.pull1 hno)
          have HE := Lib.hid (H2.out.choose 3 [1, 2] rfl rfl)
          clear H2 ha hno
          (go_wp2_with fail)
          refine (HC.out).mono ?_
          rintro e w' ⟨rfl, rfl⟩
          clear HC
          have hol : (os).length < 1048576 := by omega
          have E1 := Lib.hid (Len_any HE.out)
          have E2 := rLen_any false HE.out.pull1 hol
          rw [cnt_false] at E2
          replace E2 := Lib.hid E2
          have E3 := Lib.hid (Marks_any HE.out)
          have E4 := rLen_any true HE.out.pull1 hol
          rw [cnt_true _ 0] at E4
          replace E4 := Lib.hid E4
          (go_wp2_with fail)
          refine (E1.out).mono ?_
          rintro e w' ⟨rfl, rfl⟩
          (go_wp2_with fail)
          refine (E2.out).mono ?_
          rintro e w' ⟨rfl, rfl⟩
          (go_wp2_with fail)
          refine (E3.out).mono ?_
          rintro e w' ⟨rfl, rfl⟩
          (go_wp2_with fail)
          refine (E4.out).mono ?_
          rintro e w' ⟨rfl, rfl⟩
          go_wp2_with fail
          go_roundw
          case rel => exact ⟨k + 1, os, by omega, by omega, by omega, by go_num, HE.out⟩
          case measure => simp [intOf] <;> omega
      by_cases e5 : kd = 5
      · subst e5
        clear e1 e2 e3 e4
        rcases at_cases os m with ⟨M, i, q, rfl, ha, hi, hM, hq, hql, ht1, ht2, hm3⟩ | ⟨ha, hno⟩
        · have hd0 : (0 : Int) ≤ atV os (M : Int) := by omega
          have HC := Lib.hid (Since_ok H2.out.pull1 hq hql (by omega))
          have HA := Lib.hid ha
          have T2 := Lib.hid ht2
          clear H2 ha hq ht1 ht2 hm3
          (go_wp2_with fail)
          refine (HC.out).mono ?_
          rintro e w' ⟨A1, n1, d1, rfl, H⟩
          have HR := Lib.hid (rSince_any H.pull3 (by omega) HA.out (by omega))
          have b1 := H.pull2.cell 1
          clear HC H
          (go_wp2_with fail)
          refine (HR.out).mono ?_
          rintro e w' ⟨A2, n2, d2, rfl, H⟩
          have he : (texts os).drop q = texts (os.drop i) := T2.out.symm
          have HS := Same_any A1 A2 n1 n2 d1 d2 _ _ w' H.pull2.len H.len H.pull2.Sl H.Sl (by rw [← H.pull2.len]; simp; omega) (by rw [← H.len, ← he]; simp; omega)
          rw [decide_eq_true he] at HS
          replace HS := Lib.hid HS
          have HE := H.choose 5 [3, 1] rfl rfl
          replace HE := Lib.hid HE
          clear HR H he T2
          (go_wp2_with fail)
          refine (HS.out).mono ?_
          rintro e w' ⟨rfl, qq, rfl⟩
          clear HS
          replace HE := Lib.hid (HE.out.drewN qq)
          refine nameW HE.out (fun W HE => ?_)
          replace HE := Lib.hid HE
          have hol : (os).length < 1048576 := by omega
          have E1 := Lib.hid (Len_any HE.out)
          have E2 := rLen_any false HE.out.pull1 hol
          rw [cnt_false] at E2
          replace E2 := Lib.hid E2
          have E3 := Lib.hid (Marks_any HE.out)
          have E4 := rLen_any true HE.out.pull1 hol
          rw [cnt_true _ 0] at E4
          replace E4 := Lib.hid E4
          (go_wp2_with fail)
          refine (E1.out).mono ?_
          rintro e w' ⟨rfl, rfl⟩
          (go_wp2_with fail)
          refine (E2.out).mono ?_
          rintro e w' ⟨rfl, rfl⟩
          (go_wp2_with fail)
          refine (E3.out).mono ?_
          rintro e w' ⟨rfl, rfl⟩
          (go_wp2_with fail)
          refine (E4.out).mono ?_
          rintro e w' ⟨rfl, rfl⟩
          go_wp2_with fail
          go_roundw
          case rel => exact ⟨k + 1, os, by omega, by omega, by omega, by go_num, HE.out⟩
          case measure => simp [intOf] <;> omega
        · have hd0 : ¬ (0 : Int) ≤ atV os m := by omega
          have HC := Lib.hid (Since_no H2.out.pull1 hno)
          have HE := Lib.hid (H2.out.choose 3 [1, 2] rfl rfl)
          clear H2 ha hno
          (go_wp2_with fail)
          refine (HC.out).mono ?_
          rintro e w' ⟨rfl, rfl⟩
          clear HC
          have hol : (os).length < 1048576 := by omega
          have E1 := Lib.hid (Len_any HE.out)
          have E2 := rLen_any false HE.out.pull1 hol
          rw [cnt_false] at E2
          replace E2 := Lib.hid E2
          have E3 := Lib.hid (Marks_any HE.out)
          have E4 := rLen_any true HE.out.pull1 hol
          rw [cnt_true _ 0] at E4
          replace E4 := Lib.hid E4
          (go_wp2_with fail)
          refine (E1.out).mono ?_
          rintro e w' ⟨rfl, rfl⟩
          (go_wp2_with fail)
          refine (E2.out).mono ?_
          rintro e w' ⟨rfl, rfl⟩
          (go_wp2_with fail)
          refine (E3.out).mono ?_
          rintro e w' ⟨rfl, rfl⟩
          (go_wp2_with fail)
          refine (E4.out).mono ?_
          rintro e w' ⟨rfl, rfl⟩
          go_wp2_with fail
          go_roundw
          case rel => exact ⟨k + 1, os, by omega, by omega, by omega, by go_num, HE.out⟩
          case measure => simp [intOf] <;> omega
      · have t1 : (kd == 1) = false := by rw [beq_eq_false_iff_ne]; exact e1
        have t2 : (kd == 2) = false := by rw [beq_eq_false_iff_ne]; exact e2
        have t3 : (kd == 3) = false := by rw [beq_eq_false_iff_ne]; exact e3
        have t4 : (kd == 4) = false := by rw [beq_eq_false_iff_ne]; exact e4
        have t5 : (kd == 5) = false := by rw [beq_eq_false_iff_ne]; exact e5
        have HE := Lib.hid (H2.out.choose 3 [1, 2] rfl rfl)
        clear e1 e2 e3 e4 e5 H2
        have hol : (os).length < 1048576 := by omega
        have E1 := Lib.hid (Len_any HE.out)
        have E2 := rLen_any false HE.out.pull1 hol
        rw [cnt_false] at E2
        replace E2 := Lib.hid E2
        have E3 := Lib.hid (Marks_any HE.out)
        have E4 := rLen_any true HE.out.pull1 hol
        rw [cnt_true _ 0] at E4
        replace E4 := Lib.hid E4
        (go_wp2_with fail)
        refine (E1.out).mono ?_
        rintro e w' ⟨rfl, rfl⟩
        (go_wp2_with fail)
        refine (E2.out).mono ?_
        rintro e w' ⟨rfl, rfl⟩
        (go_wp2_with fail)
        refine (E3.out).mono ?_
        rintro e w' ⟨rfl, rfl⟩
        (go_wp2_with fail)
        refine (E4.out).mono ?_
        rintro e w' ⟨rfl, rfl⟩
        go_wp2_with fail
        go_roundw
        case rel => exact ⟨k + 1, os, by omega, by omega, by omega, by go_num, HE.out⟩
        case measure => simp [intOf] <;> omega
    · have HB := Lib.hid H.pull2.toBelow
      clear H H0
      by_cases h1 : k < l.length
      · have k1 : (k : Int) < (l.length : Int) := by omega
        have k2 : ¬ (k : Int) < 200 := by omega
        go_wp2
        go_ret
        exact ⟨rfl, HB.out⟩
      · have k1 : ¬ (k : Int) < (l.length : Int) := by omega
        go_wp2
        go_ret
        exact ⟨rfl, HB.out⟩
theorem deed_of {vs : List Value} (h : fitsAll [.int .i64, .int .i64, .str] vs) : ∃ x : Deed, vs = encD x ∧ True := by
  obtain ⟨hl, hf⟩ := h
  match vs, hl with
  | [a, b, c], _ =>
    obtain ⟨x, rfl, _⟩ := hf 0 _ _ rfl rfl
    obtain ⟨y, rfl, _⟩ := hf 1 _ _ rfl rfl
    obtain ⟨z, rfl, _⟩ := hf 2 _ _ rfl rfl
    exact ⟨(x, y, z), rfl, trivial⟩
theorem plays_row (A : Option Addr) (c : Nat) (l : List (List Value)) (w : World) (_hc : l.length ≤ c) (hl : SlR 3 (fun v => v) w A l) (hw : ∀ vs ∈ l, fitsAll [.int .i64, .int .i64, .str] vs) (hm : l.length * 32 ≤ 140737488351232) :
    Calls Try.prog 13 #[.slice A l.length c] w fun e w' => e = .returned (.bool true) ∧ Below w.heap.size w w' := by
  obtain ⟨m, rfl, _⟩ := decode (enc := encD) (p := fun _ => True) (fun v hv => deed_of (hw v hv))
  rw [List.length_map] at hm ⊢
  exact plays_any A c m w (hl.map encD (fun _ => rfl)) (by omega)
end Go.Proofs.Ytafohemmjhjgbaa.Trails
