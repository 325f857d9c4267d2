/-
  The reference of a trail: one list of things and marks.
-/
import Derived.Test.YtafohemmjhjgbaaTrailCut
import Derived.Test.YtafohemmjhjgbaaRws
namespace Go.Proofs.Ytafohemmjhjgbaa.Trails
open Go.RowKit Go.Proofs.Ytafohemmjhjgbaa Go.Shelf

abbrev One := Bool × ByteArray
def encO (x : One) : List Value := [.bool x.1, .string x.2]
theorem encO_len (x : One) : (encO x).length = 2 := rfl
def rtrail (p : Nat) (os : List One) : HP := fun h => ∃ v : Option Addr × Nat × Nat, star [blk p #[.slice v.1 v.2.1 v.2.2] 83, rows 87 2 encO v.1 v.2.1 v.2.2 os] h
theorem rtrail_open {E w : World} {p : Nat} {os : List One} {L : List HP} (H : sat E w (rtrail p os :: L)) :
    ∃ A n c, os.length = n ∧ sat E w (blk p #[.slice A n c] 83 :: rows 87 2 encO A n c os :: L) := by
  obtain ⟨⟨A, n, c⟩, H⟩ := H.open_ex
  have H := H.flat
  exact ⟨A, n, c, H.pull1.rlen encO_len (by decide), H⟩
theorem rtrail_shut {E w : World} {p : Nat} {os : List One} {L : List HP} {A : Option Addr} {n c : Nat} (H : sat E w (blk p #[.slice A n c] 83 :: rows 87 2 encO A n c os :: L)) : sat E w (rtrail p os :: L) :=
  sat.shut_ex (A := fun v : Option Addr × Nat × Nat => star [blk p #[.slice v.1 v.2.1 v.2.2] 83, rows 87 2 encO v.1 v.2.1 v.2.2 os]) (A, n, c) (sat.fold (L := [_, _]) H)

/-- Where the m-th mark stands. -/
def atN : List One → Nat → Option Nat
  | [], _ => none
  | (true, _) :: os, 0 => some 0
  | (true, _) :: os, m + 1 => (atN os m).map (· + 1)
  | (false, _) :: os, m => (atN os m).map (· + 1)
def atI : Option Nat → Int
  | some i => i
  | none => -1
def atV (os : List One) (m : Int) : Int := if m < 0 then -1 else atI (atN os m.toNat)
theorem atN_stop (os : List One) (j : Nat) (h : os.length ≤ j) (m : Nat) : atN (os.drop j) m = none := by rw [List.drop_of_length_le h]; rfl
theorem drop_at {os : List One} {j : Nat} {x : One} (h : os[j]? = some x) : os.drop j = x :: os.drop (j + 1) := by
  have hl := (List.getElem?_eq_some_iff.1 h).1
  rw [List.drop_eq_getElem_cons hl]
  congr 1
  rw [List.getElem?_eq_getElem hl] at h
  exact Option.some.inj h
theorem atN_here {os : List One} {j : Nat} {s : ByteArray} (h : os[j]? = some (true, s)) : (atN (os.drop j) 0).map (· + j) = some j := by
  rw [drop_at h]
  show some (0 + j) = _
  rw [Nat.zero_add]
theorem atN_on {os : List One} {j m : Nat} {s : ByteArray} (h : os[j]? = some (true, s)) : (atN (os.drop j) (m + 1)).map (· + j) = (atN (os.drop (j + 1)) m).map (· + (j + 1)) := by
  rw [drop_at h]
  show ((atN (os.drop (j + 1)) m).map (· + 1)).map (· + j) = _
  rw [Option.map_map]
  congr 1
  funext k
  show k + 1 + j = k + (j + 1)
  omega
theorem atN_by {os : List One} {j m : Nat} {s : ByteArray} (h : os[j]? = some (false, s)) : (atN (os.drop j) m).map (· + j) = (atN (os.drop (j + 1)) m).map (· + (j + 1)) := by
  rw [drop_at h]
  show ((atN (os.drop (j + 1)) m).map (· + 1)).map (· + j) = _
  rw [Option.map_map]
  congr 1
  funext k
  show k + 1 + j = k + (j + 1)
  omega
set_option maxRecDepth 100000 in
theorem rAt_any {E w : World} {p : Nat} {os : List One} {L : List HP} (m : Int) (H : sat E w (rtrail p os :: L)) (hl : os.length < 1048576) :
    Calls Try.prog 59 #[.pointer (some ⟨p, 0, none⟩), .int .i64 m] w fun e w' => e = .returned (.int .i64 (atV os m)) ∧ w = w' := by
  obtain ⟨A, n, c, rfl, H⟩ := rtrail_open H
  have hp := H.cell 0
  have HS := Lib.hid (H.pull1.SlR encO_len (by decide))
  clear H
  by_cases hm : m < 0
  · have HV : Hid (atV os m = -1) := by show _ = _; unfold atV; rw [if_pos hm]
    have hm' : ¬ (0 : Int) ≤ m := by omega
    rw [HV.out]
    clear hm
    go_enter Try.func59, Try.ntmps59
    go_wp2
    go_loop [5, 6] (fun n i => n = .int .i64 0 ∧ i = .int .i64 0) (fun _ _ => 0)
    case atStart => exact ⟨rfl, rfl⟩
    case round =>
      obtain ⟨rfl, rfl⟩ := hrel
      by_cases h0 : 0 < os.length
      · have h1 : (0 : Int) < (os.length : Int) := by omega
        go_wp2
        go_ret
        exact ⟨rfl, rfl⟩
      · have h1 : ¬ (0 : Int) < (os.length : Int) := by omega
        go_wp2
        go_ret
        exact ⟨rfl, rfl⟩
  · obtain ⟨M, rfl⟩ := Int.eq_ofNat_of_zero_le (by omega : 0 ≤ m)
    have HV : Hid (atV os (M : Int) = atI (atN os M)) := by show _ = _; unfold atV; rw [if_neg hm, Int.toNat_natCast]
    rw [HV.out]
    clear hm HV
    have m0 : (0 : Int) ≤ (M : Int) := by omega
    go_enter Try.func59, Try.ntmps59
    go_wp2
    go_loop [5, 6] (fun n i => ∃ k j : Nat, n = .int .i64 k ∧ i = .int .i64 j ∧ k ≤ M ∧ k ≤ j ∧ j ≤ os.length ∧ atN os M = (atN (os.drop j) (M - k)).map (· + j)) (fun _ i => os.length - (intOf i).toNat)
    case atStart => exact ⟨0, 0, rfl, rfl, Nat.zero_le _, Nat.zero_le _, Nat.zero_le _, by simp⟩
    case round =>
      obtain ⟨k, j, rfl, rfl, hk, hkj, hj, hat⟩ := hrel
      have HT := Lib.hid hat
      clear hat
      by_cases hlt : j < os.length
      · obtain ⟨⟨b, s⟩, ex⟩ : ∃ x, os[j]? = some x := ⟨_, List.getElem?_eq_getElem hlt⟩
        obtain ⟨g, o, rfl, -, hc⟩ := HS.out.cells ex
        have c0 := hc 0 _ rfl
        rw [Nat.add_zero] at c0
        have j0 : (0 : Int) ≤ (j : Int) := by omega
        have j1 : (j : Int) < (os.length : Int) := by omega
        clear hc
        cases b with
        | true =>
          by_cases hkm : k = M
          · subst hkm
            have t : ((k : Int) == (k : Int)) = true := by simp
            have e := HT.out
            rw [Nat.sub_self, atN_here ex] at e
            have HE := Lib.hid e
            clear e ex HT
            go_wp2
            go_ret
            exact ⟨by rw [HE.out]; rfl, rfl⟩
          · have t : ((k : Int) == (M : Int)) = false := by rw [beq_eq_false_iff_ne]; omega
            have e := HT.out
            rw [show M - k = (M - (k + 1)) + 1 by omega, atN_on ex] at e
            have HE := Lib.hid e
            clear e ex HT
            go_wp2
            go_round
            case rel => exact ⟨k + 1, j + 1, by go_num, by go_num, by omega, by omega, by omega, HE.out⟩
            case measure => simp [intOf]; omega
        | false =>
          have e := HT.out
          rw [atN_by ex] at e
          have HE := Lib.hid e
          clear e ex HT
          go_wp2
          go_round
          case rel => exact ⟨k, j + 1, rfl, by go_num, by omega, by omega, by omega, HE.out⟩
          case measure => simp [intOf]; omega
      · have e := HT.out
        rw [atN_stop os j (by omega)] at e
        have HE := Lib.hid e
        have j1 : ¬ (j : Int) < (os.length : Int) := by omega
        clear e HT
        go_wp2
        go_ret
        exact ⟨by rw [HE.out]; rfl, rfl⟩

set_option maxRecDepth 100000 in
theorem rLen_any {E w : World} {p : Nat} {os : List One} {L : List HP} (m : Bool) (H : sat E w (rtrail p os :: L)) (hl : os.length < 1048576) :
    Calls Try.prog 60 #[.pointer (some ⟨p, 0, none⟩), .bool m] w fun e w' => e = .returned (.int .i64 (os.countP fun x => x.1 == m)) ∧ w = w' := by
  obtain ⟨A, n, c, rfl, H⟩ := rtrail_open H
  have hp := H.cell 0
  have HS := Lib.hid (H.pull1.SlR encO_len (by decide))
  clear H
  go_enter Try.func60, Try.ntmps60
  go_wp2
  go_loop [5, 6] (fun n i => ∃ j : Nat, n = .int .i64 ((os.take j).countP fun x => x.1 == m) ∧ i = .int .i64 j ∧ j ≤ os.length) (fun _ i => os.length - (intOf i).toNat)
  case atStart => exact ⟨0, rfl, rfl, Nat.zero_le _⟩
  case round =>
    obtain ⟨j, rfl, rfl, hj⟩ := hrel
    by_cases hlt : j < os.length
    · obtain ⟨⟨b, s⟩, ex⟩ : ∃ x, os[j]? = some x := ⟨_, List.getElem?_eq_getElem hlt⟩
      obtain ⟨g, o, rfl, -, hc⟩ := HS.out.cells ex
      have c0 := hc 0 _ rfl
      rw [Nat.add_zero] at c0
      have j0 : (0 : Int) ≤ (j : Int) := by omega
      have j1 : (j : Int) < (os.length : Int) := by omega
      have e1 : (os.take (j + 1)).countP (fun x => x.1 == m) = (os.take j).countP (fun x => x.1 == m) + (if b == m then 1 else 0) := by
        rw [List.take_add_one, ex, List.countP_append]
        congr 1
        show List.countP _ [(b, s)] = _
        rw [List.countP_singleton]
      have hcl := List.countP_le_length (p := fun x : One => x.1 == m) (l := os.take j)
      rw [List.length_take] at hcl
      generalize (os.take j).countP (fun x => x.1 == m) = q at *
      have hq : q ≤ 1048576 := by omega
      have E1 := Lib.hid e1
      clear hc e1 ex hcl
      by_cases hb : b = m
      · subst hb
        have t : (b == b) = true := by simp
        have E2 := E1.out
        rw [if_pos t] at E2
        have E3 := Lib.hid E2
        clear E1 E2
        go_wp2
        go_round
        case rel => exact ⟨j + 1, by rw [E3.out]; go_num, by go_num, by omega⟩
        case measure => simp [intOf]; omega
      · have t : (b == m) = false := by simpa using hb
        have E2 := E1.out
        rw [if_neg (by rw [t]; simp)] at E2
        have E3 := Lib.hid E2
        clear E1 E2
        go_wp2
        go_round
        case rel => exact ⟨j + 1, by rw [E3.out]; rfl, by go_num, by omega⟩
        case measure => simp [intOf]; omega
    · have j1 : ¬ (j : Int) < (os.length : Int) := by omega
      have e : os.take j = os := List.take_of_length_le (by omega)
      rw [e]
      clear e
      go_wp2
      go_ret
      exact ⟨rfl, rfl⟩

/-- The things alone. -/
def texts : List One → List ByteArray
  | [] => []
  | (true, _) :: os => texts os
  | (false, s) :: os => s :: texts os
theorem texts_len : ∀ os : List One, (texts os).length ≤ os.length
  | [] => Nat.le_refl _
  | (true, _) :: os => by have := texts_len os; simp [texts]; omega
  | (false, s) :: os => by have := texts_len os; simp [texts]; omega
set_option maxRecDepth 100000 in
theorem rSince_any {E w : World} {p k : Nat} {os : List One} {L : List HP} {m : Int} (H : sat E w (rtrail p os :: L)) (hl : os.length < 1048576) (ha : atV os m = k) (hk : k ≤ os.length) :
    Calls Try.prog 64 #[.pointer (some ⟨p, 0, none⟩), .int .i64 m] w fun e w' => ∃ A n c, e = .returned (.slice A n c) ∧ sat E w' (vec 9 Value.string A n c (texts (os.drop k)) :: rtrail p os :: L) := by
  obtain ⟨A, n, c, rfl, H1⟩ := rtrail_open H
  have HE := Lib.hid (H1.emptyLit Value.string 9)
  have H0 := Lib.hid (H.emptyLit Value.string 9)
  have HC := rAt_any m H0.out.pull1 hl
  rw [ha] at HC
  replace HC := Lib.hid HC
  clear H H1
  go_enter Try.func64, Try.ntmps64
  (go_wp2_with fail)
  refine (HC.out).mono ?_
  rintro e w' ⟨rfl, rfl⟩
  clear HC H0
  go_wp2_with fail
  go_loopw [5, 6] (fun out i wr => ∃ (j n' c' : Nat) (A' : Option Addr) (T : List ByteArray), out = .slice A' n' c' ∧ i = .int .i64 j ∧ k ≤ j ∧ j ≤ os.length ∧ T ++ texts (os.drop j) = texts (os.drop k) ∧ sat E wr (vec 9 Value.string A' n' c' T :: blk p #[.slice A os.length c] 83 :: rows 87 2 encO A os.length c os :: L)) (fun _ i _ => os.length - (intOf i).toNat)
  case atStart => exact ⟨k, 0, 0, _, [], rfl, rfl, Nat.le_refl _, hk, rfl, HE.out⟩
  case round =>
    obtain ⟨j, n', c', A', T, rfl, rfl, hkj, hj, ht, H⟩ := hrel
    have HT := Lib.hid ht
    have hlen := H.len
    have htl := congrArg List.length ht
    rw [List.length_append] at htl
    have ht2 := texts_len (os.drop k)
    rw [List.length_drop] at ht2
    have hn : n' < 1099511627776 := by omega
    have HN := Lib.hid hn
    have HH := Lib.hid H
    have hp := H.pull1.cell 0
    clear ht H HE hlen htl ht2 hn
    by_cases hlt : j < os.length
    · obtain ⟨⟨b, s⟩, ex⟩ : ∃ x, os[j]? = some x := ⟨_, List.getElem?_eq_getElem hlt⟩
      obtain ⟨g, o, rfl, -, hc⟩ := (HH.out.pull2.SlR encO_len (by decide)).cells ex
      have c0 := hc 0 _ rfl
      have c1 := hc 1 _ rfl
      rw [Nat.add_zero] at c0
      have j0 : (0 : Int) ≤ (j : Int) := by omega
      have j1 : (j : Int) < (os.length : Int) := by omega
      have hd := HT.out
      rw [drop_at ex] at hd
      have HD := Lib.hid hd
      clear hc ex hd HT
      cases b with
      | true =>
        go_wp2
        go_roundw
        case rel => exact ⟨j + 1, n', c', A', T, rfl, by go_num, by omega, by omega, HD.out, HH.out⟩
        case measure => simp [intOf]; omega
      | false =>
        go_wp2_with (at_builtin; go_must (refine wpList_app1 rfl (.tmp 29) (.tmp 38) 43 rfl infoS Try.underlying43 rfl (by decide) HH.out s rfl rfl rfl rfl (string_one s) HN.out ?_))
        intro A2 c2 w2 H2
        have H3 := Lib.hid H2
        clear H2 HH
        go_wp2
        go_roundw
        case rel => exact ⟨j + 1, n' + 1, c2, A2, T ++ [s], rfl, by go_num, by omega, by omega, by rw [List.append_assoc]; exact HD.out, H3.out⟩
        case measure => simp [intOf]; omega
    · have j1 : ¬ (j : Int) < (os.length : Int) := by omega
      have he := HT.out
      rw [List.drop_of_length_le (by omega : os.length ≤ j)] at he
      have he2 : T = texts (os.drop k) := by rw [← he]; exact (List.append_nil _).symm
      have HF := HH.out
      rw [he2] at HF
      have HF2 := Lib.hid HF
      clear he he2 HF HH HT
      go_wp2
      go_ret
      exact ⟨_, _, _, rfl, by have := HF2.out.pull2.pull2; exact (rtrail_shut this).pull1⟩

theorem infoO : (Try.prog.info? 87).map (fun i => (i.zero, i.size, i.bytes)) = some (some (.agg #[.bool false, .string ByteArray.empty]), 2, 24) := by kernel_rfl
theorem encO_one (x : One) : ∀ v ∈ encO x, v.oneCell' = true := by intro v hv; simp [encO] at hv; rcases hv with rfl | rfl <;> rfl
set_option maxRecDepth 100000 in
theorem rCut_any {E w : World} {p k : Nat} {os : List One} {L : List HP} {m : Int} (H : sat E w (rtrail p os :: L)) (hl : os.length < 1048576) (ha : atV os m = k) (hk : k ≤ os.length) :
    Calls Try.prog 61 #[.pointer (some ⟨p, 0, none⟩), .int .i64 m] w fun e w' => ∃ A n c, e = .returned (.slice A n c) ∧ sat E w' (vec 9 Value.string A n c (texts (os.drop k)).reverse :: rtrail p (os.take k) :: L) := by
  have HC := Lib.hid (rSince_any H hl ha hk)
  have HAT : ∀ W M, sat E W (rtrail p os :: M) → Calls Try.prog 59 #[.pointer (some ⟨p, 0, none⟩), .int .i64 m] W fun e w' => e = .returned (.int .i64 k) ∧ w' = W := fun W M h => by
    have := rAt_any m h hl
    rw [ha] at this
    exact this.mono fun e w' ⟨h1, h2⟩ => ⟨h1, h2.symm⟩
  have HT := Lib.hid HAT
  have ht2 := texts_len (os.drop k)
  rw [List.length_drop] at ht2
  generalize hx : texts (os.drop k) = xs at *
  clear H HAT hx
  go_enter Try.func61, Try.ntmps61
  (go_wp2_with fail)
  refine (HC.out).mono ?_
  rintro e w' ⟨As, ns, cs, rfl, H⟩
  obtain rfl : xs.length = ns := H.len
  have HE := Lib.hid (H.emptyLit Value.string 9)
  have hw1 : xs.length < 1048576 := by omega
  have HW := Lib.hid hw1
  have hw2 : (xs.length : Int) < 1048576 := by omega
  clear H HC ht2 hw1
  go_wp2_with fail
  go_loopw [6, 7] (fun out i wr => ∃ (j n' c' : Nat) (A' : Option Addr), out = .slice A' n' c' ∧ i = .int .i64 ((j : Int) - 1) ∧ j ≤ xs.length ∧ sat E wr (vec 9 Value.string A' n' c' (xs.drop j).reverse :: vec 9 Value.string As xs.length cs xs :: rtrail p os :: L)) (fun _ i _ => (intOf i + 1).toNat)
  case atStart => exact ⟨xs.length, 0, 0, _, rfl, rfl, Nat.le_refl _, by rw [List.drop_length]; exact HE.out⟩
  case round =>
    obtain ⟨j, n', c', A', rfl, rfl, hj, H⟩ := hrel
    have HH := Lib.hid H
    have hn := H.len
    rw [List.length_reverse, List.length_drop] at hn
    have hn2 : n' < 1099511627776 := by have := HW.out; omega
    have HN := Lib.hid hn2
    clear H HE hn hn2
    by_cases hlt : 0 < j
    · obtain ⟨i, rfl⟩ : ∃ i, j = i + 1 := ⟨j - 1, by omega⟩
      obtain ⟨s, ex⟩ : ∃ x, xs[i]? = some x := ⟨_, List.getElem?_eq_getElem (by omega)⟩
      obtain ⟨g, o, rfl, -, c0⟩ := HH.out.pull1.Sl.cell ex
      have e0 : ((i + 1 : Nat) : Int) - 1 = (i : Int) := by omega
      rw [e0]
      have j0 : (0 : Int) ≤ (i : Int) := by omega
      have j1 : (i : Int) < (xs.length : Int) := by omega
      have hd : (xs.drop i).reverse = (xs.drop (i + 1)).reverse ++ [s] := by
        have hl := (List.getElem?_eq_some_iff.1 ex).1
        rw [List.drop_eq_getElem_cons hl, List.reverse_cons]
        congr 2
        rw [List.getElem?_eq_getElem hl] at ex
        exact Option.some.inj ex
      have HD := Lib.hid hd
      clear ex hd e0
      go_wp2_with (at_builtin; go_must (refine wpList_app1 rfl (.tmp 19) (.tmp 24) 43 rfl infoS Try.underlying43 rfl (by decide) HH.out s rfl rfl rfl rfl (string_one s) HN.out ?_))
      intro A2 c2 w2 H2
      have H3 := Lib.hid H2
      clear H2 HH
      go_wp2
      go_roundw
      case rel => exact ⟨i, n' + 1, c2, A2, rfl, by go_num, by omega, by rw [HD.out]; exact H3.out⟩
      case measure => simp [intOf] <;> omega
    · obtain rfl : j = 0 := by omega
      have j1 : ¬ (0 : Int) ≤ ((0 : Nat) : Int) - 1 := by omega
      have HF := HH.out
      rw [List.drop_zero] at HF
      obtain ⟨A, n, c, rfl, HG⟩ := rtrail_open HF.pull2
      have HF2 := Lib.hid HG
      have k0 : (0 : Int) ≤ (k : Int) := by omega
      clear HF HH HG
      go_wp2
      have i1 : (k : Int) ≤ (c : Int) := by have := HF2.out.pull1.rcap; omega
      refine Reg.wp_region_s (HF2.out) (fun W => W.cell? ⟨p, 0, none⟩ = some (.slice A os.length c) ∧ Hid (Calls Try.prog 59 #[.pointer (some ⟨p, 0, none⟩), .int .i64 m] W fun e w' => e = .returned (.int .i64 k) ∧ w' = W)) [5, 8] [1, 10, 13] [0, 2, 3, 4, 5, 6, 7, 8, 9, 1, 10, 11, 12, 13] (by kernel_rfl) (by kernel_rfl) (fun W HW => ⟨HW.cell 0, HT.out _ _ (rtrail_shut HW)⟩) (fun W HW => ?_)
      simp only [Reg.pickOps, List.map_cons, List.map_nil, List.getD_cons_zero, List.getD_cons_succ, List.contains_cons, List.contains_nil, Nat.reduceBEq, Bool.or_false, Bool.or_true, Bool.or_self]
      iterate 4 (refine Reg.wpX_y (v := ?_) (fun w' => ?_) rfl ?_; rotate_left 1; focus (go_simp; (try with_reducible rfl)))
      (refine Reg.wpX_l (v := ?_) rfl (fun w' hw => ?_) rfl ?_; rotate_left 1; focus ((try dsimp only at hw); go_split_ands; go_simp; (try with_reducible rfl)))
      iterate 2 (refine Reg.wpX_y (v := ?_) (fun w' => ?_) rfl ?_; rotate_left 1; focus (go_simp; (try with_reducible rfl)))
      try simp only [Act.put, List.setIfInBounds_toArray, List.set_cons_zero, List.set_cons_succ]
      refine Reg.wpX_c rfl ?_ (fun w' hS => hS.2.out) rfl ?_
      · intro w'; go_simp; (try with_reducible rfl)
      (refine Reg.wpX_y (v := ?_) (fun w' => ?_) rfl ?_; rotate_left 1; focus (go_simp; (try with_reducible rfl)))
      try simp only [Act.put, List.setIfInBounds_toArray, List.set_cons_zero, List.set_cons_succ]
      refine Reg.wpX_go rfl (fun K hK => ?_)
      go_simp
      have HB := Lib.hid ((HW.emptyRows 87 2 encO))
      have hsl : SlR 2 encO W A os := HW.pull1.SlR encO_len (by decide)
      have hsl2 : SlR 2 encO (W.alloc (.cells #[] 87)) A (os.take k) := (HB.out.pull2.SlR encO_len (by decide)).take k
      have hm : (os.take k).length = k := by rw [List.length_take]; omega
      refine hK _ _ ⟨HB.out.pull1.cell 0, HT.out _ _ (rtrail_shut HB.out.push2)⟩ ?_
      try simp only [Act.put, List.setIfInBounds_toArray, List.set_cons_zero, List.set_cons_succ]
      refine Reg.wpX_go rfl (fun K hK => ?_)
      refine wp_appRS (.tmp 27) (.tmp 35) 81 rfl infoO Try.underlying81 rfl encO_len (by decide) (by decide) HB.out rfl rfl hm hsl2 encO_one (by omega) (fun A3 c3 w3 H3 => ?_)
      rw [Nat.zero_add, List.nil_append] at H3
      rw [Nat.zero_add]
      refine hK _ _ ⟨H3.pull1.cell 0, HT.out _ _ (rtrail_shut H3.push2)⟩ ?_
      iterate 2 (refine Reg.wpX_y (v := ?_) (fun w' => ?_) rfl ?_; rotate_left 1; focus (go_simp; (try with_reducible rfl)))
      try simp only [Act.put, List.setIfInBounds_toArray, List.set_cons_zero, List.set_cons_succ]
      have c3' := H3.pull1.cell 0
      have f3 := H3.pull1.frozen 0
      refine Reg.wpX_last rfl (by kernel_rfl) (fun K hK => ?_)
      go_simp
      have H4 := Lib.hid (rtrail_shut ((H3.pull1.setCell 0 (.slice A3 k c3)).choose 3 [0, 1] rfl rfl))
      refine hK _ _ ?_
      try simp only [Act.put, List.setIfInBounds_toArray, List.set_cons_zero, List.set_cons_succ]
      refine Reg.wpX_nil ?_
      go_wp2
      go_ret
      exact ⟨_, _, _, rfl, H4.out.choose 3 [1, 0] rfl rfl⟩

/-- Without its marks. -/
def bare (os : List One) : List One := os.filter fun x => !x.1
theorem bare_true {os : List One} {j : Nat} {s : ByteArray} (h : os[j]? = some (true, s)) : bare (os.drop j) = bare (os.drop (j + 1)) := by rw [drop_at h]; rfl
theorem bare_false {os : List One} {j : Nat} {s : ByteArray} (h : os[j]? = some (false, s)) : bare (os.drop j) = (false, s) :: bare (os.drop (j + 1)) := by rw [drop_at h]; rfl
set_option maxRecDepth 100000 in
theorem rForget_any {E w : World} {p k : Nat} {os : List One} {L : List HP} {m : Int} (H : sat E w (rtrail p os :: L)) (hl : os.length < 1048576) (ha : atV os m = k) (hk : k ≤ os.length) :
    Calls Try.prog 63 #[.pointer (some ⟨p, 0, none⟩), .int .i64 m] w fun e w' => e = .returned undef ∧ sat E w' (rtrail p (os.take k ++ bare (os.drop k)) :: L) := by
  have HC := rAt_any m H hl
  rw [ha] at HC
  replace HC := Lib.hid HC
  obtain ⟨A, n, c, rfl, H⟩ := rtrail_open H
  have HB := Lib.hid (H.emptyRows 87 2 encO)
  have hp := HB.out.pull1.cell 0
  have hsl : Hid (SlR 2 encO (w.alloc (.cells #[] 87)) A (os.take k)) := (HB.out.pull2.SlR encO_len (by decide)).take k
  have hm : Hid ((os.take k).length = k) := by show _ = _; rw [List.length_take]; omega
  have hkn : Hid (0 + k ≤ 1099511627776) := by show _ ≤ _; omega
  have i0 : (0 : Int) ≤ (k : Int) := by omega
  have i1 : (k : Int) ≤ (c : Int) := by have := H.pull1.rcap; omega
  clear H
  go_enter Try.func63, Try.ntmps63
  (go_wp2_with fail)
  refine (HC.out).mono ?_
  rintro e w' ⟨rfl, rfl⟩
  clear HC
  go_wp2_with (at_builtin; go_must (refine wpList_appRS rfl (.tmp 10) (.tmp 16) 81 rfl infoO Try.underlying81 rfl encO_len (by decide) (by decide) HB.out rfl rfl hm.out hsl.out encO_one hkn.out ?_))
  intro A3 c3 w3 H3
  have HH3 := Lib.hid H3
  clear H3 HB hsl hp
  go_wp2_with fail
  go_loopw [5, 6] (fun out i wr => ∃ (j n' c' : Nat) (A' : Option Addr) (T : List One), out = .slice A' n' c' ∧ i = .int .i64 j ∧ k ≤ j ∧ j ≤ os.length ∧ T ++ bare (os.drop j) = os.take k ++ bare (os.drop k) ∧ sat E wr (rows 87 2 encO A' n' c' T :: blk p #[.slice A os.length c] 83 :: rows 87 2 encO A os.length c os :: L)) (fun _ i _ => os.length - (intOf i).toNat)
  case atStart => exact ⟨k, k, c3, A3, _, rfl, rfl, Nat.le_refl _, hk, rfl, HH3.out⟩
  case round =>
    obtain ⟨j, n', c', A', T, rfl, rfl, hkj, hj, ht, H⟩ := hrel
    have HT := Lib.hid ht
    have hlen := H.rlen encO_len (by decide)
    have htl := congrArg List.length ht
    have ht2 : (bare (os.drop k)).length ≤ (os.drop k).length := List.length_filter_le _ _
    rw [List.length_append, List.length_append, List.length_take] at htl
    rw [List.length_drop] at ht2
    have hn : n' < 1099511627776 := by omega
    have HN := Lib.hid hn
    have HH := Lib.hid H
    have hp := H.pull1.cell 0
    clear ht H HH3 hlen htl ht2 hn
    by_cases hlt : j < os.length
    · obtain ⟨⟨b, s⟩, ex⟩ : ∃ x, os[j]? = some x := ⟨_, List.getElem?_eq_getElem hlt⟩
      obtain ⟨g, o, rfl, -, hc⟩ := (HH.out.pull2.SlR encO_len (by decide)).cells ex
      have c0 := hc 0 _ rfl
      have c1 := hc 1 _ rfl
      rw [Nat.add_zero] at c0
      have j0 : (0 : Int) ≤ (j : Int) := by omega
      have j1 : (j : Int) < (os.length : Int) := by omega
      cases b with
      | true =>
        have hd := HT.out
        rw [bare_true ex] at hd
        have HD := Lib.hid hd
        clear hc ex hd HT
        go_wp2
        go_roundw
        case rel => exact ⟨j + 1, n', c', A', T, rfl, by go_num, by omega, by omega, HD.out, HH.out⟩
        case measure => simp [intOf]; omega
      | false =>
        have hd := HT.out
        rw [bare_false ex] at hd
        have HD := Lib.hid hd
        clear hc ex hd HT
        go_wp2_with (at_builtin; go_must (refine wpList_appR1 rfl (.tmp 37) (.tmp 45) 81 rfl infoO Try.underlying81 rfl encO_len (by decide) (by decide) HH.out (false, s) rfl rfl rfl rfl (encO_one _) HN.out ?_))
        intro A2 c2 w2 H2
        have H3 := Lib.hid H2
        clear H2 HH
        go_wp2
        go_roundw
        case rel => exact ⟨j + 1, n' + 1, c2, A2, T ++ [(false, s)], rfl, by go_num, by omega, by omega, by rw [List.append_assoc]; exact HD.out, H3.out⟩
        case measure => simp [intOf]; omega
    · have j1 : ¬ (j : Int) < (os.length : Int) := by omega
      have he := HT.out
      rw [List.drop_of_length_le (by omega : os.length ≤ j)] at he
      have he2 : T = os.take k ++ bare (os.drop k) := by rw [← he]; exact (List.append_nil _).symm
      have HF := HH.out
      have fz := HF.pull1.frozen 0
      rw [he2] at HF
      have HF2 := Lib.hid (rtrail_shut ((HF.pull1.setCell 0 (.slice A' n' c')).choose 3 [0, 1] rfl rfl))
      clear he he2 HF HH HT
      go_wp2
      go_end0
      exact ⟨rfl, HF2.out⟩
end Go.Proofs.Ytafohemmjhjgbaa.Trails
