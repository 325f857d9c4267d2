/-
  SumOpens, its walk: what is sealed is opened, and whatever else is told by the two openers alike.
-/
import Derived.Test.YtafohemmjhjgbaaSealRef
import Derived.Test.YtafohemmjhjgbaaSumFinds
namespace Go.Proofs.Ytafohemmjhjgbaa.Sum
open Go.RowKit Go.Proofs.Ytafohemmjhjgbaa Go.Proofs.Ytafohemmjhjgbaa.Crc

set_option maxHeartbeats 1000000 in
set_option maxRecDepth 100000 in
theorem opens_any (e o : Nat) (A B : Option Addr) (c d : Nat) (l m : List UInt8) (n : Int) (w : World) (he : e < 4294967296) (ho : o < 4294967296) (hl : Sl B8 w A l) (hm : Sl B8 w B m) (hmd : m.length ≤ d) (h1 : l.length ≤ 140737488351232) (h2 : m.length ≤ 140737488351232) :
    Calls Try.prog 6 #[.int .u32 e, .int .u32 o, .slice A l.length c, .slice B m.length d, .int .i64 n] w fun x w' => x = .returned (.bool true) ∧ Below w.heap.size w w' := by
  have AW := Lib.hid awake_any
  by_cases h3 : 3000 < l.length
  · go_enter Try.func6, Try.ntmps6
    go_wp2_with fail
    refine (AW.out _).mono ?_
    rintro x w1 ⟨rfl, hb1⟩
    have q1 : (3000 : Int) < (l.length : Int) := by omega
    go_wp2
    go_ret
    exact ⟨rfl, hb1⟩
  · have q1 : ¬ (3000 : Int) < (l.length : Int) := by omega
    by_cases h4 : 3000 < m.length
    · go_enter Try.func6, Try.ntmps6
      go_wp2_with fail
      refine (AW.out _).mono ?_
      rintro x w1 ⟨rfl, hb1⟩
      have q2 : (3000 : Int) < (m.length : Int) := by omega
      go_wp2
      go_ret
      exact ⟨rfl, hb1⟩
    · have q2 : ¬ (3000 : Int) < (m.length : Int) := by omega
      have S := Lib.hid (fun W hW => Seal_any e A l.length c l W he rfl hW h1)
      go_enter Try.func6, Try.ntmps6
      go_wp2_with fail
      refine (AW.out _).mono ?_
      rintro x w1 ⟨rfl, hb1⟩
      have hl1 := Lib.hid (hl.below hb1)
      have hm1 := Lib.hid (hm.below hb1)
      clear hl hm
      go_wp2_with fail
      refine (S.out _ hl1.out).mono ?_
      rintro x w2 ⟨v, rfl, hown, hb2⟩
      have hsl := sealB_len e l
      have hlm : ((sealB e l).map B8).length = l.length + 12 := by rw [List.length_map, hsl]
      rw [hlm] at hown
      obtain ⟨g, c2, rfl, hgb⟩ := own_some hown (by omega)
      have ss := Sl.of_own hown
      have HO := Lib.hid hown
      have hn0 : (w2.alloc (Obj.cells #[] 5)).ownsRow w2.heap.size 5 1 (.slice (some ⟨w2.heap.size, 0, none⟩) 0 0) 0 [] := World.ownsRow_lit w2 #[] 0 (Nat.le_refl _) (by decide) rfl
      have hb20 : Below w2.heap.size w2 (w2.alloc (Obj.cells #[] 5)) := (Below.refl _ _).alloc (Nat.le_refl _) _
      have HN0 := Lib.hid hn0
      have HB20 := Lib.hid hb20
      have s20 := Lib.hid (ss.below hb20)
      clear hn0 hb20
      go_wp2_with (at_builtin; go_must (refine wpList_append_sl rfl (.tmp 40) (.tmp 41) 29 rfl w2.heap.size info8 Try.underlying29 rfl (xs := []) HN0.out rfl rfl hsl s20.out B8_one ?c1 ?c2 ?c3 ?_))
      case c1 => unfold maxLen; simp; omega
      case c2 => simp; omega
      case c3 => simp
      intro v3 w3 hown3 hg3 _
      have hb23 := below_behind HB20.out HN0.out hg3 (Nat.le_refl _) HB20.out.size
      have hown3' : w3.ownsRow w2.heap.size 5 1 v3 (l.length + 12) ((sealB e l).map B8) := by simpa using hown3
      rw [← hlm] at hown3'
      have HO3 := Lib.hid hown3'
      have HB23 := Lib.hid hb23
      have HB02 := Lib.hid (hb1.trans (hb2.mono hb1.size))
      have m2 := Lib.hid (hm1.out.below hb2)
      have m3 := Lib.hid (m2.out.below hb23)
      have l2 := Lib.hid (hl1.out.below hb2)
      clear hown3 hown3' hg3 hb23 s20 HN0 HB20 hb1 hb2 S hl1 hm1
      go_wp2_with (at_builtin; go_must (refine wpList_append_sl rfl (.tmp 42) (.tmp 43) 29 rfl w2.heap.size info8 Try.underlying29 rfl HO3.out rfl rfl rfl m3.out B8_one ?c1 ?c2 ?c3 ?_))
      case c1 => unfold maxLen; simp; omega
      case c2 => simp; omega
      case c3 => exact HB23.out.size
      intro v4 w4 hown4 hg4 _
      have hb24 := below_behind HB23.out HO3.out hg4 (Nat.le_refl _) HB23.out.size
      have hown4' : w4.ownsRow w2.heap.size 5 1 v4 (l.length + 12 + m.length) ((sealB e l ++ m).map B8) := by rw [List.map_append]; simpa using hown4
      obtain ⟨A4, c4, rfl⟩ := own_form hown4'
      have sx := Lib.hid (Sl.of_own hown4')
      have HB24 := Lib.hid hb24
      have s4 := Lib.hid (ss.below hb24)
      go_wp2_with fail
      have hop : openB e (sealB e l ++ m) = (l, l.length + 12, 0) := open_sealed e l m he (by omega)
      have OP := Lib.hid (Open_any e A4 (l.length + 12 + m.length) c4 _ w4 he (by rw [List.length_append, hsl]) (own_cap hown4') sx.out (by omega))
      rw [hop] at OP
      have l4 := Lib.hid (l2.out.below hb24)
      have m4 := Lib.hid (m2.out.below hb24)
      clear hop hown4 hown4' hg4 hb24
      go_wp2_with fail
      refine OP.out.mono ?_
      rintro x w5 ⟨v5, rfl, hown5, hb5⟩
      replace hown5 : w5.ownsRow w4.heap.size 5 1 v5 (l.map B8).length (l.map B8) := hown5
      have HB25 := Lib.hid (HB24.out.trans (hb5.mono HB24.out.size))
      have l5 := Lib.hid (l4.out.below hb5)
      have m5 := Lib.hid (m4.out.below hb5)
      have s5 := Lib.hid (s4.out.below hb5)
      have HL5 : Hid ((l.map B8).length = l.length) := by show _ = _; simp
      rw [HL5.out] at hown5
      obtain ⟨A5, c5, rfl⟩ := own_form hown5
      have hx5 := Sl.of_own hown5
      have X5 := Lib.hid hx5
      have RS := Lib.hid (fun W hW => RSeal_any e A l.length c l W he rfl hW h1)
      clear hown5 hb5 hx5 OP l4 m4 s4 sx HO3 m3 l2 m2 HB24 HB23
      go_wp2_with fail
      refine (RS.out _ l5.out).mono ?_
      rintro x w6 ⟨v6, rfl, hown6, hb6⟩
      rw [hlm] at hown6
      obtain ⟨A6, c6, rfl⟩ := own_form hown6
      have HB26 := Lib.hid (HB25.out.trans (hb6.mono HB25.out.size))
      have HB06 := Lib.hid (HB02.out.trans (HB26.out.mono HB02.out.size))
      have s6 := s5.out.below hb6
      have x6 := X5.out.below hb6
      have l6 := l5.out.below hb6
      have m6 := Lib.hid (m5.out.below hb6)
      have SM := Lib.hid (same_any (some ⟨g, 0, none⟩) A6 (l.length + 12) (l.length + 12) c2 c6 (sealB e l) (sealB e l) w6 hsl hsl s6 (Sl.of_own hown6))
      have SX := Lib.hid (same_any A5 A l.length l.length c5 c l l w6 rfl rfl x6 l6)
      have HT : Hid (decide (sealB e l = sealB e l) = true ∧ decide (l = l) = true) := ⟨by simp, by simp⟩
      rw [HT.out.1] at SM
      rw [HT.out.2] at SX
      have OO := Lib.hid (Open_any o (some ⟨g, 0, none⟩) (l.length + 12) c2 _ w6 ho hsl (own_cap HO.out) s6 (by omega))
      have OT := Lib.hid (fun W hW => Open_any e B m.length d m W he rfl hmd hW (by omega))
      have RT := Lib.hid (fun W hW => ROpen_any e B m.length d m W he rfl hmd hW (by omega))
      have H6 := Lib.hid s6
      clear hown6 hb6 s6 x6 l6 m5 l5 s5 X5 HB25 HB02 RS HL5
      clear HO ss
      go_wp2_with fail
      refine SM.out.mono ?_
      rintro x w7 ⟨rfl, rfl⟩
      go_wp2_with fail
      refine SX.out.mono ?_
      rintro x w7 ⟨rfl, rfl⟩
      have hf : ((openB o (sealB e l)).2.2 = 0 ∧ ((o : Int) == (e : Int)) = true ∧ ((o : Int) != (e : Int)) = false) ∨ ((openB o (sealB e l)).2.2 = 11 ∧ ((o : Int) == (e : Int)) = false ∧ ((o : Int) != (e : Int)) = true) := by
        by_cases hoe : o = e
        · subst hoe
          left
          have := open_sealed o l [] ho (by omega)
          rw [List.append_nil] at this
          rw [this]; simp
        · right
          refine ⟨open_other e o l he ho (by omega) hoe, ?_, ?_⟩
          · rw [beq_eq_false_iff_ne]; omega
          · rw [bne_iff_ne]; omega
      have hwant : (0 ≤ n ∧ n ≤ 1000000) ∨ n < 0 ∨ 1000000 < n := by omega
      have HWANT := Lib.hid hwant
      clear hwant
      obtain ⟨r1, r2, r3, hr⟩ : ∃ a b c, openB o (sealB e l) = (a, b, c) := ⟨_, _, _, rfl⟩
      rw [hr] at OO hf
      obtain ⟨p1, p2, p3, hp⟩ : ∃ a b c, openB e m = (a, b, c) := ⟨_, _, _, rfl⟩
      rw [hp] at OT RT
      clear hr hp
      have LN := Lib.hid (length_any (l.length : Int) w6 (by omega) (by omega))
      go_wp2_with fail
      refine LN.out.mono ?_
      rintro x w7 ⟨rfl, rfl⟩
      go_wp2_with fail
      refine OO.out.mono ?_
      rintro x w7 ⟨v7, rfl, _, hb7⟩
      have m7 := m6.out.below hb7
      have HB07 := Lib.hid (HB06.out.trans (hb7.mono HB06.out.size))
      have M7 := Lib.hid m7
      clear OO SM SX m7 hb7 m6 HB06
      replace hf : (r3 = 0 ∧ ((o : Int) == (e : Int)) = true ∧ ((o : Int) != (e : Int)) = false) ∨ (r3 = 11 ∧ ((o : Int) == (e : Int)) = false ∧ ((o : Int) != (e : Int)) = true) := hf
      rcases hf with ⟨rfl, t1, t2⟩ | ⟨rfl, t1, t2⟩
      all_goals
        go_wp2_with fail
        refine (OT.out _ M7.out).mono ?_
        rintro x w8 ⟨v8, rfl, hown8, hb8⟩
        replace hown8 : w8.ownsRow w7.heap.size 5 1 v8 (p1.map B8).length (p1.map B8) := hown8
        rw [List.length_map] at hown8
        obtain ⟨A8, c8, rfl⟩ := own_form hown8
        have y8 := Lib.hid (Sl.of_own hown8)
        have M8 := Lib.hid (M7.out.below hb8)
        have HB08 := Lib.hid (HB07.out.trans (hb8.mono HB07.out.size))
        clear hown8 hb8 OT
        go_wp2_with fail
        refine (RT.out _ M8.out).mono ?_
        rintro x w9 ⟨A9, c9, rfl, z9, hb9⟩
        replace z9 : Sl B8 w9 A9 p1 := z9
        have SS := Lib.hid (same_any A8 A9 p1.length p1.length c8 c9 p1 p1 w9 rfl rfl (y8.out.below hb9) z9)
        rw [decide_eq_true (rfl : p1 = p1)] at SS
        have HB09 := Lib.hid (HB08.out.trans (hb9.mono HB08.out.size))
        clear hb9 z9 RT
        rcases HWANT.out with ⟨n1, n2⟩ | n1 | n1
        · have LM := Lib.hid (length_any n w9 n1 (by omega))
          go_wp2_with fail
          refine SS.out.mono ?_
          rintro x w10 ⟨rfl, rfl⟩
          go_wp2_with fail
          refine LM.out.mono ?_
          rintro x w10 ⟨rfl, rfl⟩
          go_wp2
          go_ret
          exact ⟨rfl, HB09.out⟩
        · have LM := Lib.hid (length_neg n w9 n1)
          have n2 : ¬ (0 : Int) ≤ n := by omega
          go_wp2_with fail
          refine SS.out.mono ?_
          rintro x w10 ⟨rfl, rfl⟩
          go_wp2_with fail
          refine LM.out.mono ?_
          rintro x w10 ⟨rfl, rfl⟩
          go_wp2
          go_ret
          exact ⟨rfl, HB09.out⟩
        · have n2 : ¬ n ≤ (1000000 : Int) := by omega
          go_wp2_with fail
          refine SS.out.mono ?_
          rintro x w10 ⟨rfl, rfl⟩
          go_wp2
          go_ret
          exact ⟨rfl, HB09.out⟩

theorem opens_row (e o : Int) (A : Option Addr) (c : Nat) (l : List UInt8) (B : Option Addr) (d : Nat) (m : List UInt8) (n : Int) (w : World) (he : (Lit.int .u32 e).wf = true) (ho : (Lit.int .u32 o).wf = true) (_hc : l.length ≤ c) (hl : Sl B8 w A l) (h1 : l.length ≤ 140737488351232) (hd : m.length ≤ d) (hm : Sl B8 w B m) (h2 : m.length ≤ 140737488351232) (_hn : (Lit.int .i64 n).wf = true) :
    Calls Try.prog 6 #[.int .u32 e, .int .u32 o, .slice A l.length c, .slice B m.length d, .int .i64 n] w fun x w' => x = .returned (.bool true) ∧ Below w.heap.size w w' := by
  have he' : 0 ≤ e ∧ e ≤ 4294967295 := by simpa [Lit.wf, IntKind.min, IntKind.max, IntKind.signed, IntKind.bits] using he
  have ho' : 0 ≤ o ∧ o ≤ 4294967295 := by simpa [Lit.wf, IntKind.min, IntKind.max, IntKind.signed, IntKind.bits] using ho
  obtain ⟨e1, rfl⟩ := Int.eq_ofNat_of_zero_le he'.1
  obtain ⟨o1, rfl⟩ := Int.eq_ofNat_of_zero_le ho'.1
  exact opens_any e1 o1 A B c d l m n w (by omega) (by omega) hl hm hd h1 h2
end Go.Proofs.Ytafohemmjhjgbaa.Sum
