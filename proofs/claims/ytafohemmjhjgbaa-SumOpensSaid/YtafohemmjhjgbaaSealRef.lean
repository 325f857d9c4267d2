/-
  The contracts of the reference's records, and of the bytes' comparison.
-/
import Derived.Test.YtafohemmjhjgbaaSealPure
import Derived.Test.YtafohemmjhjgbaaBytesStr
import Derived.Laws.Strings
namespace Go.Proofs.Ytafohemmjhjgbaa.Sum
open Go.RowKit Go.Proofs.Ytafohemmjhjgbaa Go.Proofs.Ytafohemmjhjgbaa.Crc

theorem ROf_at (A : Option Addr) (n c : Nat) (l : List UInt8) (w : World) (hn : l.length = n) (hl : Sl B8 w A l) (hm : n ≤ 9223372036854775807) :
    Calls Try.prog 19 #[.slice A n c] w fun e w' => e = .returned (.int .u32 (ofB l)) ∧ w = w' := by
  subst hn; exact ROf_any A c l w hl hm

theorem same_any (A B : Option Addr) (n m c d : Nat) (a b : List UInt8) (w : World) (hn : a.length = n) (hm : b.length = m) (ha : Sl B8 w A a) (hb : Sl B8 w B b) :
    Calls Try.prog 23 #[.slice A n c, .slice B m d] w fun e w' => e = .returned (.bool (decide (a = b))) ∧ w = w' := by
  have k1 := conv_sl (P := Try.prog) (c := c) Try.underlying29 Try.underlying5 Try.underlying9 hn ha
  have k2 := conv_sl (P := Try.prog) (c := d) Try.underlying29 Try.underlying5 Try.underlying9 hm hb
  clear ha hb
  have hd : decide (a = b) = ((strB a).toList == (strB b).toList) := by
    by_cases h : a = b
    · subst h; simp
    · rw [decide_eq_false h]; symm; rw [beq_eq_false_iff_ne]; intro e; apply h
      have e2 : (strB a).data.toList = (strB b).data.toList := by
        rw [ByteArray.toList_eq, ByteArray.toList_eq] at e; exact e
      exact e2
  have HD := Lib.hid hd
  clear hd hn hm
  generalize strB a = s at *
  generalize strB b = t at *
  go_enter Try.func23, Try.ntmps23
  go_wp2
  go_ret
  exact ⟨by rw [HD.out]; rfl, rfl⟩

theorem length_any (n : Int) (w : World) (h0 : 0 ≤ n) (h : n ≤ 4611686018427387904) : Calls Try.prog 25 #[.int .i64 n] w fun e w' => e = .returned (.int .i64 (n + 12)) ∧ w = w' := by
  go_enter Try.func25, Try.ntmps25
  go_wp2
  go_ret
  exact ⟨rfl, rfl⟩
theorem length_neg (n : Int) (w : World) (h0 : n < 0) : Calls Try.prog 25 #[.int .i64 n] w fun e w' => e = .returned (.int .i64 0) ∧ w = w' := by
  go_enter Try.func25, Try.ntmps25
  go_wp2
  go_ret
  exact ⟨rfl, rfl⟩

set_option maxRecDepth 100000 in
theorem Word_any (n : Nat) (w : World) (hn : n < 4294967296) : Calls Try.prog 70 #[.int .u32 n] w fun e w' => ∃ v, e = .returned v ∧ w'.ownsRow w.heap.size 5 1 v ((word n).map B8).length ((word n).map B8) ∧ Below w.heap.size w w' := by
  have hcs : Hid ((word n).map B8 = ([Value.int .u8 ((n : Int) % 256), .int .u8 ((n : Int) / 256 % 256), .int .u8 ((n : Int) / 65536 % 256), .int .u8 ((n : Int) / 16777216)] : List Value)) := by
    show _ = _
    rw [word_map, show (n : Int) / 16777216 % 256 = (n : Int) / 16777216 from by omega]
  rw [hcs.out]
  clear hcs
  go_enter Try.func70, Try.ntmps70
  go_wp2
  go_ret
  exact ⟨_, rfl, World.ownsRow_lit w #[Value.int .u8 ((n : Int) % 256), .int .u8 ((n : Int) / 256 % 256), .int .u8 ((n : Int) / 65536 % 256), .int .u8 ((n : Int) / 16777216)] 4 (Nat.le_refl _) (by decide) rfl, (Below.refl _ _).alloc (Nat.le_refl _) _⟩

set_option maxHeartbeats 1000000 in
set_option maxRecDepth 100000 in
theorem RSeal_any (e : Nat) (A : Option Addr) (n c : Nat) (l : List UInt8) (w : World) (he : e < 4294967296) (hn : l.length = n) (hl : Sl B8 w A l) (hm : n ≤ 140737488351232) :
    Calls Try.prog 24 #[.int .u32 e, .slice A n c] w fun x w' => ∃ v, x = .returned v ∧ w'.ownsRow w.heap.size 5 1 v ((sealB e l).map B8).length ((sealB e l).map B8) ∧ Below w.heap.size w w' := by
  have W1 := Lib.hid (fun W => Word_any e W he)
  have W2 := Lib.hid (fun W => Word_any (l.length % 4294967296) W (by omega))
  have W3 := Lib.hid (fun W => Word_any (ofB (tailB e l)) W (ofB_lt _))
  have HM := Lib.hid hm
  have HN := Lib.hid hn
  have HLW : Hid (((n : Int)) % 4294967296 = ((l.length % 4294967296 : Nat) : Int)) := by show _ = _; omega
  have htl : (tailB e l).length = n + 4 := by unfold tailB word; simp; omega
  have HTL := Lib.hid htl
  clear hm hn he htl
  go_enter Try.func24, Try.ntmps24
  go_wp2_with fail
  refine (W1.out _).mono ?_
  rintro x w1 ⟨v1, rfl, hown1, hb1⟩
  have hl1 := hl.below hb1
  have HO1 := Lib.hid hown1
  clear hown1 hl W1
  go_wp2_with (at_builtin; go_must (refine wpList_append_sl rfl (.tmp 8) (.tmp 9) 29 rfl w.heap.size info8 Try.underlying29 rfl HO1.out rfl rfl HN.out hl1 B8_one ?c1 ?c2 ?c3 ?_))
  case c1 => have := HM.out; unfold maxLen; simp [word]; omega
  case c2 => have := HM.out; simp [word]; omega
  case c3 => exact hb1.size
  intro v2 w2 hown2 hg2 _
  have hb2 := below_behind hb1 HO1.out hg2 (Nat.le_refl _) hb1.size
  have ht : (word e).map B8 ++ l.map B8 = (tailB e l).map B8 := by unfold tailB; rw [List.map_append]
  have hown3 : w2.ownsRow w.heap.size 5 1 v2 (n + 4) ((tailB e l).map B8) := by
    have hn := HN.out
    rw [← ht]
    have : (word e).length + l.length = n + 4 := by simp [word]; omega
    rwa [this] at hown2
  obtain ⟨A2, c2, rfl⟩ := own_form hown3
  have st := Sl.of_own hown3
  have HB2 := Lib.hid hb2
  clear hown2 hown3 hg2 ht HO1 hl1 hb2 hb1
  go_wp2_with fail
  rw [HLW.out]
  refine (W2.out _).mono ?_
  rintro x w3 ⟨v3, rfl, hown3, hb3⟩
  have st3 := st.below hb3
  have o := ROf_at A2 (n + 4) c2 (tailB e l) w3 HTL.out st3 (by have := HM.out; omega)
  have OF := Lib.hid o
  have HO3 := Lib.hid hown3
  clear o hown3 W2 st3
  go_wp2_with fail
  refine OF.out.mono ?_
  rintro x w4 ⟨rfl, rfl⟩
  go_wp2_with fail
  refine (W3.out _).mono ?_
  rintro x w5 ⟨v5, rfl, hown5, hb5⟩
  obtain ⟨A5, c5, rfl⟩ := own_form hown5
  have s5 := Sl.of_own hown5
  have HO35 := Lib.hid (own_below HO3.out hb5)
  have HB25 := Lib.hid (hb3.trans (hb5.mono hb3.size))
  clear hown5 hb3 hb5 HO3 OF W3
  go_wp2_with (at_builtin; go_must (refine wpList_append_sl rfl (.tmp 14) (.tmp 17) 29 rfl w2.heap.size info8 Try.underlying29 rfl HO35.out rfl rfl rfl s5 B8_one ?c1 ?c2 ?c3 ?_))
  case c1 => unfold maxLen; simp [word]
  case c2 => simp [word]
  case c3 => exact HB25.out.size
  intro v6 w6 hown6 hg6 _
  have hb6 := below_behind HB25.out HO35.out hg6 (Nat.le_refl _) HB25.out.size
  have st6 := st.below hb6
  have HO6 := Lib.hid hown6
  have HB6 := Lib.hid hb6
  clear hown6 hg6 hb6 s5 HO35 HB25 st
  go_wp2_with (at_builtin; go_must (refine wpList_append_sl rfl (.tmp 19) (.tmp 20) 29 rfl w2.heap.size info8 Try.underlying29 rfl HO6.out rfl rfl HTL.out st6 B8_one ?c1 ?c2 ?c3 ?_))
  case c1 => have := HM.out; unfold maxLen; simp [word]; omega
  case c2 => have := HM.out; simp [word]; omega
  case c3 => exact HB6.out.size
  intro v7 w7 hown7 hg7 _
  have hb27 := below_behind HB6.out HO6.out hg7 (Nat.le_refl _) HB6.out.size
  have hb7 := HB2.out.trans (hb27.mono HB2.out.size)
  have hs : ((word (l.length % 4294967296)).map B8 ++ (word (ofB (tailB e l))).map B8) ++ (tailB e l).map B8 = (sealB e l).map B8 := by unfold sealB; simp
  have HO7 : Hid (w7.ownsRow w.heap.size 5 1 v7 ((sealB e l).map B8).length ((sealB e l).map B8)) := by
    show World.ownsRow _ _ _ _ _ _ _
    rw [← hs]
    refine own_low ?_ HB2.out.size
    simpa using hown7
  have HB7 := Lib.hid hb7
  clear hown7 hg7 hb27 hb7 hs st6 HO6
  go_wp2
  go_ret
  exact ⟨v7, rfl, HO7.out, HB7.out⟩

set_option maxRecDepth 100000 in
theorem number_any (A : Option Addr) (n c : Nat) (l : List UInt8) (w : World) (hn : l.length = n) (hl : Sl B8 w A l) (h12 : 12 ≤ n) :
    Calls Try.prog 71 #[.slice A n c] w fun e w' => e = .returned (.int .u64 (get4 l 0)) ∧ ∃ nq, w' = w.drewN nq := by
  obtain ⟨x0, h0⟩ : ∃ x, l[0]? = some x := ⟨_, List.getElem?_eq_getElem (by omega)⟩
  obtain ⟨x1, h1⟩ : ∃ x, l[0 + 1]? = some x := ⟨_, List.getElem?_eq_getElem (by omega)⟩
  obtain ⟨x2, h2⟩ : ∃ x, l[0 + 2]? = some x := ⟨_, List.getElem?_eq_getElem (by omega)⟩
  obtain ⟨x3, h3⟩ : ∃ x, l[0 + 3]? = some x := ⟨_, List.getElem?_eq_getElem (by omega)⟩
  obtain ⟨b, o, rfl, _, hc⟩ := hl (by omega)
  have c0 := hc _ _ h0
  have c1 := hc _ _ h1
  have c2 := hc _ _ h2
  have c3 := hc _ _ h3
  unfold B8 at c0 c1 c2 c3
  simp only [Nat.add_zero, Nat.zero_add] at c0 c1 c2 c3
  have HV : Hid ((x0.toNat : Int) + 256 * (x1.toNat : Int) + 65536 * (x2.toNat : Int) + 16777216 * (x3.toNat : Int) = ((get4 l 0 : Nat) : Int)) := by
    show _ = _
    unfold get4; rw [h0, h1, h2, h3]; simp only [Option.getD_some]; omega
  have b0 := x0.toNat_lt
  have b1 := x1.toNat_lt
  have b2 := x2.toNat_lt
  have b3 := x3.toNat_lt
  have i1 : (0 : Int) < (n : Int) := by omega
  have i2 : (1 : Int) < (n : Int) := by omega
  have i3 : (2 : Int) < (n : Int) := by omega
  have i4 : (3 : Int) < (n : Int) := by omega
  clear hc h0 h1 h2 h3 hl
  go_enter Try.func71, Try.ntmps71
  go_wp2
  go_quiet (fail)
  go_wp2
  go_ret
  exact ⟨by rw [← HV.out]; rfl, _, rfl⟩

/-- What the reference's Open tells. -/
def OpensR (w : World) (r : List UInt8 × Nat × Nat) (x : Ending) (w' : World) : Prop :=
  ∃ A c, x = .returned (.tuple #[.slice A r.1.length c, .int .i64 r.2.1, .int .i64 r.2.2]) ∧ Sl B8 w' A r.1 ∧ Below w.heap.size w w'

theorem opensR_ok {w w' : World} {A : Option Addr} {c n k : Nat} {kk : Int} {l : List UInt8} (hn : l.length = n) (hs : Sl B8 w' A l) (hb : Below w.heap.size w w') (hk : (k : Int) = kk) : OpensR w (l, k, 0) (.returned (.tuple #[.slice A n c, .int .i64 kk, .int .i64 0])) w' := by
  subst hn; subst hk
  exact ⟨A, c, rfl, hs, hb⟩

set_option maxHeartbeats 2000000 in
set_option maxRecDepth 100000 in
theorem ROpen_any (e : Nat) (A : Option Addr) (n c : Nat) (l : List UInt8) (w : World) (he : e < 4294967296) (hn : l.length = n) (hcc : n ≤ c) (hl : Sl B8 w A l) (hm : n ≤ 140737488351232) :
    Calls Try.prog 26 #[.int .u32 e, .slice A n c] w (OpensR w (openB e l)) := by
  subst hn
  have HD : Hid (OpensR w (openB e l) = OpensR w (openB e l)) := rfl
  by_cases h12 : l.length < 12
  · have HR : Hid (openB e l = ([], 0, 7)) := by show _ = _; unfold openB; rw [if_pos h12]
    have hi12 : (l.length : Int) < 12 := by omega
    rw [HR.out]
    clear hl HD
    go_enter Try.func26, Try.ntmps26
    go_wp2
    go_ret3
    exact ⟨none, 0, rfl, Sl.nil, Below.refl _ _⟩
  · obtain ⟨b, o, rfl, hlt, hcell⟩ := hl (by omega)
    have hl0 := Lib.hid hl
    have N0 : Hid (∀ W, Sl B8 W (some ⟨b, o, none⟩) l → Calls Try.prog 71 #[.slice (some ⟨b, o, none⟩) l.length c] W fun e w' => e = .returned (.int .u64 (get4 l 0)) ∧ ∃ nq, w' = W.drewN nq) := fun W hW => number_any (some ⟨b, o, none⟩) l.length c l W rfl hW (by omega)
    have hg0 := get4_lt l 0
    clear hcell
    have hi12 : ¬ (l.length : Int) < 12 := by omega
    by_cases hlen : l.length - 12 < get4 l 0
    · have HR : Hid (openB e l = ([], 0, 7)) := by show _ = _; unfold openB; rw [if_neg h12, if_pos hlen]
      rw [HR.out]
      clear hl HD
      generalize get4 l 0 = g at *
      have hgi : (l.length : Int) - 12 < (g : Int) := by omega
      go_enter Try.func26, Try.ntmps26
      go_wp2_with fail
      refine (N0.out _ hl0.out).mono ?_
      rintro x w1 ⟨rfl, nq, rfl⟩
      go_wp2
      go_ret3
      exact ⟨none, 0, rfl, Sl.nil, below_drewN (Below.refl _ _) _⟩
    · have hlen' : get4 l 0 + 12 ≤ l.length := by omega
      have hbody : (bodyB l).length = get4 l 0 := by unfold bodyB; simp; omega
      have sb : Sl B8 w (some ⟨b, o + 12, none⟩) (bodyB l) := (hl0.out.drop 12).take _
      clear HD
      obtain ⟨g, hg⟩ : ∃ g, get4 l 0 = g := ⟨_, rfl⟩
      rw [hg] at N0 hlen hlen' hg0 hbody
      have RS := Lib.hid (fun W hW => RSeal_any e (some ⟨b, o + 12, none⟩) g (c - 12) (bodyB l) W he hbody hW (by omega))
      have ht : (12 + (g : Int)).toNat = 12 + g := by omega
      have q1 : (0 : Int) ≤ 12 + (g : Int) := by omega
      have q2 : (12 : Int) + (g : Int) ≤ (c : Int) := by omega
      have q3 : (g : Int) ≤ (l.length : Int) - 12 := by omega
      have q6 : (12 : Int) ≤ 12 + (g : Int) := by omega
      by_cases c12 : c = 12
      · obtain rfl : g = 0 := by omega
        subst c12
        have hb0 : bodyB l = [] := List.length_eq_zero_iff.1 hbody
        have sb : Sl B8 w (some ⟨b, o, none⟩) (bodyB l) := by rw [hb0]; exact fun h => absurd h (by simp)
        have RS := Lib.hid (fun W hW => RSeal_any e (some ⟨b, o, none⟩) 0 0 (bodyB l) W he hbody hW (by omega))
        clear hb0
        go_enter Try.func26, Try.ntmps26
        go_wp2_with fail
        refine (N0.out _ hl0.out).mono ?_
        rintro x w1 ⟨rfl, nq, rfl⟩
        have sl1 := Lib.hid (hl0.out.below (below_drewN (Below.refl w.heap.size w) nq))
        go_wp2_with fail
        refine (N0.out _ sl1.out).mono ?_
        rintro x w1 ⟨rfl, nq2, rfl⟩
        have hb2 := Lib.hid (below_drewN (below_drewN (Below.refl w.heap.size w) nq) nq2)
        have sl2 := hl0.out.below hb2.out
        have sb2 := Lib.hid (sb.below hb2.out)
        generalize (w.drewN nq).drewN nq2 = w2 at *
        clear N0 sl1 hl0 sb hlt
        go_wp2_with fail
        refine (RS.out _ sb2.out).mono ?_
        rintro x w3 ⟨v3, rfl, hown3, hb3⟩
        rw [List.length_map, sealB_length hbody] at hown3
        have sl3 := sl2.below hb3
        obtain ⟨A3, c3, rfl⟩ := own_form hown3
        have sw := Sl.of_own hown3
        have HB3 := Lib.hid (hb2.out.trans (hb3.mono hb2.out.size))
        have sb3 := Lib.hid (sb2.out.below hb3)
        clear hown3 hb3 sl2 RS
        have hws : (sealB e (bodyB l)).length = 0 + 12 := sealB_length hbody
        have OK : Hid (sealB e (bodyB l) = l.take (0 + 12) → openB e l = (bodyB l, 12 + 0, 0)) := fits_at he hg hlen'
        have NO : Hid (sealB e (bodyB l) ≠ l.take (0 + 12) → openB e l = ([], 0, 11)) := else_at he hg hlen'
        have HBO := Lib.hid hbody
        generalize sealB e (bodyB l) = z at *
        clear hg hbody hlen
        have hgb : 0 ≤ 140737488351232 := by omega
        go_wp2_with fail
        go_loopw [10] (fun i wr => ∃ k : Nat, k ≤ 0 + 12 ∧ i = .int .i64 k ∧ z.take k = l.take k ∧ Below w3.heap.size w3 wr) (fun i _ => 0 + 12 - (intOf i).toNat)
        case atStart => exact ⟨0, Nat.zero_le _, rfl, rfl, Below.refl _ _⟩
        case round =>
          obtain ⟨k, hk, rfl, htk, hbk⟩ := hrel
          have HTK := Lib.hid htk
          clear htk
          by_cases hlt : k < 0 + 12
          · obtain ⟨x, hx⟩ : ∃ x, z[k]? = some x := ⟨_, List.getElem?_eq_getElem (by omega)⟩
            obtain ⟨y, hy⟩ : ∃ y, l[k]? = some y := ⟨_, List.getElem?_eq_getElem (by omega)⟩
            obtain ⟨b3, o3, rfl, _, hcx⟩ := (sw.below hbk).cell hx
            obtain ⟨b1, o1, e1, _, hcy⟩ := (sl3.below hbk).cell hy
            obtain ⟨rfl, rfl⟩ : b = b1 ∧ o = o1 := by simpa using e1
            unfold B8 at hcx hcy
            have k1 : (k : Int) < (0 : Int) + 12 := by omega
            have k2 : (k : Int) < (l.length : Int) := by omega
            have k0 : (0 : Int) ≤ (k : Int) := by omega
            have HX := Lib.hid hx
            have HY := Lib.hid hy
            clear hx hy e1
            by_cases hxy : x = y
            · have t1 : ((x.toNat : Int) != (y.toNat : Int)) = false := by subst hxy; simp
              have t2 : (x.toNat != y.toNat) = false := by subst hxy; simp
              have HTS := Lib.hid (take_snoc_eq HTK.out HX.out HY.out hxy)
              clear hxy
              go_wp2
              go_quiet (fail)
              go_wp2
              go_round
              case rel => exact ⟨k + 1, by omega, by go_num, HTS.out, below_drewN hbk _⟩
              case measure => simp [intOf]; omega
            · have t1 : ((x.toNat : Int) != (y.toNat : Int)) = true := by rw [bne_iff_ne]; have := toNat_ne hxy; omega
              have t2 : (x.toNat != y.toNat) = true := by rw [bne_iff_ne]; exact toNat_ne hxy
              have HR := Lib.hid (NO.out (ne_at HX.out HY.out hlt hxy))
              clear hxy
              go_wp2
              go_quiet (fail)
              go_wp2
              go_ret3
              rw [HR.out]
              exact ⟨none, 0, rfl, Sl.nil, HB3.out.trans ((below_drewN hbk _).mono HB3.out.size)⟩
          · obtain rfl : k = 0 + 12 := by omega
            have HR : Hid (openB e l = (bodyB l, 12 + 0, 0)) := OK.out (by rw [← HTK.out, List.take_of_length_le (by omega)])
            go_wp2
            go_ret3
            rw [HR.out]
            exact opensR_ok (A := some ⟨b, o, none⟩) (c := 0) HBO.out (sb3.out.below hbk) (HB3.out.trans (hbk.mono HB3.out.size)) (k := 12 + 0) (kk := 12) (by omega)
      · skip
        go_enter Try.func26, Try.ntmps26
        go_wp2_with fail
        refine (N0.out _ hl0.out).mono ?_
        rintro x w1 ⟨rfl, nq, rfl⟩
        have sl1 := Lib.hid (hl0.out.below (below_drewN (Below.refl w.heap.size w) nq))
        go_wp2_with fail
        refine (N0.out _ sl1.out).mono ?_
        rintro x w1 ⟨rfl, nq2, rfl⟩
        have hb2 := Lib.hid (below_drewN (below_drewN (Below.refl w.heap.size w) nq) nq2)
        have sl2 := hl0.out.below hb2.out
        have sb2 := Lib.hid (sb.below hb2.out)
        generalize (w.drewN nq).drewN nq2 = w2 at *
        clear N0 sl1 hl0 sb hlt
        go_wp2_with fail
        refine (RS.out _ sb2.out).mono ?_
        rintro x w3 ⟨v3, rfl, hown3, hb3⟩
        rw [List.length_map, sealB_length hbody] at hown3
        have sl3 := sl2.below hb3
        obtain ⟨A3, c3, rfl⟩ := own_form hown3
        have sw := Sl.of_own hown3
        have HB3 := Lib.hid (hb2.out.trans (hb3.mono hb2.out.size))
        have sb3 := Lib.hid (sb2.out.below hb3)
        clear hown3 hb3 sl2 RS
        have hws : (sealB e (bodyB l)).length = g + 12 := sealB_length hbody
        have OK : Hid (sealB e (bodyB l) = l.take (g + 12) → openB e l = (bodyB l, 12 + g, 0)) := fits_at he hg hlen'
        have NO : Hid (sealB e (bodyB l) ≠ l.take (g + 12) → openB e l = ([], 0, 11)) := else_at he hg hlen'
        have HBO := Lib.hid hbody
        generalize sealB e (bodyB l) = z at *
        clear hg hbody hlen
        have hgb : g ≤ 140737488351232 := by omega
        go_wp2_with fail
        go_loopw [10] (fun i wr => ∃ k : Nat, k ≤ g + 12 ∧ i = .int .i64 k ∧ z.take k = l.take k ∧ Below w3.heap.size w3 wr) (fun i _ => g + 12 - (intOf i).toNat)
        case atStart => exact ⟨0, Nat.zero_le _, rfl, rfl, Below.refl _ _⟩
        case round =>
          obtain ⟨k, hk, rfl, htk, hbk⟩ := hrel
          have HTK := Lib.hid htk
          clear htk
          by_cases hlt : k < g + 12
          · obtain ⟨x, hx⟩ : ∃ x, z[k]? = some x := ⟨_, List.getElem?_eq_getElem (by omega)⟩
            obtain ⟨y, hy⟩ : ∃ y, l[k]? = some y := ⟨_, List.getElem?_eq_getElem (by omega)⟩
            obtain ⟨b3, o3, rfl, _, hcx⟩ := (sw.below hbk).cell hx
            obtain ⟨b1, o1, e1, _, hcy⟩ := (sl3.below hbk).cell hy
            obtain ⟨rfl, rfl⟩ : b = b1 ∧ o = o1 := by simpa using e1
            unfold B8 at hcx hcy
            have k1 : (k : Int) < (g : Int) + 12 := by omega
            have k2 : (k : Int) < (l.length : Int) := by omega
            have k0 : (0 : Int) ≤ (k : Int) := by omega
            have HX := Lib.hid hx
            have HY := Lib.hid hy
            clear hx hy e1
            by_cases hxy : x = y
            · have t1 : ((x.toNat : Int) != (y.toNat : Int)) = false := by subst hxy; simp
              have t2 : (x.toNat != y.toNat) = false := by subst hxy; simp
              have HTS := Lib.hid (take_snoc_eq HTK.out HX.out HY.out hxy)
              clear hxy
              go_wp2
              go_quiet (fail)
              go_wp2
              go_round
              case rel => exact ⟨k + 1, by omega, by go_num, HTS.out, below_drewN hbk _⟩
              case measure => simp [intOf]; omega
            · have t1 : ((x.toNat : Int) != (y.toNat : Int)) = true := by rw [bne_iff_ne]; have := toNat_ne hxy; omega
              have t2 : (x.toNat != y.toNat) = true := by rw [bne_iff_ne]; exact toNat_ne hxy
              have HR := Lib.hid (NO.out (ne_at HX.out HY.out hlt hxy))
              clear hxy
              go_wp2
              go_quiet (fail)
              go_wp2
              go_ret3
              rw [HR.out]
              exact ⟨none, 0, rfl, Sl.nil, HB3.out.trans ((below_drewN hbk _).mono HB3.out.size)⟩
          · obtain rfl : k = g + 12 := by omega
            have HR : Hid (openB e l = (bodyB l, 12 + g, 0)) := OK.out (by rw [← HTK.out, List.take_of_length_le (by omega)])
            go_wp2
            go_ret3
            rw [HR.out]
            exact opensR_ok (A := some ⟨b, o + 12, none⟩) (c := c - 12) HBO.out (sb3.out.below hbk) (HB3.out.trans (hbk.mono HB3.out.size)) (k := 12 + g) (kk := 12 + (g : Int)) (by omega)
end Go.Proofs.Ytafohemmjhjgbaa.Sum
