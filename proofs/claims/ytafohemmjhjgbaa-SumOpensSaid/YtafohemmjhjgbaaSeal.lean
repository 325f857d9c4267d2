/-
  The contracts of package sum on records: four bytes put and got, a record sealed and opened.
-/
import Derived.Test.YtafohemmjhjgbaaSum
import Derived.Deep.RegionHeld3
import Derived.Deep.RegionWith
namespace Go.Proofs.Ytafohemmjhjgbaa.Sum
open Go.RowKit Go.Proofs.Ytafohemmjhjgbaa Go.Proofs.Ytafohemmjhjgbaa.Crc

/-- Four bytes of a number, the lowest first. -/
def word (n : Nat) : List UInt8 := [UInt8.ofNat (n % 256), UInt8.ofNat (n / 256 % 256), UInt8.ofNat (n / 65536 % 256), UInt8.ofNat (n / 16777216 % 256)]
theorem B8_of {n : Nat} (h : n < 256) : B8 (UInt8.ofNat n) = .int .u8 (n : Int) := by
  unfold B8; rw [UInt8.toNat_ofNat_of_lt' (by have : UInt8.size = 256 := rfl; omega)]
theorem word_map (n : Nat) : (word n).map B8 = [.int .u8 ((n : Int) % 256), .int .u8 ((n : Int) / 256 % 256), .int .u8 ((n : Int) / 65536 % 256), .int .u8 ((n : Int) / 16777216 % 256)] := by
  unfold word
  simp only [List.map_cons, List.map_nil]
  rw [B8_of (by omega), B8_of (by omega), B8_of (by omega), B8_of (by omega)]
  simp only [Int.natCast_emod, Int.natCast_ediv]
  rfl
theorem info8 : (Try.prog.info? 5).map (fun i => (i.zero, i.size, i.bytes)) = some (some (.int .u8 0), 1, 1) := by kernel_rfl
theorem B8_one (b : UInt8) : (B8 b).oneCell' = true := rfl

theorem grown_below {w w1 : World} (h : Below w.heap.size w w1) (row : Option Nat) : w.grownBy w1 row := ⟨h.os, h.tape, h.output, h.size, fun i hi _ => h.block i hi⟩
theorem own_below {w w1 : World} {base : Nat} {e : TypeId} {v : Value} {n : Nat} {xs : List Value} (h : w.ownsRow base e 1 v n xs) (hb : Below w.heap.size w w1) : w1.ownsRow base e 1 v n xs := by
  cases hv : v.ownBlock with
  | none => exact h.kept (grown_below hb none) (.inl hv)
  | some k => exact h.kept (grown_below hb none) (.inr (by rw [hv]; simp))
/-- What a row grew by, from a base on. -/
theorem grown_to_below {w w1 : World} {base B : Nat} {e : TypeId} {v : Value} {n : Nat} {xs : List Value} (hown : w.ownsRow base e 1 v n xs) (hg : w.grownBy w1 v.ownBlock) (hB : B ≤ base) (hs : B ≤ w.heap.size) : Below B w w1 := below_behind (Below.refl B w) hown hg hB hs

theorem own_low {w : World} {base base' : Nat} {e : TypeId} {v : Value} {n : Nat} {xs : List Value} (h : w.ownsRow base e 1 v n xs) (hb : base' ≤ base) : w.ownsRow base' e 1 v n xs :=
  ⟨h.1, h.2.imp id fun ⟨g, cap, cur, h1, h2, h3⟩ => ⟨g, cap, cur, h1, Nat.le_trans hb h2, h3⟩⟩
/-- What a call that appends to a row of the caller's own leaves. -/
def Puts (base : Nat) (w : World) (v : Value) (xs : List Value) (e : Ending) (w' : World) : Prop :=
  ∃ v', e = .returned v' ∧ w'.ownsRow base 5 1 v' xs.length xs ∧ w.grownBy w' v.ownBlock ∧ Below base w w'

set_option maxRecDepth 100000 in
theorem put_any (base : Nat) (v : Value) (xs : List Value) (n : Nat) (w : World) (hn : n < 4294967296) (hown : w.ownsRow base 5 1 v xs.length xs) (hbase : base ≤ w.heap.size) (hl : xs.length + 4 ≤ 140737488355328) :
    Calls Try.prog 68 #[v, .int .u32 n] w (Puts base w v (xs ++ (word n).map B8)) := by
  have hcs : Hid (([Value.int .u8 ((n : Int) % 256), .int .u8 ((n : Int) / 256 % 256), .int .u8 ((n : Int) / 65536 % 256), .int .u8 ((n : Int) / 16777216)] : List Value) = (word n).map B8) := by
    show _ = _
    rw [word_map, show (n : Int) / 16777216 % 256 = (n : Int) / 16777216 from by omega]
  have hown' := Lib.hid hown
  have hb := Lib.hid hbase
  have hl' := Lib.hid hl
  have hA : ∃ A c, v = .slice A xs.length c := own_form hown
  clear hown hbase hl
  go_enter Try.func68, Try.ntmps68
  go_wp2_with (at_builtin; go_must (refine wpList_append_sl rfl (.tmp 5) (.tmp 17) 29 rfl base info8 Try.underlying29 rfl (l := word n) (enc := B8) (hown'.out.alloc _) rfl rfl rfl (Sl.lit w _ _ (0, 0) _ hcs.out) B8_one ?c1 ?c2 ?c3 ?_))
  case c1 => have := hl'.out; unfold maxLen; omega
  case c2 => have := hl'.out; omega
  case c3 => have := hb.out; simp; omega
  intro v' w1 hown2 hgrow _
  obtain ⟨A', c', rfl⟩ := own_form hown2
  have HO := Lib.hid hown2
  have HG : Hid (w.grownBy w1 v.ownBlock) := (World.grownBy_alloc w _ _).trans hgrow
  clear hown2 hgrow
  go_wp2
  go_ret
  exact ⟨_, rfl, by simpa using HO.out, HG.out, grown_to_below hown'.out HG.out (Nat.le_refl _) hb.out⟩

/-- Four bytes of a list, as a number. -/
def get4 (l : List UInt8) (k : Nat) : Nat := (l[k]?.getD 0).toNat + 256 * (l[k + 1]?.getD 0).toNat + 65536 * (l[k + 2]?.getD 0).toNat + 16777216 * (l[k + 3]?.getD 0).toNat
theorem get4_lt (l : List UInt8) (k : Nat) : get4 l k < 4294967296 := by
  unfold get4
  have h0 := (l[k]?.getD 0).toNat_lt
  have h1 := (l[k + 1]?.getD 0).toNat_lt
  have h2 := (l[k + 2]?.getD 0).toNat_lt
  have h3 := (l[k + 3]?.getD 0).toNat_lt
  omega
theorem get4_int (a b c d : UInt8) : bits .or .u32 (bits .or .u32 (bits .or .u32 (a.toNat : Int) ((b.toNat : Int) * 256)) ((c.toNat : Int) * 65536)) ((d.toNat : Int) * 16777216) = ((a.toNat + 256 * b.toNat + 65536 * c.toNat + 16777216 * d.toNat : Nat) : Int) := by
  have h0 := a.toNat_lt
  have h1 := b.toNat_lt
  have h2 := c.toNat_lt
  have h3 := d.toNat_lt
  have e1 : (b.toNat : Int) * 256 = ((b.toNat * 256 : Nat) : Int) := by omega
  have e2 : (c.toNat : Int) * 65536 = ((c.toNat * 65536 : Nat) : Int) := by omega
  have e3 : (d.toNat : Int) * 16777216 = ((d.toNat * 16777216 : Nat) : Int) := by omega
  have j1 : a.toNat ||| b.toNat * 256 = a.toNat + b.toNat * 256 := by rw [Nat.or_comm, nat_join 8 _ _ (by omega) (by omega)]; omega
  have j2 : (a.toNat + b.toNat * 256) ||| c.toNat * 65536 = a.toNat + b.toNat * 256 + c.toNat * 65536 := by rw [Nat.or_comm, nat_join 16 _ _ (by omega) (by omega)]; omega
  have j3 : (a.toNat + b.toNat * 256 + c.toNat * 65536) ||| d.toNat * 16777216 = a.toNat + b.toNat * 256 + c.toNat * 65536 + d.toNat * 16777216 := by rw [Nat.or_comm, nat_join 24 _ _ (by omega) (by omega)]; omega
  rw [e1, u32_or_nat _ _ (by omega) (by omega), j1, e2, u32_or_nat _ _ (by omega) (by omega), j2, e3, u32_or_nat _ _ (by omega) (by omega), j3]
  omega

set_option maxRecDepth 100000 in
theorem get_any (A : Option Addr) (n c k : Nat) (l : List UInt8) (w : World) (hn : l.length = n) (hl : Sl B8 w A l) (hk : k + 4 ≤ n) (hm : n ≤ 140737488355328) :
    Calls Try.prog 69 #[.slice A n c, .int .i64 k] w fun e w' => e = .returned (.int .u32 (get4 l k)) ∧ ∃ nq, w' = w.drewN nq := by
  subst hn
  obtain ⟨x0, h0⟩ : ∃ x, l[k]? = some x := ⟨_, List.getElem?_eq_getElem (by omega)⟩
  obtain ⟨x1, h1⟩ : ∃ x, l[k + 1]? = some x := ⟨_, List.getElem?_eq_getElem (by omega)⟩
  obtain ⟨x2, h2⟩ : ∃ x, l[k + 2]? = some x := ⟨_, List.getElem?_eq_getElem (by omega)⟩
  obtain ⟨x3, h3⟩ : ∃ x, l[k + 3]? = some x := ⟨_, List.getElem?_eq_getElem (by omega)⟩
  obtain ⟨b, o, rfl, _, hc⟩ := hl (by omega)
  have c0 := hc _ _ h0
  have c1 := hc _ _ h1
  have c2 := hc _ _ h2
  have c3 := hc _ _ h3
  unfold B8 at c0 c1 c2 c3
  have HV : Hid (bits .or .u32 (bits .or .u32 (bits .or .u32 (x0.toNat : Int) ((x1.toNat : Int) * 256)) ((x2.toNat : Int) * 65536)) ((x3.toNat : Int) * 16777216) = ((get4 l k : Nat) : Int)) := by
    show _ = _
    rw [get4_int]; unfold get4; rw [h0, h1, h2, h3]; rfl
  have b0 := x0.toNat_lt
  have b1 := x1.toNat_lt
  have b2 := x2.toNat_lt
  have b3 := x3.toNat_lt
  have i0 : (0 : Int) ≤ (k : Int) := by omega
  have i1 : (k : Int) < (l.length : Int) := by omega
  have i2 : (k : Int) + 1 < (l.length : Int) := by omega
  have i3 : (k : Int) + 2 < (l.length : Int) := by omega
  have i4 : (k : Int) + 3 < (l.length : Int) := by omega
  clear hc h0 h1 h2 h3 hl
  go_enter Try.func69, Try.ntmps69
  go_wp2
  go_quiet (fail)
  go_wp2
  go_ret
  exact ⟨by rw [← HV.out]; rfl, _, rfl⟩

/-- A record's tail, and a sealed record. -/
def tailB (e : Nat) (l : List UInt8) : List UInt8 := word e ++ l
def sealB (e : Nat) (l : List UInt8) : List UInt8 := word (l.length % 4294967296) ++ word (ofB (tailB e l)) ++ tailB e l

set_option maxRecDepth 100000 in
theorem Seal_any (e : Nat) (A : Option Addr) (n c : Nat) (l : List UInt8) (w : World) (he : e < 4294967296) (hn : l.length = n) (hl : Sl B8 w A l) (hm : n ≤ 140737488351232) :
    Calls Try.prog 21 #[.int .u32 e, .slice A n c] w fun x w' => ∃ v, x = .returned v ∧ w'.ownsRow w.heap.size 5 1 v ((sealB e l).map B8).length ((sealB e l).map B8) ∧ Below w.heap.size w w' := by
  have p1 := put_any w.heap.size (.slice none 0 0) [] e w he (World.ownsRow_nil _ _ _ _) (Nat.le_refl _) (by decide)
  rw [List.nil_append] at p1
  have P1 := Lib.hid p1
  clear p1
  have HM := Lib.hid hm
  have HN := Lib.hid hn
  clear hm hn he
  go_enter Try.func21, Try.ntmps21
  go_wp2_with fail
  refine P1.out.mono ?_
  rintro x w1 ⟨v1, rfl, hown1, _, hb1⟩
  have hl1 := hl.below hb1
  have HO1 := Lib.hid hown1
  clear hown1 hl P1
  go_wp2_with (at_builtin; go_must (refine wpList_append_sl rfl (.tmp 7) (.tmp 8) 29 rfl w.heap.size info8 Try.underlying29 rfl HO1.out rfl rfl HN.out hl1 B8_one ?c1 ?c2 ?c3 ?_))
  case c1 => have := HM.out; unfold maxLen; simp [word]; omega
  case c2 => have := HM.out; simp [word]; omega
  case c3 => exact hb1.size
  intro v2 w2 hown2 hg2 _
  have hb2 := below_behind hb1 HO1.out hg2 (Nat.le_refl _) hb1.size
  have ht : (word e).map B8 ++ l.map B8 = (tailB e l).map B8 := by unfold tailB; rw [List.map_append]
  have hown3 : w2.ownsRow w.heap.size 5 1 v2 (n + 4) ((tailB e l).map B8) := by
    have hn := HN.out
    rw [← ht]
    have : (word e).length + l.length = n + 4 := by simp [word]; omega
    rwa [this] at hown2
  obtain ⟨A2, c2, rfl⟩ := own_form hown3
  have st := Sl.of_own hown3
  have htl : (tailB e l).length = n + 4 := by have hn := HN.out; unfold tailB word; simp; omega
  have HTL := Lib.hid htl
  have p2 := put_any w2.heap.size (.slice none 0 0) [] (l.length % 4294967296) w2 (by omega) (World.ownsRow_nil _ _ _ _) (Nat.le_refl _) (by decide)
  rw [List.nil_append] at p2
  have P2 := Lib.hid p2
  have HLW : Hid (((n : Int)) % 4294967296 = ((l.length % 4294967296 : Nat) : Int)) := by have hn := HN.out; show _ = _; omega
  clear p2 hown2 hown3 hg2 ht htl HO1 hl1
  go_wp2_with fail
  rw [HLW.out]
  refine P2.out.mono ?_
  rintro x w3 ⟨v3, rfl, hown3, _, hb3⟩
  have st3 := st.below hb3
  have o := Of_at A2 (n + 4) c2 (tailB e l) w3 HTL.out st3 (by have := HM.out; omega)
  have OF := Lib.hid o
  have HO3 := Lib.hid hown3
  clear o hown3 P2
  go_wp2_with fail
  refine OF.out.mono ?_
  rintro x w4 ⟨rfl, hb4⟩
  have hown4 := own_below HO3.out hb4
  have hb24 := hb3.trans (hb4.mono hb3.size)
  have p3 := put_any w2.heap.size v3 _ (ofB (tailB e l)) w4 (ofB_lt _) hown4 hb24.size (by simp [word])
  have P3 := Lib.hid p3
  clear p3 hown4 st3 OF HO3
  go_wp2_with fail
  refine P3.out.mono ?_
  rintro x w5 ⟨v5, rfl, hown5, hg5, hb5⟩
  have hb25 := hb24.trans hb5
  have st5 := st.below hb25
  have HO5 := Lib.hid hown5
  have HB25 := Lib.hid hb25
  have HB2 := Lib.hid hb2
  clear hown5 hg5 hb5 P3 hb24 hb3 hb4 st hb25 hb2 hb1
  go_wp2_with (at_builtin; go_must (refine wpList_append_sl rfl (.tmp 16) (.tmp 17) 29 rfl w2.heap.size info8 Try.underlying29 rfl HO5.out rfl rfl HTL.out st5 B8_one ?c1 ?c2 ?c3 ?_))
  case c1 => have := HM.out; unfold maxLen; simp [word]; omega
  case c2 => have := HM.out; simp [word]; omega
  case c3 => exact HB25.out.size
  intro v6 w6 hown6 hg6 _
  have hb26 := below_behind HB25.out HO5.out hg6 (Nat.le_refl _) HB25.out.size
  have hb6 := HB2.out.trans (hb26.mono HB2.out.size)
  have hs : ((word (l.length % 4294967296)).map B8 ++ (word (ofB (tailB e l))).map B8) ++ (tailB e l).map B8 = (sealB e l).map B8 := by unfold sealB; simp
  have HO6 : Hid (w6.ownsRow w.heap.size 5 1 v6 ((sealB e l).map B8).length ((sealB e l).map B8)) := by
    show World.ownsRow _ _ _ _ _ _ _
    rw [← hs]
    refine own_low ?_ HB2.out.size
    simpa using hown6
  have HB6 := Lib.hid hb6
  clear hown6 hg6 hb26 hb6 hs st5 HO5
  go_wp2
  go_ret
  exact ⟨v6, rfl, HO6.out, HB6.out⟩

/-- What Open tells: the bytes, where the record ends, the error. -/
def midB (l : List UInt8) : List UInt8 := (l.drop 8).take (get4 l 0 + 4)
def bodyB (l : List UInt8) : List UInt8 := (l.drop 12).take (get4 l 0)
def openB (e : Nat) (l : List UInt8) : List UInt8 × Nat × Nat :=
  if l.length < 12 then ([], 0, 7) else if l.length - 12 < get4 l 0 then ([], 0, 7) else if get4 l 4 = ofB (midB l) then (if get4 l 8 = e then (bodyB l, 12 + get4 l 0, 0) else ([], 0, 11)) else ([], 0, 11)
def Opens (w : World) (r : List UInt8 × Nat × Nat) (x : Ending) (w' : World) : Prop :=
  ∃ v, x = .returned (.tuple #[v, .int .i64 r.2.1, .int .i64 r.2.2]) ∧ w'.ownsRow w.heap.size 5 1 v (r.1.map B8).length (r.1.map B8) ∧ Below w.heap.size w w'

set_option maxHeartbeats 4000000 in
set_option maxRecDepth 100000 in
theorem Open_any (e : Nat) (A : Option Addr) (n c : Nat) (l : List UInt8) (w : World) (he : e < 4294967296) (hn : l.length = n) (hc : n ≤ c) (hl : Sl B8 w A l) (hm : n ≤ 140737488355328) :
    Calls Try.prog 22 #[.int .u32 e, .slice A n c] w (Opens w (openB e l)) := by
  subst hn
  by_cases h12 : l.length < 12
  · have HR : Hid (openB e l = ([], 0, 7)) := by show _ = _; unfold openB; rw [if_pos h12]
    rw [HR.out]
    clear hl
    go_enter Try.func22, Try.ntmps22
    go_wp2
    go_ret3
    exact ⟨_, rfl, World.ownsRow_nil _ _ _ _, Below.refl _ _⟩
  · obtain ⟨b, o, rfl, hlt, hcell⟩ := hl (by omega)
    have hl0 : Sl B8 w (some ⟨b, o, none⟩) l := fun _ => ⟨b, o, rfl, hlt, hcell⟩
    have G0 : Hid (∀ W, Sl B8 W (some ⟨b, o, none⟩) l → Calls Try.prog 69 #[.slice (some ⟨b, o, none⟩) l.length c, .int .i64 0] W fun e w' => e = .returned (.int .u32 (get4 l 0)) ∧ ∃ nq, w' = W.drewN nq) := fun W hW => get_any (some ⟨b, o, none⟩) l.length c 0 l W rfl hW (by omega) (by omega)
    have hg0 := get4_lt l 0
    by_cases hlen : l.length - 12 < get4 l 0
    · have HR : Hid (openB e l = ([], 0, 7)) := by show _ = _; unfold openB; rw [if_neg h12, if_pos hlen]
      rw [HR.out]
      have H0 := Lib.hid hl0
      clear hl hl0 hcell
      generalize get4 l 0 = g at *
      have hgi : (l.length : Int) - 12 < (g : Int) := by omega
      go_enter Try.func22, Try.ntmps22
      go_wp2_with fail
      refine (G0.out _ H0.out).mono ?_
      rintro x w1 ⟨rfl, nq, rfl⟩
      go_wp2
      go_ret3
      exact ⟨_, rfl, World.ownsRow_nil _ _ _ _, below_drewN (Below.refl _ _) _⟩
    · have hlen' : get4 l 0 + 12 ≤ l.length := by omega
      have G4 : Hid (∀ W, Sl B8 W (some ⟨b, o, none⟩) l → Calls Try.prog 69 #[.slice (some ⟨b, o, none⟩) l.length c, .int .i64 4] W fun e w' => e = .returned (.int .u32 (get4 l 4)) ∧ ∃ nq, w' = W.drewN nq) := fun W hW => get_any (some ⟨b, o, none⟩) l.length c 4 l W rfl hW (by omega) (by omega)
      have G8 : Hid (∀ W, Sl B8 W (some ⟨b, o, none⟩) l → Calls Try.prog 69 #[.slice (some ⟨b, o, none⟩) l.length c, .int .i64 8] W fun e w' => e = .returned (.int .u32 (get4 l 8)) ∧ ∃ nq, w' = W.drewN nq) := fun W hW => get_any (some ⟨b, o, none⟩) l.length c 8 l W rfl hW (by omega) (by omega)
      have hmid : (midB l).length = 12 + get4 l 0 - 8 := by unfold midB; simp; omega
      have hbody : (bodyB l).length = get4 l 0 := by unfold bodyB; simp; omega
      have sm : Sl B8 w (some ⟨b, o + 8, none⟩) (midB l) := (hl0.drop 8).take _
      have sb : Sl B8 w (some ⟨b, o + 12, none⟩) (bodyB l) := (hl0.drop 12).take _
      have O := Lib.hid (fun W hW => Of_at (some ⟨b, o + 8, none⟩) (12 + get4 l 0 - 8) (c - 8) (midB l) W hmid hW (by omega))
      have HBO := Lib.hid hbody
      have HBE : Hid (bodyB l = (l.drop 12).take (get4 l 0)) := rfl
      have H0 := Lib.hid hl0
      have SM := Lib.hid sm
      have SB := Lib.hid sb
      have ro : openB e l = if get4 l 4 = ofB (midB l) then (if get4 l 8 = e then (bodyB l, 12 + get4 l 0, 0) else ([], 0, 11)) else ([], 0, 11) := by unfold openB; rw [if_neg h12, if_neg hlen]
      have RO := Lib.hid ro
      clear hl hl0 hcell hmid hbody sm sb ro hlen
      obtain ⟨g, hg⟩ : ∃ g, get4 l 0 = g := ⟨_, rfl⟩
      obtain ⟨g4, hg4⟩ : ∃ g, get4 l 4 = g := ⟨_, rfl⟩
      obtain ⟨g8, hg8⟩ : ∃ g, get4 l 8 = g := ⟨_, rfl⟩
      obtain ⟨s, hs⟩ : ∃ g, ofB (midB l) = g := ⟨_, rfl⟩
      rw [hg] at G0 O RO HBO HBE hlen' hg0
      rw [hg4] at G4 RO
      rw [hg8] at G8 RO
      rw [hs] at O RO
      clear hg hg4 hg8 hs
      have ht : (12 + (g : Int)).toNat = 12 + g := by omega
      have q0 : (8 : Int) ≤ 12 + (g : Int) := by omega
      have q1 : (0 : Int) ≤ 12 + (g : Int) := by omega
      have q2 : (12 : Int) + (g : Int) ≤ (c : Int) := by omega
      have q3 : (g : Int) ≤ (l.length : Int) - 12 := by omega
      have q4 : ¬ c = 8 := by omega
      by_cases c4 : g4 = s
      · subst c4
        have t5 : (g4 == g4) = true := by simp
        have reg : Sl B8 w (some ⟨b, o, none⟩) l → ∀ W, Below w.heap.size w W → Sl B8 W (some ⟨b, o, none⟩) l := fun h W hW => h.below hW
        by_cases c8 : g8 = e
        · subst c8
          have HR : Hid (openB g8 l = (bodyB l, 12 + g, 0)) := by show _ = _; rw [RO.out, if_pos rfl, if_pos rfl]
          rw [HR.out]
          clear RO HR reg
          have q6 : (12 : Int) ≤ 12 + (g : Int) := by omega
          by_cases c12 : c = 12
          · obtain rfl : g = 0 := by omega
            have hbody0 : bodyB l = [] := by have := HBO.out; exact List.length_eq_zero_iff.1 this
            rw [hbody0]
            subst c12
            clear SB HBO HBE hbody0
            go_enter Try.func22, Try.ntmps22
            go_wp2_with fail
            refine (G0.out _ H0.out).mono ?_
            rintro x w1 ⟨rfl, nq, rfl⟩
            go_wp2_with fail
            first
              | go_region_with (first | (go_at_call 69; (with_reducible refine (G4.out _ ?_).mono ?_); exact H0.out.below (by repeat (first | (with_reducible exact Below.refl _ _) | (with_reducible refine Below.setCell ?_ (by first | (simp; done) | omega | (simp; omega)) _) | (with_reducible refine Below.alloc ?_ (by first | (simp; done) | omega | (simp; omega)) _) | (with_reducible refine below_drewN ?_ _) | (with_reducible refine Below.drew ?_) | assumption)); rintro x w' ⟨rfl, nq, rfl⟩) | (go_at_call 69; (with_reducible refine (G8.out _ ?_).mono ?_); exact H0.out.below (by first | exact ((below_drewN (Below.refl w.heap.size w) _).trans hb) | exact below_drewN ((below_drewN (Below.refl w.heap.size w) _).trans hb) _); rintro x w' ⟨rfl, nq, rfl⟩) | (go_at_call 18; (with_reducible refine (O.out _ ?_).mono ?_); exact SM.out.below (by repeat (first | (with_reducible exact Below.refl _ _) | (with_reducible refine Below.setCell ?_ (by first | (simp; done) | omega | (simp; omega)) _) | (with_reducible refine Below.alloc ?_ (by first | (simp; done) | omega | (simp; omega)) _) | (with_reducible refine below_drewN ?_ _) | (with_reducible refine Below.drew ?_) | assumption)); rintro x w' ⟨rfl, hb⟩))
              | fail "region"
            all_goals
              have hbW : Below w.heap.size w (w'.drewN nq) := below_drewN ((below_drewN (Below.refl w.heap.size w) _).trans hb) _
              have hszW : w.heap.size ≤ w'.heap.size := hbW.size
              go_wp2_with (at_builtin; go_must (refine wpList_append_sl rfl (.const (.slice none 0 0)) (.tmp 39) 29 rfl w.heap.size info8 Try.underlying29 rfl (xs := []) (World.ownsRow_nil _ _ _ _) rfl rfl (l := ([] : List UInt8)) rfl Sl.nil B8_one ?c1 ?c2 ?c3 ?_))
              case c1 => unfold maxLen; simp <;> omega
              case c2 => simp <;> omega
              case c3 => simpa using hszW
              intro v' w9 hown9 hg9 _
              have hb9 : Below w.heap.size w w9 := hbW.grown (row := none) hg9 hszW (by intro k hk; cases hk)
              have HO9 : Hid (w9.ownsRow w.heap.size 5 1 v' (([] : List UInt8).map B8).length (([] : List UInt8).map B8)) := by
                show World.ownsRow _ _ _ _ _ _ _
                simpa using hown9
              clear hown9 hg9 hbW hb
              go_wp2
              go_ret3
              exact ⟨v', by simp, HO9.out, hb9⟩
          · skip
            go_enter Try.func22, Try.ntmps22
            go_wp2_with fail
            refine (G0.out _ H0.out).mono ?_
            rintro x w1 ⟨rfl, nq, rfl⟩
            go_wp2_with fail
            first
              | go_region_with (first | (go_at_call 69; (with_reducible refine (G4.out _ ?_).mono ?_); exact H0.out.below (by repeat (first | (with_reducible exact Below.refl _ _) | (with_reducible refine Below.setCell ?_ (by first | (simp; done) | omega | (simp; omega)) _) | (with_reducible refine Below.alloc ?_ (by first | (simp; done) | omega | (simp; omega)) _) | (with_reducible refine below_drewN ?_ _) | (with_reducible refine Below.drew ?_) | assumption)); rintro x w' ⟨rfl, nq, rfl⟩) | (go_at_call 69; (with_reducible refine (G8.out _ ?_).mono ?_); exact H0.out.below (by first | exact ((below_drewN (Below.refl w.heap.size w) _).trans hb) | exact below_drewN ((below_drewN (Below.refl w.heap.size w) _).trans hb) _); rintro x w' ⟨rfl, nq, rfl⟩) | (go_at_call 18; (with_reducible refine (O.out _ ?_).mono ?_); exact SM.out.below (by repeat (first | (with_reducible exact Below.refl _ _) | (with_reducible refine Below.setCell ?_ (by first | (simp; done) | omega | (simp; omega)) _) | (with_reducible refine Below.alloc ?_ (by first | (simp; done) | omega | (simp; omega)) _) | (with_reducible refine below_drewN ?_ _) | (with_reducible refine Below.drew ?_) | assumption)); rintro x w' ⟨rfl, hb⟩))
              | fail "region"
            all_goals
              have hbW : Below w.heap.size w (w'.drewN nq) := below_drewN ((below_drewN (Below.refl w.heap.size w) _).trans hb) _
              have hszW : w.heap.size ≤ w'.heap.size := hbW.size
              have SBW := Lib.hid (SB.out.below hbW)
              clear SB
              go_wp2_with (at_builtin; go_must (refine wpList_append_sl rfl (.const (.slice none 0 0)) (.tmp 39) 29 rfl w.heap.size info8 Try.underlying29 rfl (xs := []) (World.ownsRow_nil _ _ _ _) rfl rfl HBO.out SBW.out B8_one ?c1 ?c2 ?c3 ?_))
              case c1 => unfold maxLen; simp <;> omega
              case c2 => simp <;> omega
              case c3 => simpa using hszW
              intro v' w9 hown9 hg9 _
              have hb9 : Below w.heap.size w w9 := hbW.grown (row := none) hg9 hszW (by intro k hk; cases hk)
              have HO9 : Hid (w9.ownsRow w.heap.size 5 1 v' ((bodyB l).map B8).length ((bodyB l).map B8)) := by
                show World.ownsRow _ _ _ _ _ _ _
                simpa using hown9
              clear hown9 hg9 hbW hb
              go_wp2
              go_ret3
              exact ⟨v', by simp, HO9.out, hb9⟩
        · have HR : Hid (openB e l = ([], 0, 11)) := by show _ = _; rw [RO.out, if_pos rfl, if_neg c8]
          rw [HR.out]
          have t4 : ((g8 : Int) != (e : Int)) = true := by rw [bne_iff_ne]; omega
          have t6 : (g8 == e) = false := by rw [beq_eq_false_iff_ne]; omega
          clear c8 RO HR reg
          go_enter Try.func22, Try.ntmps22
          go_wp2_with fail
          refine (G0.out _ H0.out).mono ?_
          rintro x w1 ⟨rfl, nq, rfl⟩
          go_wp2_with fail
          first
            | go_region_with (first | (go_at_call 69; (with_reducible refine (G4.out _ ?_).mono ?_); exact H0.out.below (by repeat (first | (with_reducible exact Below.refl _ _) | (with_reducible refine Below.setCell ?_ (by first | (simp; done) | omega | (simp; omega)) _) | (with_reducible refine Below.alloc ?_ (by first | (simp; done) | omega | (simp; omega)) _) | (with_reducible refine below_drewN ?_ _) | (with_reducible refine Below.drew ?_) | assumption)); rintro x w' ⟨rfl, nq, rfl⟩) | (go_at_call 69; (with_reducible refine (G8.out _ ?_).mono ?_); exact H0.out.below (by first | exact ((below_drewN (Below.refl w.heap.size w) _).trans hb) | exact below_drewN ((below_drewN (Below.refl w.heap.size w) _).trans hb) _); rintro x w' ⟨rfl, nq, rfl⟩) | (go_at_call 18; (with_reducible refine (O.out _ ?_).mono ?_); exact SM.out.below (by repeat (first | (with_reducible exact Below.refl _ _) | (with_reducible refine Below.setCell ?_ (by first | (simp; done) | omega | (simp; omega)) _) | (with_reducible refine Below.alloc ?_ (by first | (simp; done) | omega | (simp; omega)) _) | (with_reducible refine below_drewN ?_ _) | (with_reducible refine Below.drew ?_) | assumption)); rintro x w' ⟨rfl, hb⟩))
            | fail "region"
          all_goals
            go_wp2
            go_ret3
            exact ⟨_, rfl, World.ownsRow_nil _ _ _ _, below_drewN ((below_drewN (Below.refl w.heap.size w) _).trans hb) _⟩
      · have HR : Hid (openB e l = ([], 0, 11)) := by show _ = _; rw [RO.out, if_neg c4]
        rw [HR.out]
        have t4 : ((g4 : Int) != (s : Int)) = true := by rw [bne_iff_ne]; omega
        have t5 : ((g4 : Int) == (s : Int)) = false := by rw [beq_eq_false_iff_ne]; omega
        have t6 : (g4 == s) = false := by rw [beq_eq_false_iff_ne]; omega
        have t7 : (g4 != s) = true := by rw [bne_iff_ne]; omega
        clear c4 RO HR
        go_enter Try.func22, Try.ntmps22
        go_wp2_with fail
        refine (G0.out _ H0.out).mono ?_
        rintro x w1 ⟨rfl, nq, rfl⟩
        go_wp2_with fail
        first
          | go_region_with (first | (go_at_call 69; (with_reducible refine (G4.out _ ?_).mono ?_); exact H0.out.below (by repeat (first | (with_reducible exact Below.refl _ _) | (with_reducible refine Below.setCell ?_ (by first | (simp; done) | omega | (simp; omega)) _) | (with_reducible refine Below.alloc ?_ (by first | (simp; done) | omega | (simp; omega)) _) | (with_reducible refine below_drewN ?_ _) | (with_reducible refine Below.drew ?_) | assumption)); rintro x w' ⟨rfl, nq, rfl⟩) | (go_at_call 18; (with_reducible refine (O.out _ ?_).mono ?_); exact SM.out.below (by repeat (first | (with_reducible exact Below.refl _ _) | (with_reducible refine Below.setCell ?_ (by first | (simp; done) | omega | (simp; omega)) _) | (with_reducible refine Below.alloc ?_ (by first | (simp; done) | omega | (simp; omega)) _) | (with_reducible refine below_drewN ?_ _) | (with_reducible refine Below.drew ?_) | assumption)); rintro x w' ⟨rfl, hb⟩))
          | fail "region"
        all_goals
          go_wp2
          go_ret3
          exact ⟨_, rfl, World.ownsRow_nil _ _ _ _, by simpa using (below_drewN (Below.refl w.heap.size w) _).trans hb⟩
end Go.Proofs.Ytafohemmjhjgbaa.Sum
