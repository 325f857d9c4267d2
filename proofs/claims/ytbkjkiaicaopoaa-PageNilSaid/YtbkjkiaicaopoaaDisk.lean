/-
  Package disk: what each function does, by resources, in plain words on what a disk is.
-/
import Derived.Test.YtbkjkiaicaopoaaProg
import Derived.Test.YtbkjkiaicaopoaaMake
import Derived.Test.YtbkjkiaicaopoaaReg
import Derived.KernelRfl
import Derived.RowKit3
import Derived.WalkSpells
import Derived.LoopTactic
import Derived.Deep.QuietTactic
import Derived.BigQuiet
import Derived.Deep.RegionHeld3
import Derived.Deep.RegionHeldLaw
import Derived.Deep.RegionWith
import Derived.StillTailTactics
namespace Go.Proofs.Ytbkjkiaicaopoaa.Dk
open Go.RowKit Go.Proofs.Ytbkjkiaicaopoaa

structure DiskSt where
  last : List (List UInt8)
  waits : List (Nat × List UInt8)
  size : Nat
  fuse : Int
  dark : Bool
  deeds : Nat
def wcell (x : Nat × Sec) : List Value := [.int .i64 x.1, x.2.v]
theorem wcell_len (x : Nat × Sec) : (wcell x).length = 2 := rfl
/-- What a disk at block p is made of. -/
structure DiskRep where
  ss : List Sec
  ws : List (Nat × Sec)
  A : Option Addr
  n : Nat
  c : Nat
  B : Option Addr
  m : Nat
  d : Nat
def dcells (r : DiskRep) (d : DiskSt) : Array Value := #[.slice r.A r.n r.c, .int .i64 d.size, .slice r.B r.m r.d, .int .i64 d.fuse, .bool d.dark, .int .i64 d.deeds]
def disk (p : Nat) (d : DiskSt) : HP := fun h => ∃ r : DiskRep, (r.ss.map Sec.l = d.last ∧ r.ws.map (fun x => (x.1, x.2.l)) = d.waits) ∧
  star [blk p #[.slice r.A r.n r.c, .int .i64 d.size, .slice r.B r.m r.d, .int .i64 d.fuse, .bool d.dark, .int .i64 d.deeds] 113, vec 30 Sec.v r.A r.n r.c r.ss, rows 116 2 wcell r.B r.m r.d r.ws, bag 5 r.ss, bag 5 (r.ws.map Prod.snd)] h
section
variable {E w : World} {p : Nat} {d : DiskSt} {L : List HP}
theorem disk_open (H : sat E w (disk p d :: L)) : ∃ (ss : List Sec) (ws : List (Nat × Sec)) (A : Option Addr) (c : Nat) (B : Option Addr) (e : Nat), ss.map Sec.l = d.last ∧ ws.map (fun x => (x.1, x.2.l)) = d.waits ∧
    sat E w (blk p #[.slice A d.last.length c, .int .i64 d.size, .slice B d.waits.length e, .int .i64 d.fuse, .bool d.dark, .int .i64 d.deeds] 113 :: vec 30 Sec.v A d.last.length c ss :: rows 116 2 wcell B d.waits.length e ws :: bag 5 ss :: bag 5 (ws.map Prod.snd) :: L) := by
  obtain ⟨⟨ss, ws, A, n, c, B, m, e⟩, H⟩ := H.open_ex
  obtain ⟨⟨h1, h2⟩, H⟩ := H.open_and
  have H := H.flat
  dsimp only at h1 h2
  have l1 : d.last.length = n := by rw [← h1, List.length_map]; exact H.pull1.len
  have l2 : d.waits.length = m := by rw [← h2, List.length_map]; exact H.pull2.rlen wcell_len (by decide)
  subst l1 l2
  exact ⟨ss, ws, A, c, B, e, h1, h2, H⟩
theorem disk_shut {ss : List Sec} {ws : List (Nat × Sec)} {A : Option Addr} {n c : Nat} {B : Option Addr} {m e : Nat} (h1 : ss.map Sec.l = d.last) (h2 : ws.map (fun x => (x.1, x.2.l)) = d.waits)
    (H : sat E w (blk p #[.slice A n c, .int .i64 d.size, .slice B m e, .int .i64 d.fuse, .bool d.dark, .int .i64 d.deeds] 113 :: vec 30 Sec.v A n c ss :: rows 116 2 wcell B m e ws :: bag 5 ss :: bag 5 (ws.map Prod.snd) :: L)) : sat E w (disk p d :: L) :=
  sat.shut_ex (⟨ss, ws, A, n, c, B, m, e⟩ : DiskRep) (sat.shut_and ⟨h1, h2⟩ (sat.fold (L := [_, _, _, _, _]) H))
/-- The cells of a disk's block, and back with other numbers in three of them. -/
theorem disk_peek (H : sat E w (disk p d :: L)) : ∃ (A : Option Addr) (c : Nat) (B : Option Addr) (e : Nat), sat E w (blk p #[.slice A d.last.length c, .int .i64 d.size, .slice B d.waits.length e, .int .i64 d.fuse, .bool d.dark, .int .i64 d.deeds] 113 :: L) ∧
    ∀ (w' : World) (d' : DiskSt) (L' : List HP), d'.last = d.last → d'.waits = d.waits → (∀ R : List HP, sat E w (blk p #[.slice A d.last.length c, .int .i64 d.size, .slice B d.waits.length e, .int .i64 d.fuse, .bool d.dark, .int .i64 d.deeds] 113 :: (R ++ L)) → sat E w' (blk p #[.slice A d.last.length c, .int .i64 d'.size, .slice B d.waits.length e, .int .i64 d'.fuse, .bool d'.dark, .int .i64 d'.deeds] 113 :: (R ++ L'))) → sat E w' (disk p d' :: L') := by
  obtain ⟨ss, ws, A, c, B, e, h1, h2, H⟩ := disk_open H
  refine ⟨A, c, B, e, H.choose 5 [0] rfl rfl, fun w' d' L' e1 e2 h => ?_⟩
  have := h [_, _, _, _] H
  exact disk_shut (by rw [e1]; exact h1) (by rw [e2]; exact h2) this
theorem Sectors_any (H : sat E w (disk p d :: L)) : Calls Try.prog 26 #[.pointer (some ⟨p, 0, none⟩)] w fun e w' => e = .returned (.int .i64 d.last.length) ∧ w = w' := by
  obtain ⟨A, c, B, e, H, -⟩ := disk_peek H
  have c0 := H.cell 0
  clear H
  go_enter Try.func26, Try.ntmps26
  go_wp2
  go_ret
  exact ⟨rfl, rfl⟩
theorem Size_any (H : sat E w (disk p d :: L)) : Calls Try.prog 27 #[.pointer (some ⟨p, 0, none⟩)] w fun e w' => e = .returned (.int .i64 d.size) ∧ w = w' := by
  obtain ⟨A, c, B, e, H, -⟩ := disk_peek H
  have c0 := H.cell 1
  clear H
  go_enter Try.func27, Try.ntmps27
  go_wp2
  go_ret
  exact ⟨rfl, rfl⟩
theorem Waits_any (H : sat E w (disk p d :: L)) : Calls Try.prog 20 #[.pointer (some ⟨p, 0, none⟩)] w fun e w' => e = .returned (.int .i64 d.waits.length) ∧ w = w' := by
  obtain ⟨A, c, B, e, H, -⟩ := disk_peek H
  have c0 := H.cell 2
  clear H
  go_enter Try.func20, Try.ntmps20
  go_wp2
  go_ret
  exact ⟨rfl, rfl⟩
theorem Deeds_any (H : sat E w (disk p d :: L)) : Calls Try.prog 22 #[.pointer (some ⟨p, 0, none⟩)] w fun e w' => e = .returned (.int .i64 d.deeds) ∧ w = w' := by
  obtain ⟨A, c, B, e, H, -⟩ := disk_peek H
  have c0 := H.cell 5
  clear H
  go_enter Try.func22, Try.ntmps22
  go_wp2
  go_ret
  exact ⟨rfl, rfl⟩
theorem Dark_any (H : sat E w (disk p d :: L)) : Calls Try.prog 23 #[.pointer (some ⟨p, 0, none⟩)] w fun e w' => e = .returned (.bool d.dark) ∧ w = w' := by
  obtain ⟨A, c, B, e, H, -⟩ := disk_peek H
  have c0 := H.cell 4
  clear H
  go_enter Try.func23, Try.ntmps23
  go_wp2
  go_ret
  exact ⟨rfl, rfl⟩
theorem up_any (H : sat E w (disk p d :: L)) : Calls Try.prog 70 #[.pointer (some ⟨p, 0, none⟩)] w fun e w' => e = .returned (.int .i64 (if d.dark then 17 else 0)) ∧ w = w' := by
  obtain ⟨A, c, B, e, H, -⟩ := disk_peek H
  have c0 := H.cell 4
  clear H
  cases hd : d.dark
  · rw [hd] at c0
    go_enter Try.func70, Try.ntmps70
    go_wp2
    go_ret
    exact ⟨rfl, rfl⟩
  · rw [hd] at c0
    go_enter Try.func70, Try.ntmps70
    go_wp2
    go_ret
    exact ⟨rfl, rfl⟩
theorem there_any (i : Int) (H : sat E w (disk p d :: L)) : Calls Try.prog 71 #[.pointer (some ⟨p, 0, none⟩), .int .i64 i] w fun e w' => e = .returned (.bool (decide (0 ≤ i ∧ i < d.last.length))) ∧ w = w' := by
  obtain ⟨A, c, B, e, H, -⟩ := disk_peek H
  have c0 := H.cell 0
  clear H
  by_cases h : 0 ≤ i
  · by_cases h2 : i < d.last.length
    · rw [decide_eq_true ⟨h, h2⟩]
      go_enter Try.func71, Try.ntmps71
      go_wp2
      go_ret
      exact ⟨rfl, rfl⟩
    · rw [decide_eq_false (fun h => h2 h.2)]
      go_enter Try.func71, Try.ntmps71
      go_wp2
      go_ret
      exact ⟨rfl, rfl⟩
  · rw [decide_eq_false (fun h' => h h'.1)]
    go_enter Try.func71, Try.ntmps71
    go_wp2
    go_ret
    exact ⟨rfl, rfl⟩
/-- One deed more, or the dark. -/
def DiskSt.deed (d : DiskSt) : Int × DiskSt := if d.fuse = 0 then (17, { d with dark := true }) else (0, { d with fuse := if 0 < d.fuse then d.fuse - 1 else d.fuse, deeds := d.deeds + 1 })
theorem deed_any (H : sat E w (disk p d :: L)) (hd : d.deeds < 4611686018427387904) (hf : d.fuse < 9223372036854775808) : Calls Try.prog 72 #[.pointer (some ⟨p, 0, none⟩)] w fun e w' => e = .returned (.int .i64 d.deed.1) ∧ sat E w' (disk p d.deed.2 :: L) := by
  obtain ⟨A, c, B, e, H, hback⟩ := disk_peek H
  have c0 := H.cell 3
  have c4 := H.cell 4
  have c5 := H.cell 5
  have f3 := H.frozen 3
  have f4 := H.frozen 4
  have f5 := H.frozen 5
  have HB := Lib.hid hback
  clear H hback
  unfold DiskSt.deed
  by_cases h0 : d.fuse = 0
  · rw [if_pos h0]
    rw [h0] at c0
    have HF := Lib.hid h0
    clear h0
    go_enter Try.func72, Try.ntmps72
    go_wp2
    go_ret
    exact ⟨rfl, HB.out _ _ _ rfl rfl (fun R h => h.setCell 4 (.bool true))⟩
  · rw [if_neg h0]
    have t : (d.fuse == 0) = false := by rw [beq_eq_false_iff_ne]; exact h0
    by_cases h1 : 0 < d.fuse
    · rw [if_pos h1]
      go_enter Try.func72, Try.ntmps72
      go_wp2
      go_ret
      exact ⟨rfl, HB.out _ _ _ rfl rfl (fun R h => (h.setCell 3 (.int .i64 (d.fuse - 1))).setCell 5 (.int .i64 ((d.deeds : Int) + 1)))⟩
    · rw [if_neg h1]
      go_enter Try.func72, Try.ntmps72
      go_wp2
      go_ret
      exact ⟨rfl, HB.out _ _ _ rfl rfl (fun R h => h.setCell 5 (.int .i64 ((d.deeds : Int) + 1)))⟩
def DiskSt.fused (d : DiskSt) (n : Int) : DiskSt := { d with fuse := max n (-1) }
theorem Fuse_any (n : Int) (H : sat E w (disk p d :: L)) : Calls Try.prog 21 #[.pointer (some ⟨p, 0, none⟩), .int .i64 n] w fun e w' => e = .returned undef ∧ sat E w' (disk p (d.fused n) :: L) := by
  obtain ⟨A, c, B, e, H, hback⟩ := disk_peek H
  have c3 := H.cell 3
  have f3 := H.frozen 3
  have HB := Lib.hid hback
  clear H hback
  unfold DiskSt.fused
  go_enter Try.func21, Try.ntmps21
  go_wp2
  all_goals go_end0
  all_goals exact ⟨rfl, HB.out _ _ _ rfl rfl (fun R h => by
    first
      | exact h.setCell 3 (.int .i64 (max n (-1)))
      | (have e : max n (-1) = n := by omega
         rw [e]; exact h.setCell 3 (.int .i64 n))
      | (have e : max n (-1) = -1 := by omega
         rw [e]; exact h.setCell 3 (.int .i64 (-1))))⟩
end
theorem eql_slice_nil {P : Program} (w : World) (t e : TypeId) (a : Option Addr) (n c : Nat) (h : P.underlying t = some (.slice e)) :
    (binOp .eql t (.slice a n c) (.slice none 0 0)).run P w = .ok (.bool a.isNone) w := by
  simp only [binOp]
  simp [Op.equal, Op.maxDepth, Lib.run_equalIn_slice_nil w 9999 t e a n c 0 0 h]
theorem infoB : (Try.prog.info? 30).map (fun i => (i.zero, i.size, i.bytes)) = some (some (.slice none 0 0), 1, 24) := by kernel_rfl
theorem info8 : (Try.prog.info? 5).map (fun i => (i.zero, i.size, i.bytes)) = some (some (.int .u8 0), 1, 1) := by kernel_rfl
theorem infoW : (Try.prog.info? 116).map (fun i => (i.zero, i.size, i.bytes)) = some (some (.agg #[.int .i64 0, .slice none 0 0]), 2, 32) := by kernel_rfl
theorem B8_one (b : UInt8) : (B8 b).oneCell' = true := rfl
theorem wcell_one (x : Nat × Sec) : ∀ v ∈ wcell x, v.oneCell' = true := by intro v hv; simp [wcell] at hv; rcases hv with rfl | rfl <;> rfl
set_option maxRecDepth 100000 in
/-- A copy of bytes. -/
theorem BClone_any {E w : World} {L : List HP} {A : Option Addr} {n c : Nat} {l : List UInt8} (H : sat E w L) (hs : Sl B8 w A l) (hn : l.length = n) (hl : n ≤ 1099511627776) :
    Calls Try.prog 79 #[.slice A n c] w fun e w' => ∃ s : Sec, s.l = l ∧ s.n = n ∧ e = .returned s.v ∧ sat E w' (s.hp 5 :: L) := by
  subst hn
  have HH := Lib.hid H
  have HE := Lib.hid (H.emptyLit B8 5)
  cases A with
  | none =>
    have hl0 : l = [] := by
      cases l with
      | nil => rfl
      | cons y l => obtain ⟨b, o, e, _⟩ := hs (by simp); cases e
    subst hl0
    have en := eql_slice_nil (P := Try.prog) w 30 5 none 0 c Try.underlying30
    clear H HE hs
    go_enter Try.func79, Try.ntmps79
    go_wp2
    go_ret
    exact ⟨⟨none, 0, 0, []⟩, rfl, rfl, rfl, HH.out.nilVec _ _⟩
  | some ad =>
    have HS : Hid (Sl B8 (w.alloc (.cells #[] 5)) (some ad) l) := hs.below ((Below.refl _ _).alloc (Nat.le_refl _) _)
    have HL : Hid (0 + l.length ≤ 1099511627776) := by show _ ≤ _; omega
    have en := eql_slice_nil (P := Try.prog) w 30 5 (some ad) l.length c Try.underlying30
    clear H hs
    go_enter Try.func79, Try.ntmps79
    go_wp2_with (at_builtin; go_must (refine wpList_appS rfl (.tmp 5) (.tmp 6) 30 rfl info8 Try.underlying30 rfl (by decide) HE.out rfl rfl rfl HS.out B8_one HL.out ?_))
    intro A' c' w1 H2
    have H3 := Lib.hid H2
    clear H2 HE HS
    go_wp2
    go_ret
    exact ⟨⟨A', l.length, c', l⟩, rfl, rfl, rfl, H3.out⟩
section
variable {E w : World} {p : Nat} {d : DiskSt} {L : List HP}
def pad (n : Nat) (b : List UInt8) : List UInt8 := b ++ List.replicate (n - b.length) 0
def DiskSt.write (d : DiskSt) (i : Int) (b : List UInt8) : Int × DiskSt :=
  if d.dark = true then (17, d) else if ¬ (0 ≤ i ∧ i < d.last.length) ∨ d.size < b.length then (1, d) else
    if d.fuse = 0 then d.deed else (0, { d.deed.2 with waits := d.waits ++ [(i.toNat, pad d.size b)] })
set_option maxRecDepth 100000 in
theorem Write_any {i : Int} {A : Option Addr} {n c : Nat} {b : List UInt8} (H : sat E w (disk p d :: L)) (hd : d.deeds < 4611686018427387904) (hf : d.fuse < 9223372036854775808) (hb : ∀ W, sat E W L → Sl B8 W A b) (hn : b.length = n) (hz : 0 < d.size) (hz2 : d.size ≤ 1048576) (hw : d.waits.length < 1048576) :
    Calls Try.prog 16 #[.pointer (some ⟨p, 0, none⟩), .int .i64 i, .slice A n c] w fun e w' => e = .returned (.int .i64 (d.write i b).1) ∧ sat E w' (disk p (d.write i b).2 :: L) := by
  subst hn
  have HU := up_any H
  have HT := Lib.hid (there_any i H)
  unfold DiskSt.write
  by_cases h1 : d.dark = true
  · rw [if_pos h1]
    rw [if_pos h1] at HU
    replace HU := Lib.hid HU
    have HH := Lib.hid H
    clear H hb HT h1
    go_enter Try.func16, Try.ntmps16
    (go_wp2_with fail)
    refine (HU.out).mono ?_
    rintro e w' ⟨rfl, rfl⟩
    go_wp2
    go_ret
    exact ⟨rfl, HH.out⟩
  rw [if_neg h1]
  rw [if_neg h1] at HU
  replace HU := Lib.hid HU
  obtain ⟨A0, c0', B0, e0, Hk, -⟩ := disk_peek H
  have c1 := Hk.cell 1
  clear Hk
  by_cases h2 : 0 ≤ i ∧ i < d.last.length
  · rw [decide_eq_true h2] at HT
    by_cases h3 : d.size < b.length
    · rw [if_pos (.inr h3)]
      have h3' : (d.size : Int) < (b.length : Int) := by omega
      have HH := Lib.hid H
      clear H hb h1 h2 h3
      go_enter Try.func16, Try.ntmps16
      (go_wp2_with fail)
      refine (HU.out).mono ?_
      rintro e w' ⟨rfl, rfl⟩
      (go_wp2_with fail)
      refine (HT.out).mono ?_
      rintro e w' ⟨rfl, rfl⟩
      go_wp2
      go_ret
      exact ⟨rfl, HH.out⟩
    · rw [if_neg (fun h => h.elim (fun h => h h2) h3)]
      have h3' : ¬ (d.size : Int) < (b.length : Int) := by omega
      have HD := deed_any H hd hf
      by_cases h4 : d.fuse = 0
      · rw [if_pos h4]
        have e1 : d.deed.1 = 17 := by unfold DiskSt.deed; rw [if_pos h4]
        rw [e1] at HD
        replace HD := Lib.hid HD
        have E1 := Lib.hid e1
        clear H hb h1 h2 h3 h4 e1
        go_enter Try.func16, Try.ntmps16
        (go_wp2_with fail)
        refine (HU.out).mono ?_
        rintro e w' ⟨rfl, rfl⟩
        (go_wp2_with fail)
        refine (HT.out).mono ?_
        rintro e w' ⟨rfl, rfl⟩
        (go_wp2_with fail)
        refine (HD.out).mono ?_
        rintro e w' ⟨rfl, H⟩
        have HH := Lib.hid H
        clear H
        go_wp2
        go_ret
        exact ⟨by rw [E1.out]; rfl, HH.out⟩
      · rw [if_neg h4]
        have e1 : d.deed.1 = 0 := by unfold DiskSt.deed; rw [if_neg h4]
        obtain ⟨F, G, e2⟩ : ∃ F G, d.deed.2 = { d with fuse := F, deeds := G } := by unfold DiskSt.deed; rw [if_neg h4]; exact ⟨_, _, rfl⟩
        rw [e1, e2] at HD
        rw [e2]
        replace HD := Lib.hid HD
        clear e1 e2
        have HI := Lib.hid h2
        have H3 := Lib.hid h3
        have hbb : ∀ {W : World} {X Y Z U V T : HP}, sat E W (X :: Y :: Z :: U :: V :: T :: L) → Sl B8 W A b := fun h => hb _ (h.choose 6 [] rfl rfl)
        have HWL : Hid (d.waits.length < 1099511627776) := by show _ < _; omega
        have HMN : Hid (b.length ≤ d.size) := by show _ ≤ _; omega
        have hti : ((i.toNat : Nat) : Int) = i := by omega
        have HTI := Lib.hid hti
        have hzi : (0 : Int) < (d.size : Int) := by omega
        have mk : Hid (∀ W : World, (Instr.makeSlice 30 (.int .i64 (d.size : Int)) (.int .i64 (d.size : Int))).run Try.prog W = .ok (.slice (some ⟨W.heap.size, 0, none⟩) d.size d.size) (W.alloc (.cells (Array.replicate d.size (B8 0)) 5))) := fun W => make_bytes info8 Try.underlying30 d.size (by omega) W
        have HZ : Hid (0 < d.size ∧ d.size ≤ 1048576) := ⟨hz, hz2⟩
        clear H hb h1 h2 h3 h4 hw hz hz2 hti
        go_enter Try.func16, Try.ntmps16
        (go_wp2_with fail)
        refine (HU.out).mono ?_
        rintro e w' ⟨rfl, rfl⟩
        (go_wp2_with fail)
        refine (HT.out).mono ?_
        rintro e w' ⟨rfl, rfl⟩
        (go_wp2_with fail)
        refine (HD.out).mono ?_
        rintro e w' ⟨rfl, H⟩
        clear HU HT HD c1
        obtain ⟨ss, ws, A1, c1, B1, d1, q1, q2, H⟩ := disk_open H
        dsimp only at H q1 q2
        have Q1 := Lib.hid q1
        have Q2 := Lib.hid q2
        have g1 := H.cell 1
        have MK := mk.out w'
        have HCE : Hid ((#[.int .i64 i, .slice (some ⟨w'.heap.size, 0, none⟩) d.size d.size] : Array Value).toList = wcell (i.toNat, ⟨some ⟨w'.heap.size, 0, none⟩, d.size, d.size, pad d.size b⟩)) := by
          show _ = _
          unfold wcell
          rw [HTI.out]; rfl
        have HV := Lib.hid (H.zeros (n := d.size) 5 (by have := HZ.out; unfold maxLen; omega))
        have HS := Lib.hid (hbb HV.out)
        clear H q1 q2
        obtain ⟨w3, hr, H3⟩ := copyB (P := Try.prog) (d := c) 30 3 info8 Try.underlying30 HV.out rfl HS.out HMN.out HZ.out.1
        have e3 : b ++ (List.replicate d.size (0 : UInt8)).drop b.length = pad d.size b := by unfold pad; rw [List.drop_replicate]
        rw [e3] at H3
        have HH3 := Lib.hid H3
        have g2 := H3.pull1.cell 2
        clear H3 HV HS e3
        go_wp2_with (at_builtin; go_must (refine wpList_appR1 rfl (.tmp 45) (.tmp 49) 111 rfl infoW Try.underlying111 rfl wcell_len (by decide) (by decide) HH3.out.pull3 (i.toNat, ⟨some ⟨w'.heap.size, 0, none⟩, d.size, d.size, pad d.size b⟩) HCE.out rfl rfl rfl (wcell_one _) HWL.out ?_))
        intro A4 c4 w4 H4
        have g3 := H4.pull2.cell 2
        have f3 := H4.pull2.frozen 2
        have H5 := H4.pull2.setCell 2 (.slice A4 (d.waits.length + 1) c4)
        have H6 := ((H5.re [2, 5, 0, 3, 1, 4] rfl).bagPush (s := ⟨some ⟨w'.heap.size, 0, none⟩, d.size, d.size, pad d.size b⟩)).re [1, 2, 3, 4, 0] rfl
        have e6 : ws.map Prod.snd ++ [(⟨some ⟨w'.heap.size, 0, none⟩, d.size, d.size, pad d.size b⟩ : Sec)] = (ws ++ [(i.toNat, (⟨some ⟨w'.heap.size, 0, none⟩, d.size, d.size, pad d.size b⟩ : Sec))]).map Prod.snd := by rw [List.map_append]; rfl
        have HF := Lib.hid (disk_shut (d := { d with fuse := F, deeds := G, waits := d.waits ++ [(i.toNat, pad d.size b)] }) (ws := ws ++ [(i.toNat, (⟨some ⟨w'.heap.size, 0, none⟩, d.size, d.size, pad d.size b⟩ : Sec))]) Q1.out (by rw [List.map_append, Q2.out]; rfl) (by rw [← e6]; exact H6))
        clear H4 H5 H6 e6 HH3
        go_wp2
        go_ret
        exact ⟨rfl, HF.out⟩
  · rw [decide_eq_false h2] at HT
    rw [if_pos (.inl h2)]
    have HH := Lib.hid H
    clear H hb h1 h2
    go_enter Try.func16, Try.ntmps16
    (go_wp2_with fail)
    refine (HU.out).mono ?_
    rintro e w' ⟨rfl, rfl⟩
    (go_wp2_with fail)
    refine (HT.out).mono ?_
    rintro e w' ⟨rfl, rfl⟩
    go_wp2
    go_ret
    exact ⟨rfl, HH.out⟩
end
end Go.Proofs.Ytbkjkiaicaopoaa.Dk
