/-
  Package disk: reading, through the iterator of what waits.
-/
import Derived.Test.YtbkjkiaicaopoaaDisk2
import Derived.Test.YtbkjkiaicaopoaaRange
import Derived.RangeFuncCalls
namespace Go.Proofs.Ytbkjkiaicaopoaa.Dk
open Go.RowKit Go.Shelf Go.Proofs.Ytbkjkiaicaopoaa
attribute [local go_sem] Oper.semAt_some

theorem rev_at {α : Type} {l pre rest : List α} {x : α} (h : l.reverse = pre ++ x :: rest) : l[l.length - 1 - pre.length]? = some x ∧ pre.length + 1 ≤ l.length := by
  have hl := congrArg List.length h
  simp at hl
  have e : l = (pre ++ x :: rest).reverse := by rw [← h, List.reverse_reverse]
  refine ⟨?_, by omega⟩
  rw [e]
  simp only [List.length_reverse, List.length_append, List.length_cons]
  rw [List.getElem?_reverse (by simp; omega)]
  simp only [List.length_append, List.length_cons]
  rw [show pre.length + (rest.length + 1) - 1 - (pre.length + (rest.length + 1) - 1 - pre.length) = pre.length by omega, List.getElem?_append_right (Nat.le_refl _), Nat.sub_self]
  rfl
def NewRd (b1 p : Nat) (B : Option Addr) (m e : Nat) (ws : List (Nat × Sec)) (W : World) : Prop :=
  W.cell? ⟨b1, 0, none⟩ = some (.pointer (some ⟨p, 0, none⟩)) ∧ W.cell? ⟨p, 2, none⟩ = some (.slice B m e) ∧ SlR 2 wcell W B ws
set_option maxRecDepth 100000 in
theorem newest_seq (b1 p : Nat) (B : Option Addr) (m e : Nat) (ws : List (Nat × Sec)) (hm : ws.length = m) (hl : m < 2097152) :
    SeqS Try.prog 107 #[.pointer (some ⟨b1, 0, none⟩)] (fun (x : Nat × Sec) vs _ => vs = #[.agg #[.int .i64 x.1, x.2.v]]) ws.reverse (NewRd b1 p B m e ws) := by
  subst hm
  intro n l E J Jx hRd hY W L H
  have HH := Lib.hid H
  clear H
  refine callsIn_of_wp Try.func107 rfl trivial ?_ rfl
  simp only [Try.ntmps107, List.size_toArray, List.length_cons, List.length_nil, Nat.reduceAdd, Nat.reduceSub, Array.replicate_succ, Array.replicate_zero, List.push_toArray, List.append_toArray, List.nil_append, List.cons_append]
  obtain ⟨r1, r2, _⟩ := hRd _ _ _ HH.out
  gi_wp2
  gi_loopw [3] (fun i wr => ∃ pre rest : List (Nat × Sec), i = .int .i64 ((ws.length : Int) - 1 - pre.length) ∧ ws.reverse = pre ++ rest ∧ sat E wr (J pre :: L)) (fun i _ => (intOf i + 1).toNat)
  case atStart => exact ⟨[], _, by simp, rfl, HH.out⟩
  case round =>
    clear r1 r2
    obtain ⟨pre, rest, rfl, hx, Hr⟩ := hrel
    have HX := Lib.hid hx
    obtain ⟨r1, r2, rs⟩ := hRd _ _ _ Hr
    have HR := Lib.hid Hr
    clear Hr
    cases rest with
    | nil =>
      have hlen : pre.length = ws.length := by have := congrArg List.length hx; simp at this; omega
      have ht : ¬ (0 : Int) ≤ (ws.length : Int) - 1 - pre.length := by omega
      clear hx rs hY hRd
      gi_wp2
      go_end0
      exact ⟨⟨_, rfl⟩, .inl (by rw [HX.out, List.append_nil]; exact HR.out)⟩
    | cons x rest =>
      obtain ⟨i, SA, sn, sc, sl⟩ := x
      obtain ⟨hg, hle⟩ := rev_at hx
      have ht : (0 : Int) ≤ (ws.length : Int) - 1 - pre.length := by omega
      obtain ⟨b, o, rfl, _, hcx⟩ := rs.cells hg
      have e1 : (ws.length : Int) - 1 - pre.length = ((ws.length - 1 - pre.length : Nat) : Int) := by omega
      have hk : ws.length - 1 - pre.length < ws.length := by omega
      have hkk : ws.length - 1 - pre.length + pre.length + 1 = ws.length := by omega
      obtain ⟨fn, tmps, assign, body, hy, hR⟩ := hY pre _ rest #[.agg #[.int .i64 i, .slice SA sn sc]] wr L hx (HR.out.pureR rfl).pull1
      rw [e1] at ht ⊢
      generalize ws.length - 1 - pre.length = k at *
      have c0 := hcx 0 _ rfl
      have c1 : wr.cell? ⟨b, o + k * 2 + 1, none⟩ = some (.slice SA sn sc) := hcx 1 _ rfl
      rw [Nat.add_zero] at c0
      have i1 : (0 : Int) ≤ (k : Int) := by omega
      have i2 : (k : Int) < (ws.length : Int) := by omega
      clear e1 hg hx rs hY hle hcx
      gi_wp2
      refine hR.mono ?_
      rintro e W3 (⟨rfl, H3⟩ | ⟨rfl, H3⟩)
      · have H4 := Lib.hid H3
        clear H3 hR hy
        obtain ⟨r1', r2', _⟩ := hRd _ _ _ H4.out
        gi_wp2
        go_roundw
        case rel => exact ⟨pre ++ [(i, ⟨SA, sn, sc, sl⟩)], rest, by congr 1; simp; omega, by rw [HX.out]; simp, H4.out⟩
        case measure => simp [intOf] <;> omega
      · have H4 := Lib.hid H3
        clear H3 hR hy hRd
        gi_wp2
        refine bodyPost_ret (results_none rfl _ _ _) rfl ?_
        exact ⟨⟨_, rfl⟩, .inr ⟨pre, _, rest, HX.out, H4.out⟩⟩
theorem newest_any {E w : World} {L : List HP} (p : Option Addr) (H : sat E w L) :
    Calls Try.prog 78 #[.pointer p] w fun e w' => ∃ b1, e = .returned (.func (.func 107) #[] #[.pointer (some ⟨b1, 0, none⟩)]) ∧ sat E w' (blk b1 #[.pointer p] 25 :: L) := by
  have HA := Lib.hid (H.alloc #[.pointer p] 25)
  clear H
  go_enter Try.func78, Try.ntmps78
  go_wp2
  go_ret
  exact ⟨_, rfl, HA.out⟩
/-- What the loop of 'Read' keeps. -/
def readL (O O4 O5 b1 p : Nat) (v4 v5 : Value) (d : DiskSt) (ss : List Sec) (ws : List (Nat × Sec)) (A : Option Addr) (c : Nat) (B : Option Addr) (e : Nat) (i : Int) : List HP :=
  [blk O5 #[v5] 26, blk O4 #[v4] 30, blk O #[.int .i64 i] 3, blk b1 #[.pointer (some ⟨p, 0, none⟩)] 25,
    blk p #[.slice A d.last.length c, .int .i64 d.size, .slice B d.waits.length e, .int .i64 d.fuse, .bool d.dark, .int .i64 d.deeds] 113, vec 30 Sec.v A d.last.length c ss, rows 116 2 wcell B d.waits.length e ws, bag 5 ss, bag 5 (ws.map Prod.snd)]
def readI (O O4 O5 b1 p : Nat) (d : DiskSt) (ss : List Sec) (ws : List (Nat × Sec)) (A : Option Addr) (c : Nat) (B : Option Addr) (e : Nat) (i : Nat) (pre : List (Nat × Sec)) : HP := fun h =>
  (∀ x ∈ pre, x.1 ≠ i) ∧ star (readL O O4 O5 b1 p (.slice none 0 0) (.int .i64 0) d ss ws A c B e i) h
def readX (O O4 O5 b1 p : Nat) (d : DiskSt) (ss : List Sec) (ws : List (Nat × Sec)) (A : Option Addr) (c : Nat) (B : Option Addr) (e : Nat) (i : Nat) (j : Code) (pre : List (Nat × Sec)) : HP := fun h =>
  ∃ v : Sec × List (Nat × Sec) × (Nat × Sec), (j = .ret ∧ pre = v.2.1 ++ [v.2.2] ∧ (∀ x ∈ v.2.1, x.1 ≠ i) ∧ v.2.2.1 = i ∧ v.1.l = v.2.2.2.l) ∧
    star (v.1.hp 5 :: readL O O4 O5 b1 p v.1.v (.int .i64 0) d ss ws A c B e i) h
/-- What waits last for a sector. -/
def look (i : Nat) (ws : List (Nat × List UInt8)) : Option (List UInt8) := (ws.reverse.find? (fun x => x.1 == i)).map (·.2)
def DiskSt.sector (d : DiskSt) (i : Nat) : List UInt8 := (look i d.waits).getD (d.last.getD i [])
def DiskSt.read (d : DiskSt) (i : Int) : Int × List UInt8 := if d.dark = true then (17, []) else if 0 ≤ i ∧ i < d.last.length then (0, d.sector i.toNat) else (1, [])
set_option maxRecDepth 100000 in
theorem Read_any {E w : World} {p : Nat} {d : DiskSt} {L : List HP} (i : Int) (H : sat E w (disk p d :: L)) (hz2 : d.size ≤ 1048576) (hok : d.ok) (hw : d.waits.length < 1048576) :
    Calls Try.prog 29 #[.pointer (some ⟨p, 0, none⟩), .int .i64 i] w fun e w' => ∃ s : Sec, s.l = (d.read i).2 ∧ e = .returned (.tuple #[s.v, .int .i64 (d.read i).1]) ∧ sat E w' (s.hp 5 :: disk p d :: L) := by
  have H3 := ((H.alloc #[.int .i64 i] 3).alloc #[.slice none 0 0] 30).alloc #[.int .i64 0] 26
  simp only [World.size_alloc] at H3
  have HE : ∀ v : Int, sat E _ _ := fun v => ((H.alloc #[.int .i64 i] 3).alloc #[.slice none 0 0] 30).alloc #[.int .i64 v] 26
  simp only [World.size_alloc] at HE
  replace HE := Lib.hid HE
  have HU := up_any H3.pull3
  have HT := Lib.hid (there_any i H3.pull3)
  have a0 := H3.pull2.cell 0
  have a4 := H3.pull1.cell 0
  have f4 := H3.pull1.frozen 0
  have a5 := H3.cell 0
  have f5 := H3.frozen 0
  have HH := Lib.hid H3
  clear H H3
  refine calls_of_marks Try.func29 rfl ?_
  simp only [Try.ntmps29, List.size_toArray, List.length_cons, List.length_nil, Nat.reduceAdd, Nat.reduceSub, Array.replicate_succ, Array.replicate_zero, List.push_toArray, List.append_toArray, List.nil_append, List.cons_append]
  unfold DiskSt.read
  by_cases h1 : d.dark = true
  · rw [if_pos h1] at HU ⊢
    replace HU := Lib.hid HU
    clear h1 HT
    (go_wp2_with fail)
    refine (HU.out).mono ?_
    rintro e w' ⟨rfl, rfl⟩
    clear HU
    go_wp2
    have HF := HE.out 17
    have x4 := HF.pull1.cell 0
    have x5 := HF.cell 0
    refine leave_mark0 rfl (v := .tuple #[.slice none 0 0, .int .i64 17]) ?_ ⟨⟨none, 0, 0, []⟩, rfl, rfl, (HF.choose 4 [3] rfl rfl).nilVec _ _⟩
    simp [results, Try.results29, go_sem, x4, x5]
  rw [if_neg h1] at HU ⊢
  replace HU := Lib.hid HU
  by_cases h2 : 0 ≤ i ∧ i < d.last.length
  · rw [decide_eq_true h2] at HT
    rw [if_pos h2]
    obtain ⟨h20, h21⟩ := h2
    obtain ⟨i, rfl⟩ := Int.eq_ofNat_of_zero_le h20
    rw [Int.toNat_natCast]
    have HN := Lib.hid (newest_any (some ⟨p, 0, none⟩) HH.out)
    clear h1 h20
    (go_wp2_with fail)
    refine (HU.out).mono ?_
    rintro e w' ⟨rfl, rfl⟩
    (go_wp2_with fail)
    refine (HT.out).mono ?_
    rintro e w' ⟨rfl, rfl⟩
    go_wp2_with fail
    refine HN.out.mono ?_
    rintro e w1 ⟨b1, rfl, H⟩
    clear HU HT HN HE HH a0 a4 f4 a5 f5
    generalize w.heap.size + 1 + 1 = O5 at *
    generalize w.heap.size + 1 = O4 at *
    generalize w.heap.size = O at *
    obtain ⟨ss, ws, A, c, B, e, q1, q2, H⟩ := disk_open H.pull4
    have hws : ws.length = d.waits.length := by rw [← q2, List.length_map]
    have HS := Lib.hid (newest_seq b1 p B d.waits.length e ws hws (by omega))
    have hil : i < d.last.length := by omega
    have Q1 := Lib.hid q1
    have Q2 := Lib.hid q2
    have HI := Lib.hid hil
    have H2 : Hid (sat E w1 (readI O O4 O5 b1 p d ss ws A c B e i [] :: L)) := sat.shut_and (by simp) (sat.fold (L := readL O O4 O5 b1 p (.slice none 0 0) (.int .i64 0) d ss ws A c B e i) (H.re [6, 7, 8, 5, 0, 1, 2, 3, 4] rfl))
    have HOK := Lib.hid hok
    clear H q1 q2 hws hil h21 hok
    go_wp2_with fail
    refine wp_range_s rfl (enters_of Try.func107 (by kernel_rfl) rfl) HS.out (by rintro x vs h rfl; rfl) (readI O O4 O5 b1 p d ss ws A c B e i) (readX O O4 O5 b1 p d ss ws A c B e i) H2.out ?rd 2 ?round ?done ?stop
    case rd =>
      rintro pre W L' h
      have h := (h.open_and).2.flat
      unfold readL at h
      simp only [List.cons_append, List.nil_append] at h
      exact ⟨h.pull3.cell 0, h.pull4.cell 2, h.pull6.SlR wcell_len (by decide)⟩
    case stop =>
      rintro D cc pre x rest W hx h
      obtain ⟨⟨s, pre', y⟩, h0⟩ := h.open_ex
      obtain ⟨⟨rfl, hp, hno, hyi, hsl⟩, h1⟩ := h0.open_and
      have h := h1.flat
      clear h0 h1
      unfold readL at h
      simp only [List.cons_append, List.nil_append] at h
      dsimp only at hp hno hyi hsl h
      have hpy := List.append_inj' hp rfl
      obtain ⟨rfl, hxy⟩ := hpy
      obtain rfl : x = y := by simpa using hxy
      have hlk : d.sector i = s.l := by
        have e0 : d.waits.reverse = (pre ++ x :: rest).map (fun x => (x.1, x.2.l)) := by rw [← Q2.out, ← List.map_reverse, hx]
        unfold DiskSt.sector look
        rw [e0, List.map_append, List.find?_append, List.find?_eq_none.2 (by
          intro z hz
          obtain ⟨u, hu, rfl⟩ := List.mem_map.1 hz
          simpa using hno u hu)]
        simp [hyi, hsl]
      have hd := Lib.hid ((disk_shut (d := d) Q1.out Q2.out (h.re [5, 6, 7, 8, 9, 0, 1, 2, 3, 4, 10] rfl)).choose 7 [6, 2, 3, 1, 0] rfl rfl (by simp [putIn]))
      have HLK := Lib.hid hlk
      clear h hlk hno hsl hp hxy hx
      go_wp2
      refine leave_mark1 rfl hd.out (fun w' H' => ⟨.tuple #[s.v, .int .i64 0], ?_, s, HLK.out.symm, rfl, sat.choose H' 4 [2, 3] rfl rfl (by simp [chooseIn, putIn])⟩)
      have x5 : w'.cell? ⟨O5, 0, none⟩ = some (.int .i64 0) := sat.cell H' 0
      have x4 : w'.cell? ⟨O4, 0, none⟩ = some s.v := sat.cell (sat.pull1 H') 0
      simp [results, Try.results29, go_sem, x4, x5]
    case round =>
      rintro l pre x rest vs W L' hx h K hK
      obtain ⟨xi, SA, sn, sc, sl⟩ := x
      obtain rfl : vs = #[.agg #[.int .i64 xi, .slice SA sn sc]] := h.pull1.pure_out
      have HH := Lib.hid h.pull1.tail
      obtain ⟨hg, hle⟩ := rev_at hx
      have hgs : (ws.map Prod.snd)[ws.length - 1 - pre.length]? = some (⟨SA, sn, sc, sl⟩ : Sec) := by rw [List.getElem?_map, hg]; rfl
      have hgw : (xi, sl) ∈ d.waits := by
        rw [← Q2.out]
        exact List.mem_map.2 ⟨_, List.mem_of_getElem? hg, rfl⟩
      have hsz := (HOK.out.1 _ hgw).2
      have HG := Lib.hid hgs
      have HSZ := Lib.hid hsz
      clear h hx hg hle hgs hgw hsz
      gi_wp2
      refine hK _ _ (star [blk W.heap.size #[.int .i64 xi, .slice SA sn sc] 116, readI O O4 O5 b1 p d ss ws A c B e i pre]) (sat.fold (L := [_, _]) (HH.out.alloc _ _)) (fun W2 L2 h2 => ?_)
      clear hK K HH
      have h3 : sat E W2 (readI O O4 O5 b1 p d ss ws A c B e i pre :: blk W.heap.size #[.int .i64 xi, .slice SA sn sc] 116 :: L2) := h2.flat.pull1
      obtain ⟨hno, h4⟩ := h3.open_and
      have h5 := h4.flat
      clear h2 h3 h4
      unfold readL at h5
      simp only [List.cons_append, List.nil_append] at h5
      have qb := h5.choose 10 [9] rfl rfl
      have q0 : W2.cell? ⟨W.heap.size, 0, none⟩ = some (.int .i64 xi) := sat.cell qb 0
      have q1 : W2.cell? ⟨W.heap.size, 1, none⟩ = some (.slice SA sn sc) := sat.cell qb 1
      have o0 := h5.pull2.cell 0
      have a4 := h5.pull1.cell 0
      have f4 := h5.pull1.frozen 0
      have a5 := h5.cell 0
      have f5 := h5.frozen 0
      have NO := Lib.hid hno
      by_cases hxi : xi = i
      · subst hxi
        have t : ((xi : Int) == (xi : Int)) = true := by simp
        have hS := (h5.pull8.bagGet HG.out)
        have hln : sl.length = sn := sat.len hS
        have hsl : Sl B8 W2 SA sl := sat.Sl hS
        have HC := Lib.hid (BClone_any (c := sc) (h5.choose 10 [0, 1, 2, 3, 4, 5, 6, 7, 8] rfl rfl) hsl hln (by have := HSZ.out; omega))
        clear h5 hS hln hsl qb hno
        gi_wp2_with fail
        refine ⟨trivial, (CallsIn.inRound l (callsIn_wide.2 HC.out)).mono ?_⟩
        rintro ee W3 ⟨⟨A', n', c', l'⟩, rfl, rfl, rfl, H⟩
        dsimp only at H
        dsimp only [Sec.v]
        have b4 := H.pull2.cell 0
        have g4 := H.pull2.frozen 0
        have b5 := H.pull1.cell 0
        have g5 := H.pull1.frozen 0
        have H6 := (H.pull2.setCell 0 (.slice A' n' c')).pull2.setCell 0 (.int .i64 0)
        have HH6 := Lib.hid H6
        have n1 : ¬ O5 = O4 := H.tail.ne
        have n2 : ¬ O4 = O5 := fun e => n1 e.symm
        clear H H6 HC a4 f4 a5 f5 o0 q0 q1
        gi_wp2
        refine sat.shut_ex (A := fun v : Sec × List (Nat × Sec) × (Nat × Sec) => fun h => (Code.ret = .ret ∧ pre ++ [(xi, (⟨SA, n', sc, l'⟩ : Sec))] = v.2.1 ++ [v.2.2] ∧ (∀ x ∈ v.2.1, x.1 ≠ xi) ∧ v.2.2.1 = xi ∧ v.1.l = v.2.2.2.l) ∧
          star (v.1.hp 5 :: readL O O4 O5 b1 p v.1.v (.int .i64 0) d ss ws A c B e xi) h) (⟨A', n', c', l'⟩, pre, (xi, ⟨SA, n', sc, l'⟩)) (sat.shut_and ⟨rfl, rfl, NO.out, rfl, rfl⟩
          (sat.fold (L := (⟨A', n', c', l'⟩ : Sec).hp 5 :: readL O O4 O5 b1 p (.slice A' n' c') (.int .i64 0) d ss ws A c B e xi) ((HH6.out.re [2, 0, 1] rfl))))
      · have t : ((xi : Int) == (i : Int)) = false := by rw [beq_eq_false_iff_ne]; omega
        have HF : Hid (sat E W2 (readI O O4 O5 b1 p d ss ws A c B e i (pre ++ [(xi, ⟨SA, sn, sc, sl⟩)]) :: L2)) :=
          sat.shut_and (by
            intro z hz
            rcases List.mem_append.1 hz with hz | hz
            · exact NO.out z hz
            · simp at hz; subst hz; exact hxi) (sat.fold (L := readL O O4 O5 b1 p (.slice none 0 0) (.int .i64 0) d ss ws A c B e i) (h5.choose 10 [0, 1, 2, 3, 4, 5, 6, 7, 8] rfl rfl))
        clear h5 qb hno hxi
        gi_wp2
        exact HF.out
    case done =>
      rintro D W h
      obtain ⟨hno, h⟩ := h.open_and
      have h := h.flat
      unfold readL at h
      simp only [List.cons_append, List.nil_append] at h
      have HH := Lib.hid h
      have hlk : d.sector i = d.last.getD i [] := by
        have e0 : d.waits.reverse = ws.reverse.map (fun x => (x.1, x.2.l)) := by rw [← Q2.out, ← List.map_reverse]
        unfold DiskSt.sector look
        rw [e0, List.find?_eq_none.2 (by
          intro z hz
          obtain ⟨u, hu, rfl⟩ := List.mem_map.1 hz
          simpa using hno u hu)]
        rfl
      have hsl := Q1.out
      have hssl : ss.length = d.last.length := by rw [← hsl, List.length_map]
      obtain ⟨⟨SA, sn, sc, sl⟩, es⟩ : ∃ s, ss[i]? = some s := ⟨_, List.getElem?_eq_getElem (by have := HI.out; omega)⟩
      have el : d.last.getD i [] = sl := by rw [← hsl, List.getD_eq_getElem?_getD, List.getElem?_map, es]; rfl
      rw [el] at hlk
      have hmem : sl ∈ d.last := by rw [← hsl]; exact List.mem_map.2 ⟨_, List.mem_of_getElem? es, rfl⟩
      have hlz := HOK.out.2 _ hmem
      have HLZ := Lib.hid hlz
      have HLK := Lib.hid hlk
      have ES := Lib.hid es
      obtain ⟨g0, rfl⟩ := (h.pull5 : sat E W (vec 30 Sec.v A d.last.length c ss :: _)).vaddr (by have := HI.out; omega)
      have i0 : (0 : Int) ≤ (i : Int) := by omega
      have i1 : (i : Int) < (d.last.length : Int) := by have := HI.out; omega
      clear h hno hlk hsl hssl es el hmem hlz
      go_wp2
      refine Reg.wp_region_s (HH.out) (fun W => W.cell? ⟨p, 0, none⟩ = some (.slice (some ⟨g0, 0, none⟩) d.last.length c) ∧ W.cell? ⟨O, 0, none⟩ = some (.int .i64 i) ∧ W.cell? ⟨g0, i, none⟩ = some (.slice SA sn sc)) [3, 4, 6] [7, 8, 9] [0, 1, 2, 3, 4, 5, 6, 7, 8, 9] (by kernel_rfl) (by kernel_rfl) (fun W HW => ⟨HW.pull4.cell 0, HW.pull2.cell 0, by have : W.cell? ⟨g0, 0 + i, none⟩ = some (.slice SA sn sc) := (HW.pull5 : sat E W (vec 30 Sec.v (some ⟨g0, 0, none⟩) d.last.length c ss :: _)).vcell ES.out; rwa [Nat.zero_add] at this⟩) (fun W HW => ?_)
      simp only [Reg.pickOps, List.map_cons, List.map_nil, List.getD_cons_zero, List.getD_cons_succ, List.contains_cons, List.contains_nil, Nat.reduceBEq, Bool.or_false, Bool.or_true, Bool.or_self]
      iterate 3 (refine Reg.wpX_y (v := ?_) (fun w' => ?_) rfl ?_; rotate_left 1; focus (go_simp; (try with_reducible rfl)))
      iterate 2 (refine Reg.wpX_l (v := ?_) rfl (fun w' hw => ?_) rfl ?_; rotate_left 1; focus ((try dsimp only at hw); go_split_ands; go_simp; (try with_reducible rfl)))
      (refine Reg.wpX_y (v := ?_) (fun w' => ?_) rfl ?_; rotate_left 1; focus (go_simp; (try with_reducible rfl)))
      (refine Reg.wpX_l (v := ?_) rfl (fun w' hw => ?_) rfl ?_; rotate_left 1; focus ((try dsimp only at hw); go_split_ands; go_simp; (try with_reducible rfl)))
      try simp only [Act.put, List.setIfInBounds_toArray, List.set_cons_zero, List.set_cons_succ]
      have hS := HW.pull7.bagGet ES.out
      have hln : sl.length = sn := sat.len hS
      have hsb : Sl B8 W SA sl := sat.Sl hS
      have HC := Lib.hid (BClone_any (c := sc) HW hsb hln (by have := HLZ.out; omega))
      refine Reg.wpX_go rfl (fun K hK => ?_)
      go_simp
      refine HC.out.mono ?_
      rintro ee w2 ⟨⟨A', n', c', l'⟩, hll, rfl, rfl, H1⟩
      dsimp only at hll
      subst hll
      dsimp only [Sec.v]
      refine hK _ _ ⟨H1.pull5.cell 0, H1.pull3.cell 0, by have : w2.cell? ⟨g0, 0 + i, none⟩ = some (.slice SA n' sc) := (H1.pull6 : sat E w2 (vec 30 Sec.v (some ⟨g0, 0, none⟩) d.last.length c ss :: _)).vcell ES.out; rwa [Nat.zero_add] at this⟩ ?_
      try simp only [Act.put, List.setIfInBounds_toArray, List.set_cons_zero, List.set_cons_succ]
      have b4 := H1.pull2.cell 0
      have g4 := H1.pull2.frozen 0
      refine Reg.wpX_last rfl (by kernel_rfl) (fun K hK => ?_)
      go_simp
      have H5 := (H1.pull2.setCell 0 (.slice A' n' c')).pull2
      have b5 := H5.cell 0
      have g5 := H5.frozen 0
      have H6 := H5.setCell 0 (.int .i64 0)
      refine hK _ _ ?_
      try simp only [Act.put, List.setIfInBounds_toArray, List.set_cons_zero, List.set_cons_succ]
      refine Reg.wpX_last rfl (by kernel_rfl) (fun K hK => ?_)
      go_simp
      refine hK _ _ ?_
      try simp only [Act.put, List.setIfInBounds_toArray, List.set_cons_zero, List.set_cons_succ]
      refine Reg.wpX_nil ?_
      have hd := Lib.hid ((disk_shut (d := d) Q1.out Q2.out (H6.re [5, 6, 7, 8, 9, 0, 1, 2, 3, 4, 10] rfl)).choose 7 [6, 1, 2, 3, 0] rfl rfl (by simp [putIn]))
      clear H1 H5 H6 b4 g4 b5 g5 HC hS hln hsb HW HH
      go_wp2
      refine leave_mark1 rfl hd.out (fun w' H' => ⟨.tuple #[.slice A' n' c', .int .i64 0], ?_, ⟨A', n', c', l'⟩, HLK.out.symm, rfl, sat.choose H' 4 [2, 3] rfl rfl (by simp [chooseIn, putIn])⟩)
      have x5 : w'.cell? ⟨O5, 0, none⟩ = some (.int .i64 0) := sat.cell H' 0
      have x4 : w'.cell? ⟨O4, 0, none⟩ = some (.slice A' n' c') := sat.cell (sat.pull1 H') 0
      simp [results, Try.results29, go_sem, x4, x5]
  · rw [decide_eq_false h2] at HT
    rw [if_neg h2]
    clear h1 h2
    (go_wp2_with fail)
    refine (HU.out).mono ?_
    rintro e w' ⟨rfl, rfl⟩
    (go_wp2_with fail)
    refine (HT.out).mono ?_
    rintro e w' ⟨rfl, rfl⟩
    clear HU HT
    go_wp2
    have HF := HE.out 1
    have x4 := HF.pull1.cell 0
    have x5 := HF.cell 0
    refine leave_mark0 rfl (v := .tuple #[.slice none 0 0, .int .i64 1]) ?_ ⟨⟨none, 0, 0, []⟩, rfl, rfl, (HF.choose 4 [3] rfl rfl).nilVec _ _⟩
    simp [results, Try.results29, go_sem, x4, x5]
end Go.Proofs.Ytbkjkiaicaopoaa.Dk
