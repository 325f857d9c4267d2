/-
  A statement that leaves its order open, walked in one order: what yields its value whenever it comes is taken first; the others come in one order alone.
-/
import Derived.Still
import Derived.Laws.World
import Derived.Tactics
import Derived.KernelRfl
import Derived.Test.YtbkjkiaicaopoaaSep
namespace Go.Proofs.Ytbkjkiaicaopoaa.Reg
open Go
section
variable {P : Program} {ops : Array Oper} {Q : Exit → Act → World → Prop} {md : Region.Mode} {S : World → Prop} {lds loud : List Nat}

/-- Behind an operation that acts: S stands as long as a load may still come behind it. -/
def after (S : World → Prop) (lds : List Nat) (md : Region.Mode) (o : Oper) (w : World) : Prop := (lds.any fun x => o.after.all fun e => !Region.binds md e || e.on != x) = true → S w
def afterAt (S : World → Prop) (lds : List Nat) (md : Region.Mode) (ops : Array Oper) (i : Nat) (w : World) : Prop := ∀ o, ops[i]? = some o → after S lds md o w
/-- It yields v in every world (in which S stands, where it loads). -/
def Yld (P : Program) (ops : Array Oper) (S : World → Prop) (lds : List Nat) (i : Nat) (o : Oper) (v : Value) (a : Act) : Prop := ∀ w', (lds.contains i = true → S w') → YieldsAt P ops w' o v a

def wpH (P : Program) (md : Region.Mode) (ops : Array Oper) (S : World → Prop) (lds loud : List Nat) (Q : Exit → Act → World → Prop) : Nat → Array Bool → Act → World → Prop
  | 0, listed, a, w => Region.ready md ops listed = [] ∧ Q .normal a w
  | f + 1, listed, a, w => (Region.ready md ops listed = [] → Q .normal a w) ∧ ∀ i ∈ Region.ready md ops listed,
      (loud.contains i = true → wpOp P ops Q i (fun a' w' => afterAt S lds md ops i w' ∧ wpH P md ops S lds loud Q f (listed.setIfInBounds i true) a' w') a w) ∧
      (loud.contains i = false → ∃ o v, ops[i]? = some o ∧ YieldsAt P ops w o v a ∧ wpH P md ops S lds loud Q f (listed.setIfInBounds i true) (a.put o.dst v) w)

theorem wpAny_of_wpH : ∀ (f : Nat) (listed : Array Bool) (a : Act) (w : World), wpH P md ops S lds loud Q f listed a w → wpAny P md ops Q f listed a w
  | 0, _, _, _, h => h
  | f + 1, listed, a, w, h => ⟨h.1, fun i hi => by
    have h2 := h.2 i hi
    cases e : loud.contains i with
    | true => exact wpOp_mono (fun a' w' h' => wpAny_of_wpH f _ a' w' h'.2) (h2.1 e)
    | false =>
      obtain ⟨o, v, ho, hy, hn⟩ := h2.2 e
      exact wpOp_of_stOp (K := fun a' => wpAny P md ops Q f (listed.setIfInBounds i true) a' w) (fun _ h => h) (hy.stOp ho (wpAny_of_wpH f _ _ _ hn))⟩

theorem wpOp_put_of {j : Nat} {oi oj : Oper} {v : Value} (hj : ops[j]? = some oj) (hap : oi.apart ops oj = true) (hsj : ∀ cs b, oj.op ≠ .select cs b)
    (hQ : ∀ c a w, Q (.panic c) (a.put oi.dst v) w → Q (.panic c) a w) {Y : Act → Prop} (hY : ∀ a u, Y a → Y (a.put oj.dst u)) (hD : ∀ (a : Act) d, Y a → Y { a with defers := d :: a.defers })
    {K : Act → World → Prop} {a : Act} {w : World} (hy : Y a) (h : wpOp P ops Q j K (a.put oi.dst v) w) : wpOp P ops Q j (fun a' w' => Y a' ∧ K (a'.put oi.dst v) w') a w := by
  obtain ⟨h1, h2, _⟩ := Oper.apart_spec hap
  unfold wpOp at *
  simp only [hj] at *
  rw [wanted_put oj a oi.dst v h1] at h
  split
  · rename_i hw
    simp only [hw, if_true] at h
    rcases h with h | ⟨hasks, hlets⟩
    case inr => exact .inr ⟨by unfold Oper.asks at *; rw [execOp_put oj hsj a oi.dst v h1] at hasks; exact hasks, hlets⟩
    refine .inl ?_
    unfold Oper.wp at *
    rw [execOp_put oj hsj a oi.dst v h1] at h
    generalize (execOp a.eval oj).run P w = r at *
    cases r with
    | ok n w' =>
      cases n <;> simp only [Oper.upon] at h ⊢
      case value u => exact ⟨hY a u hy, by rw [← Act.put_comm a v u h2]; exact h⟩
      case skip => exact ⟨hY a _ hy, by rw [← Act.put_comm a v undef h2]; exact h⟩
      case defer d =>
        refine ⟨hY _ _ (hD a d hy), ?_⟩
        rw [← Act.put_comm _ v undef h2, ← Act.put_defers]
        exact h
      case enter f args =>
        refine Calls.mono h fun e w'' he => ?_
        cases e with
        | returned u => exact ⟨hY a u hy, by rw [← Act.put_comm a v u h2]; exact he⟩
        | panicked c => exact hQ _ _ _ he
        | outgrown => exact he
      case row row args => exact Rows.mono h fun u w'' he => ⟨hY a u hy, by rw [← Act.put_comm a v u h2]; exact he⟩
    | halt x w' =>
      cases x <;> simp only [Oper.upon] at h ⊢
      case panic u => exact hQ _ _ _ h
  · rename_i hw
    simp only [hw] at h
    exact ⟨hY a _ hy, by rw [← Act.put_comm a v undef h2]; exact h⟩

theorem wpH_take {i : Nat} {oi : Oper} {v : Value} (hi : ops[i]? = some oi) (hs : Region.noSelect ops = true) (hl : loud.contains i = false) (hQ : ∀ c a w, Q (.panic c) (a.put oi.dst v) w → Q (.panic c) a w) :
    ∀ (f : Nat) (listed : Array Bool) (a : Act) (w : World),
      (∀ j oj, ops[j]? = some oj → j ≠ i → listed.getD j true = false → (∀ e ∈ oj.after, Region.binds md e = true → e.on ≠ i) → oi.apart ops oj = true) →
      i ∈ Region.ready md ops listed → Yld P ops S lds i oi v a → (lds.contains i = true → S w) →
      wpH P md ops S lds loud Q f (listed.setIfInBounds i true) (a.put oi.dst v) w → wpH P md ops S lds loud Q (f + 1) listed a w := by
  have hsel := Region.noSelect_spec hs
  intro f
  induction f with
  | zero =>
    intro listed a w _ hr hy hS H
    refine ⟨fun h => (by rw [h] at hr; cases hr), fun j hj => ?_⟩
    by_cases hji : j = i
    · subst hji
      exact ⟨fun h => (by rw [hl] at h; cases h), fun _ => ⟨oi, v, hi, hy w hS, H⟩⟩
    · have := ready_mono hj hji
      rw [H.1] at this
      cases this
  | succ f ih =>
    intro listed a w hfree hr hy hS H
    refine ⟨fun h => (by rw [h] at hr; cases hr), fun j hj => ?_⟩
    by_cases hji : j = i
    · subst hji
      exact ⟨fun h => (by rw [hl] at h; cases h), fun _ => ⟨oi, v, hi, hy w hS, H⟩⟩
    · have h1 := H.2 j (ready_mono hj hji)
      obtain ⟨hjun, oj, hoj, hall⟩ := mem_ready.1 hj
      have hiun := (mem_ready.1 hr).1
      have hnot : ∀ e ∈ oj.after, Region.binds md e = true → e.on ≠ i := fun e he hb heq => by
        have h1 := hall e he hb
        rw [heq] at h1
        rcases Nat.lt_or_ge i listed.size with h' | h'
        · simp [h'] at hiun h1; rw [hiun] at h1; cases h1
        · simp [Array.getElem?_eq_none h'] at h1
      have hap := hfree j oj hoj hji hjun hnot
      obtain ⟨p1, p2, p3⟩ := Oper.apart_spec hap
      have keep : ∀ (a : Act) u, Yld P ops S lds i oi v a → Yld P ops S lds i oi v (a.put oj.dst u) := fun a u hy w' hw => (hy w' hw).of_same (execOp_put oi (fun cs b => hsel i oi cs b hi) a oj.dst u p3) (wanted_put oi a oj.dst u p3)
      have keepD : ∀ (a : Act) d, Yld P ops S lds i oi v a → Yld P ops S lds i oi v { a with defers := d :: a.defers } := fun a d hy w' hw => (hy w' hw).of_same rfl rfl
      have hfree' : ∀ k ok, ops[k]? = some ok → k ≠ i → (listed.setIfInBounds j true).getD k true = false → (∀ e ∈ ok.after, Region.binds md e = true → e.on ≠ i) → oi.apart ops ok = true := fun k ok hk hki hun hno => by
        refine hfree k ok hk hki ?_ hno
        by_cases hjk : j = k
        · subst hjk; exact hjun
        · rw [getD_set_ne true hjk] at hun; exact hun
      have hcomm := Array.setIfInBounds_comm (xs := listed) true true (Ne.symm hji)
      refine ⟨fun hlj => ?_, fun hlj => ?_⟩
      · have h2 := wpOp_put_of hoj hap (fun cs b => hsel j oj cs b hoj) hQ keep keepD hy (h1.1 hlj)
        refine wpOp_mono (fun a' w' h3 => ⟨h3.2.1, ih (listed.setIfInBounds j true) a' w' hfree' (ready_mono hr (Ne.symm hji)) h3.1 (fun hc => ?_) ?_⟩) h2
        · refine h3.2.1 oj hoj (List.any_eq_true.2 ⟨i, by simpa using hc, ?_⟩)
          rw [Array.all_eq_true_iff_forall_mem]
          intro e he
          cases hb : Region.binds md e with
          | false => rfl
          | true => simpa using hnot e he hb
        · rw [← hcomm]; exact h3.2.2
      · obtain ⟨o, u, ho, hyj, hn⟩ := h1.2 hlj
        obtain rfl : o = oj := Option.some.inj (ho.symm.trans hoj)
        refine ⟨o, u, ho, hyj.of_same (execOp_put o (fun cs b => hsel j o cs b hoj) a oi.dst v p1).symm (wanted_put o a oi.dst v p1).symm, ih _ _ _ hfree' (ready_mono hr (Ne.symm hji)) (keep a u hy) hS ?_⟩
        rw [← hcomm, ← Act.put_comm a v u p2]
        exact hn

/-- The operations in one order, each with its number and whether it acts. -/
def wpX (P : Program) (ops : Array Oper) (S : World → Prop) (lds : List Nat) (md : Region.Mode) (Q : Exit → Act → World → Prop) : List (Nat × Bool × Oper) → Act → World → Prop
  | [], a, w => Q .normal a w
  | (i, false, o) :: rest, a, w => ∃ v, Yld P ops S lds i o v a ∧ wpX P ops S lds md Q rest (a.put o.dst v) w
  | (_, true, o) :: rest, a, w => if Region.wanted o (yielded ops a.tmps) then o.wp P a w (fun a' w' => after S lds md o w' ∧ wpX P ops S lds md Q rest a' w') Q ∨ (o.asks P a w ∧ LetsOut Q) else after S lds md o w ∧ wpX P ops S lds md Q rest (a.put o.dst undef) w
def chk (md : Region.Mode) (ops : Array Oper) (loud : List Nat) : List Nat → Array Bool → Bool
  | [], listed => (Region.ready md ops listed).isEmpty
  | i :: is, listed => (if loud.contains i then Region.ready md ops listed == [i] else (Region.ready md ops listed).contains i && Region.free md ops listed i) && chk md ops loud is (listed.setIfInBounds i true)
def pickOps (ops : List Oper) (loud : List Nat) (is : List Nat) : List (Nat × Bool × Oper) := is.map fun i => (i, loud.contains i, ops.getD i default)

theorem wpH_of_wpX {l : List Oper} (hl : l.toArray = ops) (hs : Region.noSelect ops = true) (hQ : ∀ c a d v w, Q (.panic c) (Act.put a d v) w → Q (.panic c) a w) : ∀ (is : List Nat) (listed : Array Bool) (a : Act) (w : World),
    chk md ops loud is listed = true → ((lds.any fun x => !listed.getD x false) = true → S w) → wpX P ops S lds md Q (pickOps l loud is) a w → wpH P md ops S lds loud Q is.length listed a w
  | [], listed, a, w, hc, _, h => ⟨by simpa [chk] using hc, h⟩
  | i :: is, listed, a, w, hc, hS, h => by
    simp only [chk, Bool.and_eq_true] at hc
    obtain ⟨hc1, hc2⟩ := hc
    have hop : ∀ o, ops[i]? = some o → l.getD i default = o := fun o ho => by
      subst hl
      rw [List.getElem?_toArray] at ho
      rw [List.getD_eq_getElem?_getD, ho]; rfl
    cases e : loud.contains i with
    | true =>
      rw [if_pos e] at hc1
      have hr : Region.ready md ops listed = [i] := by simpa using hc1
      obtain ⟨_, o, ho, hall⟩ := mem_ready.1 (show i ∈ Region.ready md ops listed by rw [hr]; simp)
      have ho' := hop o ho
      simp only [pickOps, List.map_cons, e, wpX, ho'] at h
      refine ⟨fun h0 => (by rw [hr] at h0; cases h0), fun j hj => ?_⟩
      rw [hr] at hj
      obtain rfl : j = i := by simpa using hj
      refine ⟨fun _ => ?_, fun h0 => (by rw [e] at h0; cases h0)⟩
      have go : ∀ a' w', after S lds md o w' ∧ wpX P ops S lds md Q (pickOps l loud is) a' w' → afterAt S lds md ops j w' ∧ wpH P md ops S lds loud Q is.length (listed.setIfInBounds j true) a' w' := fun a' w' hh =>
        ⟨fun o2 ho2 => by obtain rfl : o2 = o := Option.some.inj (ho2.symm.trans ho); exact hh.1, wpH_of_wpX hl hs hQ is _ a' w' hc2 (fun hu => hh.1 (by
          obtain ⟨x, hx, hxu⟩ := List.any_eq_true.1 hu
          refine List.any_eq_true.2 ⟨x, hx, ?_⟩
          rw [Array.all_eq_true_iff_forall_mem]
          intro ed hed
          cases hb : Region.binds md ed with
          | false => rfl
          | true =>
            have := getD_set_true (i := j) (hall ed hed hb)
            simp only [Bool.not_eq_true', Bool.not_true, Bool.false_or, bne_iff_ne, ne_eq] at hxu ⊢
            rintro rfl
            rw [this] at hxu; cases hxu)) hh.2⟩
      unfold wpOp
      simp only [ho]
      split
      · rename_i hw
        rw [if_pos hw] at h
        exact h.imp (Oper.wp_mono go) id
      · rename_i hw
        rw [if_neg hw] at h
        exact go _ _ h
    | false =>
      rw [if_neg (by rw [e]; exact Bool.false_ne_true)] at hc1
      simp only [Bool.and_eq_true] at hc1
      obtain ⟨hr, hf⟩ := hc1
      have hr' : i ∈ Region.ready md ops listed := by simpa using hr
      obtain ⟨hun, o, ho, _⟩ := mem_ready.1 hr'
      have ho' := hop o ho
      simp only [pickOps, List.map_cons, e, wpX, ho'] at h
      obtain ⟨v, hy, h⟩ := h
      have hun' : listed.getD i false = false := by
        rcases Nat.lt_or_ge i listed.size with h' | h'
        · simp [h'] at hun ⊢; exact hun
        · simp [Array.getElem?_eq_none h']
      refine wpH_take ho hs e (fun c a w => hQ c a _ _ w) _ _ _ _ (Region.free_spec ho hf) hr' hy (fun hc => hS (List.any_eq_true.2 ⟨i, by simpa using hc, by rw [hun']; rfl⟩)) ?_
      refine wpH_of_wpX hl hs hQ is _ _ _ hc2 (fun hu => hS ?_) h
      obtain ⟨x, hx, hxu⟩ := List.any_eq_true.1 hu
      refine List.any_eq_true.2 ⟨x, hx, ?_⟩
      cases ex : listed.getD x false with
      | false => rfl
      | true => rw [getD_set_true ex] at hxu; exact hxu

def okB (ops : Array Oper) (loud is : List Nat) : Bool := Region.noSelect ops && is.length == ops.size && chk .any ops loud is (Array.replicate ops.size false)
/-- A post that is false at a panic. -/
def noP (Q : Exit → Act → World → Prop) : Exit → Act → World → Prop
  | .panic _, _, _ => False
  | e, a, w => Q e a w
/-- The law: the region's operations in the order 'is'; S stands where the region begins, and behind what acts. -/
theorem wp_region_x {id : Nat} {a : Act} {w : World} {l : List Oper} (S : World → Prop) (lds loud is : List Nat) (hm : P.follows .mixedOrders = true) (hB : okB l.toArray loud is = true)
    (hS : S w.drew) (h : wpX P l.toArray S lds .any (noP Q) (pickOps l loud is) a w.drew) : (Code.region id l.toArray true).wp P Q a w := by
  simp only [okB, Bool.and_eq_true, beq_iff_eq] at hB
  obtain ⟨⟨h1, h2⟩, h3⟩ := hB
  refine wp_mono (Q := noP Q) ?_ (fun e a w hq => by cases e <;> first | exact hq | exact (hq : False).elim)
  refine wp_region_any hm (wpAny_of_wpH (S := S) (lds := lds) (loud := loud) _ _ _ _ ?_)
  rw [← h2]
  exact wpH_of_wpX (md := .any) rfl h1 (fun _ _ _ _ _ h => h) is _ a w.drew (by rw [h2]; exact h3) (fun _ => hS) h

/-- The same, where resources are known: the world has a name of its own from there on. -/
theorem wp_region_s {id : Nat} {a : Act} {w : World} {l : List Oper} {E : World} {L : List HP} (H : sat E w L) (S : World → Prop) (lds loud is : List Nat) (hm : P.follows .mixedOrders = true) (hB : okB l.toArray loud is = true)
    (hS : ∀ W, sat E W L → S W) (h : ∀ W, sat E W L → wpX P l.toArray S lds .any (noP Q) (pickOps l loud is) a W) : (Code.region id l.toArray true).wp P Q a w :=
  wp_region_x S lds loud is hm hB (hS _ H.drew) (h _ H.drew)
/-- The same, with whatever is known of the world. -/
theorem wp_region_g {id : Nat} {a : Act} {w : World} {l : List Oper} (G : World → Prop) (hG : ∀ n, G (w.drewN n)) (S : World → Prop) (lds loud is : List Nat) (hm : P.follows .mixedOrders = true) (hB : okB l.toArray loud is = true)
    (hS : ∀ W, G W → S W) (h : ∀ W, G W → wpX P l.toArray S lds .any (noP Q) (pickOps l loud is) a W) : (Code.region id l.toArray true).wp P Q a w :=
  wp_region_x S lds loud is hm hB (hS _ (hG 1)) (h _ (hG 1))

/-! The steps. -/
theorem wpX_nil {a : Act} {w : World} (h : Q .normal a w) : wpX P ops S lds md (noP Q) [] a w := h
/-- An operation that yields its value in whatever world. -/
theorem wpX_y {i : Nat} {o : Oper} {rest : List (Nat × Bool × Oper)} {a : Act} {w : World} {v : Value} (h : ∀ w', (execOp a.eval o).run P w' = .ok (.value v) w') (hw : Region.wanted o (yielded ops a.tmps) = true) (hr : wpX P ops S lds md Q rest (a.put o.dst v) w) : wpX P ops S lds md Q ((i, false, o) :: rest) a w :=
  ⟨v, fun w' _ => .inl ⟨hw, .inl (h w')⟩, hr⟩
/-- A load: it yields its value where S stands. -/
theorem wpX_l {i : Nat} {o : Oper} {rest : List (Nat × Bool × Oper)} {a : Act} {w : World} {v : Value} (hc : lds.contains i = true) (h : ∀ w', S w' → (execOp a.eval o).run P w' = .ok (.value v) w') (hw : Region.wanted o (yielded ops a.tmps) = true) (hr : wpX P ops S lds md Q rest (a.put o.dst v) w) : wpX P ops S lds md Q ((i, false, o) :: rest) a w :=
  ⟨v, fun w' hs => .inl ⟨hw, .inl (h w' (hs hc))⟩, hr⟩
/-- A call that leaves the world as it was. -/
theorem wpX_c {i : Nat} {o : Oper} {rest : List (Nat × Bool × Oper)} {a : Act} {w : World} {f : FuncId} {args : Array Value} {v : Value} (hc : lds.contains i = true) (h0 : ∀ w', (execOp a.eval o).run P w' = .ok (.enter f args) w')
    (h : ∀ w', S w' → Calls P f args w' fun e w'' => e = .returned v ∧ w'' = w') (hw : Region.wanted o (yielded ops a.tmps) = true) (hr : wpX P ops S lds md Q rest (a.put o.dst v) w) : wpX P ops S lds md Q ((i, false, o) :: rest) a w :=
  ⟨v, fun w' hs => .inl ⟨hw, .inr (.inr ⟨f, args, h0 w', h w' (hs hc)⟩)⟩, hr⟩
/-- One that is guarded off. -/
theorem wpX_off {i : Nat} {o : Oper} {rest : List (Nat × Bool × Oper)} {a : Act} {w : World} (hw : Region.wanted o (yielded ops a.tmps) = false) (hr : wpX P ops S lds md Q rest (a.put o.dst undef) w) : wpX P ops S lds md Q ((i, false, o) :: rest) a w :=
  ⟨undef, fun _ _ => .inr ⟨hw, rfl⟩, hr⟩
/-- One that acts: behind it S is shown anew where a load may still come behind it. -/
theorem wpX_go {i : Nat} {o : Oper} {rest : List (Nat × Bool × Oper)} {a : Act} {w : World} (hw : Region.wanted o (yielded ops a.tmps) = true)
    (h : ∀ K : Act → World → Prop, (∀ a' w', S w' → wpX P ops S lds md Q rest a' w' → K a' w') → o.wp P a w K Q) : wpX P ops S lds md Q ((i, true, o) :: rest) a w := by
  simp only [wpX]
  rw [if_pos hw]
  exact .inl (h _ fun a' w' hs hx => ⟨fun _ => hs, hx⟩)
/-- One that acts, all loads being done. -/
theorem wpX_last {i : Nat} {o : Oper} {rest : List (Nat × Bool × Oper)} {a : Act} {w : World} (hw : Region.wanted o (yielded ops a.tmps) = true) (hl : (lds.any fun x => o.after.all fun e => !Region.binds md e || e.on != x) = false)
    (h : ∀ K : Act → World → Prop, (∀ a' w', wpX P ops S lds md Q rest a' w' → K a' w') → o.wp P a w K Q) : wpX P ops S lds md Q ((i, true, o) :: rest) a w := by
  simp only [wpX]
  rw [if_pos hw]
  exact .inl (h _ fun a' w' hx => ⟨fun h0 => (by rw [hl] at h0; cases h0), hx⟩)
end
end Go.Proofs.Ytbkjkiaicaopoaa.Reg
