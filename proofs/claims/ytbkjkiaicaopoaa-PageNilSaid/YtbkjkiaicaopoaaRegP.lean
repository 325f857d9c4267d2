/-
  A statement that leaves its order open, walked in one order, as in Reg; but each load has a condition of its own, which need hold only from where it is taken on.
-/
import Derived.Test.YtbkjkiaicaopoaaReg
namespace Go.Proofs.Ytbkjkiaicaopoaa.RegP
open Go
open Go.Proofs.Ytbkjkiaicaopoaa.Reg (wpOp_put_of noP chk pickOps okB)
section
variable {P : Program} {ops : Array Oper} {Q : Exit → Act → World → Prop} {md : Region.Mode} {loud : List Nat}

/-- A load that may still come behind this operation. -/
def Loose (md : Region.Mode) (o : Oper) (x : Nat) : Bool := o.after.all fun e => !Region.binds md e || e.on != x
/-- Loads that were taken, each with what its value rests on. -/
abbrev Dn := List (Nat × (World → Prop))
def after (dn : Dn) (md : Region.Mode) (o : Oper) (w : World) : Prop := ∀ x ∈ dn, Loose md o x.1 = true → x.2 w
def afterAt (dn : Dn) (md : Region.Mode) (ops : Array Oper) (i : Nat) (w : World) : Prop := ∀ o, ops[i]? = some o → after dn md o w
def Yld (P : Program) (ops : Array Oper) (A : World → Prop) (o : Oper) (v : Value) (a : Act) : Prop := ∀ w', A w' → YieldsAt P ops w' o v a

def wpH (P : Program) (md : Region.Mode) (ops : Array Oper) (loud : List Nat) (Q : Exit → Act → World → Prop) : Nat → Dn → Array Bool → Act → World → Prop
  | 0, _, listed, a, w => Region.ready md ops listed = [] ∧ Q .normal a w
  | f + 1, dn, listed, a, w => (Region.ready md ops listed = [] → Q .normal a w) ∧ ∀ i ∈ Region.ready md ops listed,
      (loud.contains i = true → wpOp P ops Q i (fun a' w' => afterAt dn md ops i w' ∧ wpH P md ops loud Q f dn (listed.setIfInBounds i true) a' w') a w) ∧
      (loud.contains i = false → ∃ o v A, ops[i]? = some o ∧ YieldsAt P ops w o v a ∧ wpH P md ops loud Q f ((i, A) :: dn) (listed.setIfInBounds i true) (a.put o.dst v) w)
theorem wpH_sub : ∀ (f : Nat) (dn dn' : Dn) (listed : Array Bool) (a : Act) (w : World), (∀ x ∈ dn, x ∈ dn') → wpH P md ops loud Q f dn' listed a w → wpH P md ops loud Q f dn listed a w
  | 0, _, _, _, _, _, _, h => h
  | f + 1, dn, dn', listed, a, w, hs, h => ⟨h.1, fun i hi => ⟨fun e => wpOp_mono (fun a' w' h' => ⟨fun o ho x hx hl => h'.1 o ho x (hs x hx) hl, wpH_sub f dn dn' _ a' w' hs h'.2⟩) ((h.2 i hi).1 e), fun e => by
    obtain ⟨o, v, A, ho, hy, hn⟩ := (h.2 i hi).2 e
    refine ⟨o, v, A, ho, hy, wpH_sub f _ _ _ _ _ ?_ hn⟩
    intro x hx
    rcases List.mem_cons.1 hx with rfl | hx
    · simp
    · exact List.mem_cons_of_mem _ (hs x hx)⟩⟩

theorem wpAny_of_wpH : ∀ (f : Nat) (dn : Dn) (listed : Array Bool) (a : Act) (w : World), wpH P md ops loud Q f dn listed a w → wpAny P md ops Q f listed a w
  | 0, _, _, _, _, h => h
  | f + 1, dn, listed, a, w, h => ⟨h.1, fun i hi => by
    have h2 := h.2 i hi
    cases e : loud.contains i with
    | true => exact wpOp_mono (fun a' w' h' => wpAny_of_wpH f _ _ a' w' h'.2) (h2.1 e)
    | false =>
      obtain ⟨o, v, A, ho, hy, hn⟩ := h2.2 e
      exact wpOp_of_stOp (K := fun a' => wpAny P md ops Q f (listed.setIfInBounds i true) a' w) (fun _ h => h) (hy.stOp ho (wpAny_of_wpH f _ _ _ _ hn))⟩
theorem wpH_take {i : Nat} {oi : Oper} {v : Value} {A : World → Prop} (hi : ops[i]? = some oi) (hs : Region.noSelect ops = true) (hl : loud.contains i = false) (hQ : ∀ c a w, Q (.panic c) (a.put oi.dst v) w → Q (.panic c) a w) :
    ∀ (f : Nat) (dn : Dn) (listed : Array Bool) (a : Act) (w : World),
      (∀ j oj, ops[j]? = some oj → j ≠ i → listed.getD j true = false → (∀ e ∈ oj.after, Region.binds md e = true → e.on ≠ i) → oi.apart ops oj = true) →
      i ∈ Region.ready md ops listed → Yld P ops A oi v a → A w →
      wpH P md ops loud Q f ((i, A) :: dn) (listed.setIfInBounds i true) (a.put oi.dst v) w → wpH P md ops loud Q (f + 1) dn listed a w := by
  have hsel := Region.noSelect_spec hs
  intro f
  induction f with
  | zero =>
    intro dn listed a w _ hr hy hS H
    refine ⟨fun h => (by rw [h] at hr; cases hr), fun j hj => ?_⟩
    by_cases hji : j = i
    · subst hji
      exact ⟨fun h => (by rw [hl] at h; cases h), fun _ => ⟨oi, v, A, hi, hy w hS, H⟩⟩
    · have := ready_mono hj hji
      rw [H.1] at this
      cases this
  | succ f ih =>
    intro dn listed a w hfree hr hy hS H
    refine ⟨fun h => (by rw [h] at hr; cases hr), fun j hj => ?_⟩
    by_cases hji : j = i
    · subst hji
      exact ⟨fun h => (by rw [hl] at h; cases h), fun _ => ⟨oi, v, A, hi, hy w hS, H⟩⟩
    · have h1 := H.2 j (ready_mono hj hji)
      obtain ⟨hjun, oj, hoj, hall⟩ := mem_ready.1 hj
      have hiun := (mem_ready.1 hr).1
      have hnot : ∀ e ∈ oj.after, Region.binds md e = true → e.on ≠ i := fun e he hb heq => by
        have h1 := hall e he hb
        rw [heq] at h1
        rcases Nat.lt_or_ge i listed.size with h' | h'
        · simp [h'] at hiun h1; rw [hiun] at h1; cases h1
        · simp [Array.getElem?_eq_none h'] at h1
      have hap := hfree j oj hoj hji hjun hnot
      obtain ⟨p1, p2, p3⟩ := Oper.apart_spec hap
      have keep : ∀ (a : Act) u, Yld P ops A oi v a → Yld P ops A oi v (a.put oj.dst u) := fun a u hy w' hw => (hy w' hw).of_same (execOp_put oi (fun cs b => hsel i oi cs b hi) a oj.dst u p3) (wanted_put oi a oj.dst u p3)
      have keepD : ∀ (a : Act) d, Yld P ops A oi v a → Yld P ops A oi v { a with defers := d :: a.defers } := fun a d hy w' hw => (hy w' hw).of_same rfl rfl
      have hfree' : ∀ k ok, ops[k]? = some ok → k ≠ i → (listed.setIfInBounds j true).getD k true = false → (∀ e ∈ ok.after, Region.binds md e = true → e.on ≠ i) → oi.apart ops ok = true := fun k ok hk hki hun hno => by
        refine hfree k ok hk hki ?_ hno
        by_cases hjk : j = k
        · subst hjk; exact hjun
        · rw [getD_set_ne true hjk] at hun; exact hun
      have hcomm := Array.setIfInBounds_comm (xs := listed) true true (Ne.symm hji)
      refine ⟨fun hlj => ?_, fun hlj => ?_⟩
      · have h2 := wpOp_put_of hoj hap (fun cs b => hsel j oj cs b hoj) hQ keep keepD hy (h1.1 hlj)
        refine wpOp_mono (fun a' w' h3 => ⟨fun o ho x hx hf => h3.2.1 o ho x (List.mem_cons_of_mem _ hx) hf, ih dn (listed.setIfInBounds j true) a' w' hfree' (ready_mono hr (Ne.symm hji)) h3.1 ?_ ?_⟩) h2
        · refine h3.2.1 oj hoj (i, A) (by simp) ?_
          unfold Loose
          rw [Array.all_eq_true_iff_forall_mem]
          intro e he
          cases hb : Region.binds md e with
          | false => rfl
          | true => simpa using hnot e he hb
        · rw [← hcomm]; exact h3.2.2
      · obtain ⟨o, u, B, ho, hyj, hn⟩ := h1.2 hlj
        obtain rfl : o = oj := Option.some.inj (ho.symm.trans hoj)
        refine ⟨o, u, B, ho, hyj.of_same (execOp_put o (fun cs b => hsel j o cs b hoj) a oi.dst v p1).symm (wanted_put o a oi.dst v p1).symm, ih _ _ _ _ hfree' (ready_mono hr (Ne.symm hji)) (keep a u hy) hS ?_⟩
        rw [← hcomm, ← Act.put_comm a v u p2]
        refine wpH_sub _ _ _ _ _ _ ?_ hn
        intro x hx
        rcases List.mem_cons.1 hx with rfl | hx
        · simp
        · rcases List.mem_cons.1 hx with rfl | hx
          · simp
          · exact List.mem_cons_of_mem _ (List.mem_cons_of_mem _ hx)

/-- The operations in one order, each with its number and whether it acts. -/
def wpX (P : Program) (ops : Array Oper) (md : Region.Mode) (Q : Exit → Act → World → Prop) : Dn → List (Nat × Bool × Oper) → Act → World → Prop
  | _, [], a, w => Q .normal a w
  | dn, (i, false, o) :: rest, a, w => ∃ v A, Yld P ops A o v a ∧ A w ∧ wpX P ops md Q ((i, A) :: dn) rest (a.put o.dst v) w
  | dn, (_, true, o) :: rest, a, w => if Region.wanted o (yielded ops a.tmps) then o.wp P a w (fun a' w' => after dn md o w' ∧ wpX P ops md Q dn rest a' w') Q ∨ (o.asks P a w ∧ LetsOut Q) else after dn md o w ∧ wpX P ops md Q dn rest (a.put o.dst undef) w
theorem wpX_sub : ∀ (ls : List (Nat × Bool × Oper)) (dn dn' : Dn) (a : Act) (w : World), (∀ x ∈ dn', x ∈ dn ∨ ∀ w', x.2 w') → wpX P ops md Q dn ls a w → wpX P ops md Q dn' ls a w
  | [], _, _, _, _, _, h => h
  | (i, false, o) :: rest, dn, dn', a, w, hs, h => by
    obtain ⟨v, A, hy, hA, hr⟩ := h
    refine ⟨v, A, hy, hA, wpX_sub rest _ _ _ _ ?_ hr⟩
    intro x hx
    rcases List.mem_cons.1 hx with rfl | hx
    · exact .inl (by simp)
    · exact (hs x hx).imp (List.mem_cons_of_mem _) id
  | (i, true, o) :: rest, dn, dn', a, w, hs, h => by
    have aft : ∀ w', after dn md o w' → after dn' md o w' := fun w' h x hx hl => by
      rcases hs x hx with h1 | h1
      · exact h x h1 hl
      · exact h1 w'
    simp only [wpX] at h ⊢
    by_cases hw : Region.wanted o (yielded ops a.tmps) = true
    · rw [if_pos hw] at h ⊢
      exact h.imp (Oper.wp_mono fun a' w' h' => ⟨aft w' h'.1, wpX_sub rest _ _ _ _ hs h'.2⟩) id
    · rw [if_neg hw] at h ⊢
      exact ⟨aft w h.1, wpX_sub rest _ _ _ _ hs h.2⟩

theorem wpH_of_wpX {l : List Oper} (hl : l.toArray = ops) (hs : Region.noSelect ops = true) (hQ : ∀ c a d v w, Q (.panic c) (Act.put a d v) w → Q (.panic c) a w) : ∀ (is : List Nat) (dn : Dn) (listed : Array Bool) (a : Act) (w : World),
    chk md ops loud is listed = true → wpX P ops md Q dn (pickOps l loud is) a w → wpH P md ops loud Q is.length dn listed a w
  | [], dn, listed, a, w, hc, h => ⟨by simpa [chk] using hc, h⟩
  | i :: is, dn, listed, a, w, hc, h => by
    simp only [chk, Bool.and_eq_true] at hc
    obtain ⟨hc1, hc2⟩ := hc
    have hop : ∀ o, ops[i]? = some o → l.getD i default = o := fun o ho => by
      subst hl
      rw [List.getElem?_toArray] at ho
      rw [List.getD_eq_getElem?_getD, ho]; rfl
    cases e : loud.contains i with
    | true =>
      rw [if_pos e] at hc1
      have hr : Region.ready md ops listed = [i] := by simpa using hc1
      obtain ⟨_, o, ho, hall⟩ := mem_ready.1 (show i ∈ Region.ready md ops listed by rw [hr]; simp)
      have ho' := hop o ho
      simp only [pickOps, List.map_cons, e, wpX, ho'] at h
      refine ⟨fun h0 => (by rw [hr] at h0; cases h0), fun j hj => ?_⟩
      rw [hr] at hj
      obtain rfl : j = i := by simpa using hj
      refine ⟨fun _ => ?_, fun h0 => (by rw [e] at h0; cases h0)⟩
      have go : ∀ a' w', after dn md o w' ∧ wpX P ops md Q dn (pickOps l loud is) a' w' → afterAt dn md ops j w' ∧ wpH P md ops loud Q is.length dn (listed.setIfInBounds j true) a' w' := fun a' w' hh =>
        ⟨fun o2 ho2 => by obtain rfl : o2 = o := Option.some.inj (ho2.symm.trans ho); exact hh.1, wpH_of_wpX hl hs hQ is dn _ a' w' hc2 hh.2⟩
      unfold wpOp
      simp only [ho]
      split
      · rename_i hw
        rw [if_pos hw] at h
        exact h.imp (Oper.wp_mono go) id
      · rename_i hw
        rw [if_neg hw] at h
        exact go _ _ h
    | false =>
      rw [if_neg (by rw [e]; exact Bool.false_ne_true)] at hc1
      simp only [Bool.and_eq_true] at hc1
      obtain ⟨hr, hf⟩ := hc1
      have hr' : i ∈ Region.ready md ops listed := by simpa using hr
      obtain ⟨hun, o, ho, _⟩ := mem_ready.1 hr'
      have ho' := hop o ho
      simp only [pickOps, List.map_cons, e, wpX, ho'] at h
      obtain ⟨v, A, hy, hA, h⟩ := h
      exact wpH_take ho hs e (fun c a w => hQ c a _ _ w) _ _ _ _ _ (Region.free_spec ho hf) hr' hy hA (wpH_of_wpX hl hs hQ is _ _ _ _ hc2 h)

/-- The law, where resources are known: the operations in the order 'is'. -/
theorem wp_region_p {id : Nat} {a : Act} {w : World} {l : List Oper} {E : World} {L : List HP} (H : sat E w L) (loud is : List Nat) (hm : P.follows .mixedOrders = true) (hB : okB l.toArray loud is = true)
    (h : ∀ W, sat E W L → wpX P l.toArray .any (noP Q) [] (pickOps l loud is) a W) : (Code.region id l.toArray true).wp P Q a w := by
  simp only [okB, Bool.and_eq_true, beq_iff_eq] at hB
  obtain ⟨⟨h1, h2⟩, h3⟩ := hB
  refine wp_mono (Q := noP Q) ?_ (fun e a w hq => by cases e <;> first | exact hq | exact (hq : False).elim)
  refine wp_region_any hm (wpAny_of_wpH (loud := loud) _ [] _ _ _ ?_)
  rw [← h2]
  exact wpH_of_wpX (md := .any) rfl h1 (fun _ _ _ _ _ h => h) is [] _ a w.drew (by rw [h2]; exact h3) (h _ H.drew)

/-! The steps. -/
def AllD : List (World → Prop) → World → Prop
  | [], _ => True
  | A :: l, w => A w ∧ AllD l w
theorem AllD_spec : ∀ {l : List (World → Prop)} {w : World}, AllD l w → ∀ A ∈ l, A w
  | [], _, _, x, hx => by cases hx
  | y :: l, w, h, x, hx => by
    rcases List.mem_cons.1 hx with rfl | hx
    · exact h.1
    · exact AllD_spec h.2 x hx
variable {dn : Dn}
theorem wpX_nil {a : Act} {w : World} (h : Q .normal a w) : wpX P ops md (noP Q) dn [] a w := h
theorem wpX_y {i : Nat} {o : Oper} {rest : List (Nat × Bool × Oper)} {a : Act} {w : World} {v : Value} (h : ∀ w', (execOp a.eval o).run P w' = .ok (.value v) w') (hw : Region.wanted o (yielded ops a.tmps) = true) (hr : wpX P ops md Q dn rest (a.put o.dst v) w) : wpX P ops md Q dn ((i, false, o) :: rest) a w :=
  ⟨v, fun _ => True, fun w' _ => .inl ⟨hw, .inl (h w')⟩, trivial, wpX_sub _ _ _ _ _ (fun x hx => by
    rcases List.mem_cons.1 hx with rfl | hx
    · exact .inr fun _ => trivial
    · exact .inl hx) hr⟩
theorem wpX_l {i : Nat} {o : Oper} {rest : List (Nat × Bool × Oper)} {a : Act} {w : World} {v : Value} (A : World → Prop) (h0 : A w) (h : ∀ w', A w' → (execOp a.eval o).run P w' = .ok (.value v) w') (hw : Region.wanted o (yielded ops a.tmps) = true) (hr : wpX P ops md Q ((i, A) :: dn) rest (a.put o.dst v) w) : wpX P ops md Q dn ((i, false, o) :: rest) a w :=
  ⟨v, A, fun w' hs => .inl ⟨hw, .inl (h w' hs)⟩, h0, hr⟩
theorem wpX_c {i : Nat} {o : Oper} {rest : List (Nat × Bool × Oper)} {a : Act} {w : World} {f : FuncId} {args : Array Value} {v : Value} (A : World → Prop) (h0 : A w) (hr0 : ∀ w', (execOp a.eval o).run P w' = .ok (.enter f args) w')
    (h : ∀ w', A w' → Calls P f args w' fun e w'' => e = .returned v ∧ w'' = w') (hw : Region.wanted o (yielded ops a.tmps) = true) (hr : wpX P ops md Q ((i, A) :: dn) rest (a.put o.dst v) w) : wpX P ops md Q dn ((i, false, o) :: rest) a w :=
  ⟨v, A, fun w' hs => .inl ⟨hw, .inr (.inr ⟨f, args, hr0 w', h w' hs⟩)⟩, h0, hr⟩
theorem wpX_off {i : Nat} {o : Oper} {rest : List (Nat × Bool × Oper)} {a : Act} {w : World} (hw : Region.wanted o (yielded ops a.tmps) = false) (hr : wpX P ops md Q dn rest (a.put o.dst undef) w) : wpX P ops md Q dn ((i, false, o) :: rest) a w :=
  ⟨undef, fun _ => True, fun _ _ => .inr ⟨hw, rfl⟩, trivial, wpX_sub _ _ _ _ _ (fun x hx => by
    rcases List.mem_cons.1 hx with rfl | hx
    · exact .inr fun _ => trivial
    · exact .inl hx) hr⟩
theorem wpX_go {i : Nat} {o : Oper} {rest : List (Nat × Bool × Oper)} {a : Act} {w : World} (need : List (World → Prop)) (hn : (dn.filter (fun x => Loose md o x.1)).map Prod.snd = need) (hw : Region.wanted o (yielded ops a.tmps) = true)
    (h : ∀ K : Act → World → Prop, (∀ a' w', AllD need w' → wpX P ops md Q dn rest a' w' → K a' w') → o.wp P a w K Q) : wpX P ops md Q dn ((i, true, o) :: rest) a w := by
  subst hn
  simp only [wpX]
  rw [if_pos hw]
  exact .inl (h _ fun a' w' hs hx => ⟨fun x hx hl => AllD_spec hs x.2 (List.mem_map.2 ⟨x, List.mem_filter.2 ⟨hx, hl⟩, rfl⟩), hx⟩)
theorem wpX_offgo {i : Nat} {o : Oper} {rest : List (Nat × Bool × Oper)} {a : Act} {w : World} (need : List (World → Prop)) (hn : (dn.filter (fun x => Loose md o x.1)).map Prod.snd = need) (hs : AllD need w) (hw : Region.wanted o (yielded ops a.tmps) = false)
    (hr : wpX P ops md Q dn rest (a.put o.dst undef) w) : wpX P ops md Q dn ((i, true, o) :: rest) a w := by
  subst hn
  simp only [wpX]
  rw [if_neg (by rw [hw]; exact Bool.false_ne_true)]
  exact ⟨fun x hx hl => AllD_spec hs x.2 (List.mem_map.2 ⟨x, List.mem_filter.2 ⟨hx, hl⟩, rfl⟩), hr⟩
end
end Go.Proofs.Ytbkjkiaicaopoaa.RegP
