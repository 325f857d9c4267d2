/-
  RegP inside a fence that lets every function be entered: for the body of a range over a function.
-/
import Derived.Test.YtbkjkiaicaopoaaRegP
import Derived.OrdersIn
import Derived.OwnWalkIn
namespace Go.Proofs.Ytbkjkiaicaopoaa.RegPIn
open Go
open Go.Proofs.Ytbkjkiaicaopoaa.Reg (noP chk pickOps okB)
open Go.Proofs.Ytbkjkiaicaopoaa.RegP (Loose Dn after afterAt AllD AllD_spec)
section
variable {F : Fence} {n : Nat} {P : Program} {ops : Array Oper} {Q : Exit → Act → World → Prop} {md : Region.Mode} {loud : List Nat}

def plainOp (o : Oper) : Bool := match o.op with
  | .defer _ => false
  | _ => true
theorem plain_of {o : Oper} (h : plainOp o = true) (c : Call) : o.op ≠ .defer c := by
  intro e
  unfold plainOp at h
  rw [e] at h
  cases h
/-- It yields v. -/
def YA (P : Program) (ops : Array Oper) (w : World) (o : Oper) (v : Value) (a : Act) : Prop :=
  (Region.wanted o (yielded ops a.tmps) = true ∧ (execOp a.eval o).run P w = .ok (.value v) w) ∨ (Region.wanted o (yielded ops a.tmps) = false ∧ v = undef)
theorem YA.of_same {w : World} {o : Oper} {v : Value} {a a' : Act} (hy : YA P ops w o v a) (he : execOp a'.eval o = execOp a.eval o) (hw : Region.wanted o (yielded ops a'.tmps) = Region.wanted o (yielded ops a.tmps)) : YA P ops w o v a' := by
  unfold YA at *
  rw [he, hw]; exact hy
theorem YA.op (hF : ∀ f, F.fn f) {w : World} {i : Nat} {o : Oper} {v : Value} {a : Act} (hi : ops[i]? = some o) (hp : plainOp o = true) (hy : YA P ops w o v a) {K : Act → World → Prop} (h : K (a.put o.dst v) w) : wpOpIn F n P ops Q i K a w := by
  unfold wpOpIn
  simp only [hi]
  rcases hy with ⟨hw, hr⟩ | ⟨hw, rfl⟩
  · rw [if_pos hw]
    unfold Oper.wpIn
    refine ⟨fun f _ => hF f, ?_⟩
    rw [Oper.semAt_plain F _ _ (plain_of hp), hr]
    exact h
  · rw [if_neg (by rw [hw]; exact Bool.false_ne_true)]
    exact ⟨fun f _ => hF f, h⟩
theorem put_of (hF : ∀ f, F.fn f) {j : Nat} {oi oj : Oper} {v : Value} (hj : ops[j]? = some oj) (hap : oi.apart ops oj = true) (hsj : ∀ cs b, oj.op ≠ .select cs b) (hp : plainOp oj = true)
    (hQ : ∀ c a w, Q (.panic c) (a.put oi.dst v) w → Q (.panic c) a w) {Y : Act → Prop} (hY : ∀ a u, Y a → Y (a.put oj.dst u)) (hD : ∀ (a : Act) d, Y a → Y { a with defers := d :: a.defers })
    {K : Act → World → Prop} {a : Act} {w : World} (hy : Y a) (h : wpOpIn F n P ops Q j K (a.put oi.dst v) w) : wpOpIn F n P ops Q j (fun a' w' => Y a' ∧ K (a'.put oi.dst v) w') a w := by
  obtain ⟨h1, h2, _⟩ := Oper.apart_spec hap
  unfold wpOpIn at *
  simp only [hj] at *
  rw [wanted_put oj a oi.dst v h1] at h
  split
  · rename_i hw
    simp only [hw, if_true] at h
    unfold Oper.wpIn at *
    refine ⟨fun f _ => hF f, ?_⟩
    have h := h.2
    rw [Oper.semAt_plain F _ _ (plain_of hp)] at h ⊢
    rw [execOp_put oj hsj a oi.dst v h1] at h
    generalize (execOp a.eval oj).run P w = r at *
    cases r with
    | ok x w' =>
      cases x <;> simp only [Oper.uponIn] at h ⊢
      case value u => exact ⟨hY a u hy, by rw [← Act.put_comm a v u h2]; exact h⟩
      case skip => exact ⟨hY a _ hy, by rw [← Act.put_comm a v undef h2]; exact h⟩
      case defer d =>
        refine ⟨hY _ _ (hD a d hy), ?_⟩
        rw [← Act.put_comm _ v undef h2, ← Act.put_defers]
        exact h
      case enter f args =>
        refine ⟨h.1, CallsIn.mono h.2 fun e w'' he => ?_⟩
        cases e with
        | returned u => exact ⟨hY a u hy, by rw [← Act.put_comm a v u h2]; exact he⟩
        | panicked c => exact hQ _ _ _ he
        | outgrown => exact he
      case row row args => exact ⟨h.1, RowsIn.mono h.2 fun u w'' he => ⟨hY a u hy, by rw [← Act.put_comm a v u h2]; exact he⟩⟩
      case round =>
        refine ⟨h.1, RoundIn.mono h.2 fun e w'' he => ?_⟩
        cases e with
        | returned u => exact ⟨hY a u hy, by rw [← Act.put_comm a v u h2]; exact he⟩
        | panicked c => exact hQ _ _ _ he
        | outgrown => exact he
    | halt x w' =>
      cases x <;> simp only [Oper.uponIn] at h ⊢
      case panic u => exact hQ _ _ _ h
  · rename_i hw
    simp only [hw] at h
    exact ⟨fun f _ => hF f, hY a _ hy, by rw [← Act.put_comm a v undef h2]; exact h.2⟩

def Yld (P : Program) (ops : Array Oper) (A : World → Prop) (o : Oper) (v : Value) (a : Act) : Prop := ∀ w', A w' → YA P ops w' o v a

def wpH (F : Fence) (n : Nat) (P : Program) (md : Region.Mode) (ops : Array Oper) (loud : List Nat) (Q : Exit → Act → World → Prop) : Nat → Dn → Array Bool → Act → World → Prop
  | 0, _, listed, a, w => Region.ready md ops listed = [] ∧ Q .normal a w
  | f + 1, dn, listed, a, w => (Region.ready md ops listed = [] → Q .normal a w) ∧ ∀ i ∈ Region.ready md ops listed,
      (loud.contains i = true → wpOpIn F n P ops Q i (fun a' w' => afterAt dn md ops i w' ∧ wpH F n P md ops loud Q f dn (listed.setIfInBounds i true) a' w') a w) ∧
      (loud.contains i = false → ∃ o v A, ops[i]? = some o ∧ YA P ops w o v a ∧ wpH F n P md ops loud Q f ((i, A) :: dn) (listed.setIfInBounds i true) (a.put o.dst v) w)
theorem wpH_sub : ∀ (f : Nat) (dn dn' : Dn) (listed : Array Bool) (a : Act) (w : World), (∀ x ∈ dn, x ∈ dn') → wpH F n P md ops loud Q f dn' listed a w → wpH F n P md ops loud Q f dn listed a w
  | 0, _, _, _, _, _, _, h => h
  | f + 1, dn, dn', listed, a, w, hs, h => ⟨h.1, fun i hi => ⟨fun e => wpOpIn_mono (fun a' w' h' => ⟨fun o ho x hx hl => h'.1 o ho x (hs x hx) hl, wpH_sub f dn dn' _ a' w' hs h'.2⟩) ((h.2 i hi).1 e), fun e => by
    obtain ⟨o, v, A, ho, hy, hn⟩ := (h.2 i hi).2 e
    refine ⟨o, v, A, ho, hy, wpH_sub f _ _ _ _ _ ?_ hn⟩
    intro x hx
    rcases List.mem_cons.1 hx with rfl | hx
    · simp
    · exact List.mem_cons_of_mem _ (hs x hx)⟩⟩
theorem wpAny_of_wpH (hF : ∀ f, F.fn f) (hP : ∀ (i : Nat) (o : Oper), ops[i]? = some o → plainOp o = true) : ∀ (f : Nat) (dn : Dn) (listed : Array Bool) (a : Act) (w : World), wpH F n P md ops loud Q f dn listed a w → wpAnyIn F n P md ops Q f listed a w
  | 0, _, _, _, _, h => h
  | f + 1, dn, listed, a, w, h => ⟨h.1, fun i hi => by
    have h2 := h.2 i hi
    cases e : loud.contains i with
    | true => exact wpOpIn_mono (fun a' w' h' => wpAny_of_wpH hF hP f _ _ a' w' h'.2) (h2.1 e)
    | false =>
      obtain ⟨o, v, A, ho, hy, hn⟩ := h2.2 e
      exact hy.op hF ho (hP _ _ ho) (wpAny_of_wpH hF hP f _ _ _ _ hn)⟩
theorem wpH_take (hF : ∀ f, F.fn f) (hP : ∀ (i : Nat) (o : Oper), ops[i]? = some o → plainOp o = true) {i : Nat} {oi : Oper} {v : Value} {A : World → Prop} (hi : ops[i]? = some oi) (hs : Region.noSelect ops = true) (hl : loud.contains i = false) (hQ : ∀ c a w, Q (.panic c) (a.put oi.dst v) w → Q (.panic c) a w) :
    ∀ (f : Nat) (dn : Dn) (listed : Array Bool) (a : Act) (w : World),
      (∀ j oj, ops[j]? = some oj → j ≠ i → listed.getD j true = false → (∀ e ∈ oj.after, Region.binds md e = true → e.on ≠ i) → oi.apart ops oj = true) →
      i ∈ Region.ready md ops listed → Yld P ops A oi v a → A w →
      wpH F n P md ops loud Q f ((i, A) :: dn) (listed.setIfInBounds i true) (a.put oi.dst v) w → wpH F n P md ops loud Q (f + 1) dn listed a w := by
  have hsel := Region.noSelect_spec hs
  intro f
  induction f with
  | zero =>
    intro dn listed a w _ hr hy hS H
    refine ⟨fun h => (by rw [h] at hr; cases hr), fun j hj => ?_⟩
    by_cases hji : j = i
    · subst hji
      exact ⟨fun h => (by rw [hl] at h; cases h), fun _ => ⟨oi, v, A, hi, hy w hS, H⟩⟩
    · have := ready_mono hj hji
      rw [H.1] at this
      cases this
  | succ f ih =>
    intro dn listed a w hfree hr hy hS H
    refine ⟨fun h => (by rw [h] at hr; cases hr), fun j hj => ?_⟩
    by_cases hji : j = i
    · subst hji
      exact ⟨fun h => (by rw [hl] at h; cases h), fun _ => ⟨oi, v, A, hi, hy w hS, H⟩⟩
    · have h1 := H.2 j (ready_mono hj hji)
      obtain ⟨hjun, oj, hoj, hall⟩ := mem_ready.1 hj
      have hiun := (mem_ready.1 hr).1
      have hnot : ∀ e ∈ oj.after, Region.binds md e = true → e.on ≠ i := fun e he hb heq => by
        have h1 := hall e he hb
        rw [heq] at h1
        rcases Nat.lt_or_ge i listed.size with h' | h'
        · simp [h'] at hiun h1; rw [hiun] at h1; cases h1
        · simp [Array.getElem?_eq_none h'] at h1
      have hap := hfree j oj hoj hji hjun hnot
      obtain ⟨p1, p2, p3⟩ := Oper.apart_spec hap
      have keep : ∀ (a : Act) u, Yld P ops A oi v a → Yld P ops A oi v (a.put oj.dst u) := fun a u hy w' hw => (hy w' hw).of_same (execOp_put oi (fun cs b => hsel i oi cs b hi) a oj.dst u p3) (wanted_put oi a oj.dst u p3)
      have keepD : ∀ (a : Act) d, Yld P ops A oi v a → Yld P ops A oi v { a with defers := d :: a.defers } := fun a d hy w' hw => (hy w' hw).of_same rfl rfl
      have hfree' : ∀ k ok, ops[k]? = some ok → k ≠ i → (listed.setIfInBounds j true).getD k true = false → (∀ e ∈ ok.after, Region.binds md e = true → e.on ≠ i) → oi.apart ops ok = true := fun k ok hk hki hun hno => by
        refine hfree k ok hk hki ?_ hno
        by_cases hjk : j = k
        · subst hjk; exact hjun
        · rw [getD_set_ne true hjk] at hun; exact hun
      have hcomm := Array.setIfInBounds_comm (xs := listed) true true (Ne.symm hji)
      refine ⟨fun hlj => ?_, fun hlj => ?_⟩
      · have h2 := put_of hF hoj hap (fun cs b => hsel j oj cs b hoj) (hP _ _ hoj) hQ keep keepD hy (h1.1 hlj)
        refine wpOpIn_mono (fun a' w' h3 => ⟨fun o ho x hx hf => h3.2.1 o ho x (List.mem_cons_of_mem _ hx) hf, ih dn (listed.setIfInBounds j true) a' w' hfree' (ready_mono hr (Ne.symm hji)) h3.1 ?_ ?_⟩) h2
        · refine h3.2.1 oj hoj (i, A) (by simp) ?_
          unfold Loose
          rw [Array.all_eq_true_iff_forall_mem]
          intro e he
          cases hb : Region.binds md e with
          | false => rfl
          | true => simpa using hnot e he hb
        · rw [← hcomm]; exact h3.2.2
      · obtain ⟨o, u, B, ho, hyj, hn⟩ := h1.2 hlj
        obtain rfl : o = oj := Option.some.inj (ho.symm.trans hoj)
        refine ⟨o, u, B, ho, hyj.of_same (execOp_put o (fun cs b => hsel j o cs b hoj) a oi.dst v p1).symm (wanted_put o a oi.dst v p1).symm, ih _ _ _ _ hfree' (ready_mono hr (Ne.symm hji)) (keep a u hy) hS ?_⟩
        rw [← hcomm, ← Act.put_comm a v u p2]
        refine wpH_sub _ _ _ _ _ _ ?_ hn
        intro x hx
        rcases List.mem_cons.1 hx with rfl | hx
        · simp
        · rcases List.mem_cons.1 hx with rfl | hx
          · simp
          · exact List.mem_cons_of_mem _ (List.mem_cons_of_mem _ hx)

def wpX (F : Fence) (n : Nat) (P : Program) (ops : Array Oper) (md : Region.Mode) (Q : Exit → Act → World → Prop) : Dn → List (Nat × Bool × Oper) → Act → World → Prop
  | _, [], a, w => Q .normal a w
  | dn, (i, false, o) :: rest, a, w => ∃ v A, Yld P ops A o v a ∧ A w ∧ wpX F n P ops md Q ((i, A) :: dn) rest (a.put o.dst v) w
  | dn, (_, true, o) :: rest, a, w => if Region.wanted o (yielded ops a.tmps) then o.wpIn F n P a w (fun a' w' => after dn md o w' ∧ wpX F n P ops md Q dn rest a' w') Q else after dn md o w ∧ wpX F n P ops md Q dn rest (a.put o.dst undef) w
theorem wpX_sub : ∀ (ls : List (Nat × Bool × Oper)) (dn dn' : Dn) (a : Act) (w : World), (∀ x ∈ dn', x ∈ dn ∨ ∀ w', x.2 w') → wpX F n P ops md Q dn ls a w → wpX F n P ops md Q dn' ls a w
  | [], _, _, _, _, _, h => h
  | (i, false, o) :: rest, dn, dn', a, w, hs, h => by
    obtain ⟨v, A, hy, hA, hr⟩ := h
    refine ⟨v, A, hy, hA, wpX_sub rest _ _ _ _ ?_ hr⟩
    intro x hx
    rcases List.mem_cons.1 hx with rfl | hx
    · exact .inl (by simp)
    · exact (hs x hx).imp (List.mem_cons_of_mem _) id
  | (i, true, o) :: rest, dn, dn', a, w, hs, h => by
    have aft : ∀ w', after dn md o w' → after dn' md o w' := fun w' h x hx hl => by
      rcases hs x hx with h1 | h1
      · exact h x h1 hl
      · exact h1 w'
    simp only [wpX] at h ⊢
    by_cases hw : Region.wanted o (yielded ops a.tmps) = true
    · rw [if_pos hw] at h ⊢
      exact Oper.wpIn_mono (fun a' w' h' => ⟨aft w' h'.1, wpX_sub rest _ _ _ _ hs h'.2⟩) h
    · rw [if_neg hw] at h ⊢
      exact ⟨aft w h.1, wpX_sub rest _ _ _ _ hs h.2⟩
theorem wpH_of_wpX (hF : ∀ f, F.fn f) (hP : ∀ (i : Nat) (o : Oper), ops[i]? = some o → plainOp o = true) {l : List Oper} (hl : l.toArray = ops) (hs : Region.noSelect ops = true) (hQ : ∀ c a d v w, Q (.panic c) (Act.put a d v) w → Q (.panic c) a w) : ∀ (is : List Nat) (dn : Dn) (listed : Array Bool) (a : Act) (w : World),
    chk md ops loud is listed = true → wpX F n P ops md Q dn (pickOps l loud is) a w → wpH F n P md ops loud Q is.length dn listed a w
  | [], dn, listed, a, w, hc, h => ⟨by simpa [chk] using hc, h⟩
  | i :: is, dn, listed, a, w, hc, h => by
    simp only [chk, Bool.and_eq_true] at hc
    obtain ⟨hc1, hc2⟩ := hc
    have hop : ∀ o, ops[i]? = some o → l.getD i default = o := fun o ho => by
      subst hl
      rw [List.getElem?_toArray] at ho
      rw [List.getD_eq_getElem?_getD, ho]; rfl
    cases e : loud.contains i with
    | true =>
      rw [if_pos e] at hc1
      have hr : Region.ready md ops listed = [i] := by simpa using hc1
      obtain ⟨_, o, ho, hall⟩ := mem_ready.1 (show i ∈ Region.ready md ops listed by rw [hr]; simp)
      have ho' := hop o ho
      simp only [pickOps, List.map_cons, e, wpX, ho'] at h
      refine ⟨fun h0 => (by rw [hr] at h0; cases h0), fun j hj => ?_⟩
      rw [hr] at hj
      obtain rfl : j = i := by simpa using hj
      refine ⟨fun _ => ?_, fun h0 => (by rw [e] at h0; cases h0)⟩
      have go : ∀ a' w', after dn md o w' ∧ wpX F n P ops md Q dn (pickOps l loud is) a' w' → afterAt dn md ops j w' ∧ wpH F n P md ops loud Q is.length dn (listed.setIfInBounds j true) a' w' := fun a' w' hh =>
        ⟨fun o2 ho2 => by obtain rfl : o2 = o := Option.some.inj (ho2.symm.trans ho); exact hh.1, wpH_of_wpX hF hP hl hs hQ is dn _ a' w' hc2 hh.2⟩
      unfold wpOpIn
      simp only [ho]
      split
      · rename_i hw
        rw [if_pos hw] at h
        exact Oper.wpIn_mono go h
      · rename_i hw
        rw [if_neg hw] at h
        exact ⟨fun f _ => hF f, go _ _ h⟩
    | false =>
      rw [if_neg (by rw [e]; exact Bool.false_ne_true)] at hc1
      simp only [Bool.and_eq_true] at hc1
      obtain ⟨hr, hf⟩ := hc1
      have hr' : i ∈ Region.ready md ops listed := by simpa using hr
      obtain ⟨hun, o, ho, _⟩ := mem_ready.1 hr'
      have ho' := hop o ho
      simp only [pickOps, List.map_cons, e, wpX, ho'] at h
      obtain ⟨v, A, hy, hA, h⟩ := h
      exact wpH_take hF hP ho hs e (fun c a w => hQ c a _ _ w) _ _ _ _ _ (Region.free_spec ho hf) hr' hy hA (wpH_of_wpX hF hP hl hs hQ is _ _ _ _ hc2 h)
theorem wp_region_p (hF : ∀ f, F.fn f) {id : Nat} {a : Act} {w : World} {l : List Oper} {E : World} {L : List HP} (H : sat E w L) (loud is : List Nat) (hm : P.follows .mixedOrders = true) (hB : (okB l.toArray loud is && l.all plainOp) = true)
    (h : ∀ W, sat E W L → wpX F n P l.toArray .any (noP Q) [] (pickOps l loud is) a W) : (Code.region id l.toArray true).wpIn F n P Q a w := by
  simp only [okB, Bool.and_eq_true, beq_iff_eq] at hB
  obtain ⟨⟨⟨h1, h2⟩, h3⟩, h4⟩ := hB
  have hP : ∀ (i : Nat) (o : Oper), l.toArray[i]? = some o → plainOp o = true := fun i o ho => by
    rw [List.getElem?_toArray] at ho
    exact List.all_eq_true.1 h4 o (List.mem_of_getElem? ho)
  refine wpIn_mono (Q := noP Q) ?_ (fun e a w hq => by cases e <;> first | exact hq | exact (hq : False).elim)
  refine wpIn_region_any hm (wpAny_of_wpH hF hP (loud := loud) _ [] _ _ _ ?_)
  rw [← h2]
  exact wpH_of_wpX hF hP (md := .any) rfl h1 (fun _ _ _ _ _ h => h) is [] _ a w.drew (by rw [h2]; exact h3) (h _ H.drew)

/-! The steps. -/
variable {dn : Dn}
theorem wpX_nil {a : Act} {w : World} (h : Q .normal a w) : wpX F n P ops md (noP Q) dn [] a w := h
theorem wpX_y {i : Nat} {o : Oper} {rest : List (Nat × Bool × Oper)} {a : Act} {w : World} {v : Value} (h : ∀ w', (execOp a.eval o).run P w' = .ok (.value v) w') (hw : Region.wanted o (yielded ops a.tmps) = true) (hr : wpX F n P ops md Q dn rest (a.put o.dst v) w) : wpX F n P ops md Q dn ((i, false, o) :: rest) a w :=
  ⟨v, fun _ => True, fun w' _ => .inl ⟨hw, h w'⟩, trivial, wpX_sub _ _ _ _ _ (fun x hx => by
    rcases List.mem_cons.1 hx with rfl | hx
    · exact .inr fun _ => trivial
    · exact .inl hx) hr⟩
theorem wpX_l {i : Nat} {o : Oper} {rest : List (Nat × Bool × Oper)} {a : Act} {w : World} {v : Value} (A : World → Prop) (h0 : A w) (h : ∀ w', A w' → (execOp a.eval o).run P w' = .ok (.value v) w') (hw : Region.wanted o (yielded ops a.tmps) = true) (hr : wpX F n P ops md Q ((i, A) :: dn) rest (a.put o.dst v) w) : wpX F n P ops md Q dn ((i, false, o) :: rest) a w :=
  ⟨v, A, fun w' hs => .inl ⟨hw, h w' hs⟩, h0, hr⟩
theorem wpX_off {i : Nat} {o : Oper} {rest : List (Nat × Bool × Oper)} {a : Act} {w : World} (hw : Region.wanted o (yielded ops a.tmps) = false) (hr : wpX F n P ops md Q dn rest (a.put o.dst undef) w) : wpX F n P ops md Q dn ((i, false, o) :: rest) a w :=
  ⟨undef, fun _ => True, fun _ _ => .inr ⟨hw, rfl⟩, trivial, wpX_sub _ _ _ _ _ (fun x hx => by
    rcases List.mem_cons.1 hx with rfl | hx
    · exact .inr fun _ => trivial
    · exact .inl hx) hr⟩
theorem wpX_go (hF : ∀ f, F.fn f) {i : Nat} {o : Oper} {rest : List (Nat × Bool × Oper)} {a : Act} {w : World} (need : List (World → Prop)) (hn : (dn.filter (fun x => Loose md o x.1)).map Prod.snd = need) (hw : Region.wanted o (yielded ops a.tmps) = true) (hp : plainOp o = true)
    (h : ∀ K : Act → World → Prop, (∀ a' w', AllD need w' → wpX F n P ops md Q dn rest a' w' → K a' w') → o.uponIn F n P a K Q ((execOp a.eval o).run P w)) : wpX F n P ops md Q dn ((i, true, o) :: rest) a w := by
  subst hn
  simp only [wpX]
  rw [if_pos hw]
  unfold Oper.wpIn
  refine ⟨fun f _ => hF f, ?_⟩
  rw [Oper.semAt_plain F _ _ (plain_of hp)]
  exact h _ fun a' w' hs hx => ⟨fun x hx hl => AllD_spec hs x.2 (List.mem_map.2 ⟨x, List.mem_filter.2 ⟨hx, hl⟩, rfl⟩), hx⟩
end
end Go.Proofs.Ytbkjkiaicaopoaa.RegPIn
