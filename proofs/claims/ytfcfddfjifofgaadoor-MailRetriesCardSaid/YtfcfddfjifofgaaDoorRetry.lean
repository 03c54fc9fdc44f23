/- The queue's functions as the law MailRetries takes them. -/
import Derived.Test.YtfcfddfjifofgaaDoorGDue
import Derived.Test.YtfcfddfjifofgaaDoorQFail
import Derived.Test.YtfcfddfjifofgaaDoorQGet
import Derived.Test.YtfcfddfjifofgaaDoorBPlain
namespace Go.Proofs.YtfcfddfjifofgaaDoor
open Go.RowKit Go.Shelf
theorem and_i {a b : Bool} (h : a = true) (k : b = true) : (a && b) = true := by rw [h, k]; rfl
theorem or_i {a b : Bool} (h : a = false) (k : b = false) : (a || b) = false := by rw [h, k]; rfl
theorem not_it {a : Bool} (h : a = false) : (!a) = true := by rw [h]; rfl
theorem not_if {a : Bool} (h : a = true) : (!a) = false := by rw [h]; rfl
theorem QueueAt.ext {q mb : Nat} {site : ByteArray} {last : Int} {l : List (Int × QEnt)} {w w' : World} (h : QueueAt q mb site last l w) (he : Ext w w') : QueueAt q mb site last l w' := h.below he
theorem row_frame {q mb b : Nat} {site : ByteArray} {last : Int} {l : List (Int × QEnt)} {w w' : World} {cs : Array Value} {t : TypeId} (h : QueueAt q mb site last l w) (hf : QFrame q mb w w') (hr : w.heap[b]? = some (.cells cs t (0, 0))) (ht : (t == 84) = false) : w'.heap[b]? = some (.cells cs t (0, 0)) := by
  refine (hf.block b (row_lt hr) (fun e => ?_) (fun e => ?_)).trans hr
  · subst e
    rw [h.row] at hr
    simp only [Option.some.injEq, Obj.cells.injEq] at hr
    rw [← hr.2.1] at ht
    simp at ht
  · subst e
    obtain ⟨arr, clock, h1, _⟩ := h.map
    rw [hr] at h1
    cases h1
theorem own_frame {q mb B : Nat} {site : ByteArray} {last : Int} {l : List (Int × QEnt)} {ls : List ByteArray} {w w' : World} {v : Value} (h : QueueAt q mb site last l w) (hf : QFrame q mb w w') (hs : OwnStrs B ls w v) : OwnStrs B ls w' v := by
  refine ⟨hs.1, hs.2.imp id ?_⟩
  rintro ⟨g, cap, cur, e1, e2, e3, e4⟩
  exact ⟨g, cap, cur, e1, e2, row_frame h hf e3 (by kernel_rfl), e4⟩
theorem QueueAt.setRow {q mb b : Nat} {site : ByteArray} {last : Int} {l : List (Int × QEnt)} {w : World} {old cs : Array Value} {t : TypeId} (h : QueueAt q mb site last l w) (hr : w.heap[b]? = some (.cells old t (0, 0))) (ht : (t == 9 || t == 84) = false) : QueueAt q mb site last l (w.setRow b cs) := by
  rw [Bool.or_eq_false_iff] at ht
  refine ⟨row_other h.row (fun e => ?_), MapIs.setRow h.map hr rfl, fun x hx => OwnStrs.setRow (h.own x hx) hr ht.1⟩
  subst e
  rw [h.row] at hr
  simp only [Option.some.injEq, Obj.cells.injEq] at hr
  have := ht.2
  rw [← hr.2.1] at this
  simp at this
theorem frame_ext {q mb : Nat} {w0 w w' : World} (hf : QFrame q mb w w') (hE : Ext w0 w) (hq : w0.heap.size ≤ q) (hm : w0.heap.size ≤ mb) : Ext w0 w' := hf.below hE hE.size hq hm
/-- What NewQueue returns. -/
def IsQP (B : Nat) (name : ByteArray) (v : Value) (w : World) : Prop := (siteE name ≠ 0 ∧ v = .pointer none) ∨ (siteE name = 0 ∧ ∃ q mb, v = .pointer (some ⟨q, 0, none⟩) ∧ B ≤ q ∧ B ≤ mb ∧ QueueAt q mb name 0 [] w)
theorem stab_qp (B : Nat) (name : ByteArray) : Stab (IsQP B name) := fun _ _ _ h s => s.imp id fun ⟨e, q, mb, e1, e2, e3, e4⟩ => ⟨e, q, mb, e1, e2, e3, e4.ext h⟩
def IsNewQ (B : Nat) (name : ByteArray) (v : Value) (w : World) : Prop := ∃ p, v = .tuple #[p, .int .i64 (siteE name : Int)] ∧ IsQP B name p w
theorem stab_newQ (B : Nat) (name : ByteArray) : Stab (IsNewQ B name) := fun _ _ _ h ⟨p, e, s⟩ => ⟨p, e, stab_qp B name _ _ _ h s⟩
theorem new_e {w0 : World} (name : ByteArray) (w : World) (hB : w0.heap.size ≤ w.heap.size) (hn : name.size ≤ maxLen) : Calls Tryd.prog 23 #[.string name] w (Ret (IsNewQ w0.heap.size name) w) :=
  (new_c name w hn).mono fun e w' h => by
    rcases h with ⟨h1, h2, rfl⟩ | ⟨h1, q, mb, h2, h3, h4, h5, h6⟩
    · exact ⟨_, h2, Ext.refl _, _, rfl, .inl ⟨h1, rfl⟩⟩
    · refine ⟨_, h2, h6, _, by rw [h1]; rfl, .inr ⟨h1, q, mb, rfl, Nat.le_trans hB h3, Nat.le_trans hB h4, h5⟩⟩
theorem newQ_0 {P : Program} {o : Oper} {a : Act} {w : World} {φ : Value → World → Prop} {x : Operand} {B : Nat} {name : ByteArray} (ho : o.op = .extract x 0) (h : IsNewQ B name (a.eval x) w) (hφ : ∀ v, IsQP B name v w → φ v w) : OpRun P o a w φ := by
  obtain ⟨p, e, s⟩ := h
  exact run_here (by rw [ho]; rfl) (ex_extract ho e rfl) (hφ _ s)
theorem newQ_1 {P : Program} {o : Oper} {a : Act} {w w' : World} {x : Operand} {B : Nat} {name : ByteArray} (h : IsNewQ B name (a.eval x) w) (ho : o.op = .extract x 1) : (execOp a.eval o).run P w' = .ok (.value (.int .i64 (siteE name : Int))) w' := by
  obtain ⟨p, e, _⟩ := h
  exact ex_extract ho e rfl
theorem own_nq {q mb : Nat} {site : ByteArray} {last : Int} {l : List (Int × QEnt)} {B : Nat} {ls : List ByteArray} {w : World} {v : Value} (h : QueueAt q mb site last l w) (hs : OwnStrs B ls w v) : ∀ b off n c, v = .slice (some ⟨b, off, none⟩) n c → 0 < n → b ≠ q := by
  intro b off n c e hn eq
  subst eq
  rcases hs.2 with ⟨h1, h2⟩ | ⟨g, cap, cur, h1, h2, h3, _⟩
  · rw [h1] at e; cases e
  · rw [h1] at e
    simp only [Value.slice.injEq, Option.some.injEq, Addr.mk.injEq] at e
    obtain ⟨⟨rfl, _⟩, _⟩ := e
    rw [h.row] at h3
    simp only [Option.some.injEq, Obj.cells.injEq] at h3
    exact absurd h3.2.1 (by decide)
/-- The first Add. -/
def AddR (q mb : Nat) (S : ByteArray) (X : Msg) (now : Int) (w : World) (e : Ending) (w' : World) : Prop :=
  ∃ (n1 last1 : Int) (l1 : List (Int × QEnt)), e = .returned (.tuple #[.int .i64 n1, .int .i64 (addE [] X now : Int)]) ∧ QueueAt q mb S last1 l1 w' ∧ QFrame q mb w w' ∧
    (addE [] X now = 0 → n1 = 1 ∧ last1 = 1 ∧ ∃ hv, l1 = [((1 : Int), (⟨X, hv, 1, now, ((1 : Nat) : Int) - 1⟩ : QEnt))]) ∧ (addE [] X now ≠ 0 → n1 = 0 ∧ l1 = [])
theorem add_r {q mb : Nat} {S : ByteArray} {X : Msg} {hv : Value} (now : Int) {w : World} (hq : QueueAt q mb S 0 [] w) (hf : X.Fits) (hs : OwnStrs 0 X.hops w hv) (hl : X.hops.length ≤ 1099511627776) :
    Calls Tryd.prog 24 #[.pointer (some ⟨q, 0, none⟩), .agg (msgC X hv), .int .i64 now] w (AddR q mb S X now w) :=
  (add_c q mb S 0 [] X hv now w hq hf hs.strsAt hl (own_nq hq hs) (Int.le_refl _) (by decide) (by simp)).mono fun e w' h => by
    rcases h with ⟨h1, hv', h2, h3, h4⟩ | ⟨h1, h2, h3, h4⟩
    · exact ⟨1, 1, _, by rw [h1]; exact h2, h3, h4, fun _ => ⟨rfl, rfl, hv', rfl⟩, fun h => absurd h1 h⟩
    · exact ⟨0, 0, [], h2, h3, h4, fun h => absurd h h1, fun _ => ⟨rfl, rfl⟩⟩
/-- Where the rounds stand. -/
structure RetRel (now : Int) (i : Nat) (nw dl : Int) : Prop where
  i1 : 1 ≤ i
  i8 : i ≤ 8
  dl : dl = 5 * 2 ^ (i - 1)
  nw : nw = now + 5 * (2 ^ (i - 1) - 1)
theorem RetRel.start (now : Int) : RetRel now 1 now 5 := ⟨by decide, by decide, rfl, by simp⟩
theorem RetRel.next {now : Int} {i : Nat} {nw dl : Int} (h : RetRel now i nw dl) (hi : ((i : Int) == 8) = false) : RetRel now (i + 1) (nw + dl) (2 * dl) := by
  obtain ⟨h1, h2, h3, h4⟩ := h
  have h8 : ¬ (i : Int) = 8 := by simpa using hi
  obtain ⟨j, rfl⟩ : ∃ j, i = j + 1 := ⟨i - 1, by omega⟩
  refine ⟨by omega, by omega, ?_, ?_⟩
  · rw [h3]; simp only [Nat.add_sub_cancel, Int.pow_succ]; omega
  · rw [h4, h3]; simp only [Nat.add_sub_cancel, Int.pow_succ]; omega
theorem RetRel.bounds {now : Int} {i : Nat} {nw dl : Int} (h : RetRel now i nw dl) : 5 ≤ dl ∧ dl ≤ 640 ∧ now ≤ nw ∧ nw ≤ now + 635 := by
  obtain ⟨h1, h2, h3, h4⟩ := h
  rcases (by omega : i = 1 ∨ i = 2 ∨ i = 3 ∨ i = 4 ∨ i = 5 ∨ i = 6 ∨ i = 7 ∨ i = 8) with rfl | rfl | rfl | rfl | rfl | rfl | rfl | rfl <;> simp at h3 h4 <;> omega
/-- A Fail. -/
def FailR (q mb : Nat) (S : ByteArray) (X : Msg) (hv : Value) (i : Nat) (nw dl : Int) (w : World) (e : Ending) (w' : World) : Prop :=
  ∃ (k1 last1 : Int) (is1 : Bool) (l1 : List (Int × QEnt)), e = .returned (.tuple #[.int .i64 k1, .bool is1, .int .i64 0]) ∧ QueueAt q mb S last1 l1 w' ∧ QFrame q mb w w' ∧ (valOf l1 1 zeroQ).m.hops.length ≤ 1099511627776 ∧
    (((i : Int) == 8) = false → k1 = 0 ∧ is1 = false ∧ last1 = 1 ∧ l1 = [((1 : Int), (⟨X, hv, 1, nw + dl, ((i + 1 : Nat) : Int) - 1⟩ : QEnt))]) ∧
    (((i : Int) == 8) = true → hasK l1 1 = false ∧ is1 = !decide (X.fu = ⟨#[]⟩) ∧ (is1 = true → k1 = 1 + 1 ∧ l1.length = 1) ∧ (is1 = false → k1 = 0 ∧ l1.length = 0))
theorem fail_r {q mb : Nat} {S : ByteArray} {X : Msg} {hv : Value} {now : Int} {i : Nat} {nw dl dq : Int} {w w0 : World} (hr : RetRel now i nw dl) (h0 : 0 ≤ now) (h1 : now ≤ 100000000) (hX : checkE X = 0) (hf : X.Fits) (hS : siteE S = 0) (hSz : S.size ≤ maxLen)
    (hq : QueueAt q mb S 1 [((1 : Int), (⟨X, hv, 1, dq, (i : Int) - 1⟩ : QEnt))] w) (hp : PowT w0) (hE : Ext w0 w) (hqB : w0.heap.size ≤ q) (hmB : w0.heap.size ≤ mb) :
    Calls Tryd.prog 26 #[.pointer (some ⟨q, 0, none⟩), .int .i64 1, .int .i64 nw, .int .i64 26, .bool false] w (FailR q mb S X hv i nw dl w) := by
  obtain ⟨b1, b2, b3, b4⟩ := hr.bounds
  have hm : minuteB nw = true := decide_eq_true (by omega)
  have hX16 := (checkE_ok hX).2.1
  have e1 : valOf [((1 : Int), (⟨X, hv, 1, dq, (i : Int) - 1⟩ : QEnt))] 1 zeroQ = ⟨X, hv, 1, dq, (i : Int) - 1⟩ := rfl
  by_cases h8 : i = 8
  · subst h8
    have hok : QOk S 1 [((1 : Int), (⟨X, hv, 1, dq, ((8 : Nat) : Int) - 1⟩ : QEnt))] := ⟨hSz, by decide, by decide, fun x hx => by simp at hx; rw [hx]; exact hf, fun x hx => by simp at hx; rw [hx]; show X.hops.length ≤ _; omega, fun x hx => by simp at hx; rw [hx]; exact ⟨(by decide : (0 : Int) ≤ 7), (by decide : (7 : Int) ≤ 7)⟩⟩
    refine (fail_out q mb S 1 _ 1 nw 26 false w hq hok rfl hm (.inr (by rw [e1]; exact (by decide : (7 : Int) ≤ ((8 : Nat) : Int) - 1))) (by decide) (by decide) (fun w' hfr => hp.below (hfr.below hE hE.size hqB hmB))).mono fun e w' h => ?_
    rw [OutPost, e1] at h
    have hbb : bouncesB X S nw = !decide (X.fu = ⟨#[]⟩) := by
      have hfu : X.fu.size = 0 ↔ X.fu = ⟨#[]⟩ := by
        constructor
        · intro h; exact ByteArray.ext (Array.eq_empty_of_size_eq_zero h)
        · intro h; rw [h]; rfl
      unfold bouncesB
      by_cases hz : X.fu = ⟨#[]⟩
      · have := hfu.2 hz
        rw [decide_eq_false (fun h => h.1 this), decide_eq_true hz]; rfl
      · have : ¬ X.fu.size = 0 := fun e => hz (hfu.1 e)
        simp [this, hz, hX, hS, hm]
    rcases h with ⟨hb, h2, h3, h4⟩ | ⟨hb, hv', h2, h3, h4⟩
    · refine ⟨0, 1, false, _, h2, h3, h4, (by show ([] : List ByteArray).length ≤ _; simp), (fun h => by simp at h), fun _ => ⟨rfl, (by rw [← hbb, hb]), (fun h => by cases h), fun _ => ⟨rfl, rfl⟩⟩⟩
    · refine ⟨2, 2, true, _, h2, h3, h4, (by show ([] : List ByteArray).length ≤ _; simp), (fun h => by simp at h), fun _ => ⟨rfl, (by rw [← hbb, hb]), fun _ => ⟨rfl, rfl⟩, fun h => by cases h⟩⟩
  · have hi1 := hr.i1
    have hi8 := hr.i8
    refine (fail_again q mb S 1 _ 1 nw 26 w hq rfl hm (by rw [e1]; show (0 : Int) ≤ (i : Int) - 1; omega) (by rw [e1]; show (i : Int) - 1 < 7; omega)).mono fun e w' ⟨h2, h3, h4⟩ => ?_
    have e2 : failX (valOf [((1 : Int), (⟨X, hv, 1, dq, (i : Int) - 1⟩ : QEnt))] 1 zeroQ) nw = ⟨X, hv, 1, nw + dl, ((i + 1 : Nat) : Int) - 1⟩ := by
      rw [e1, failX, hr.dl]
      have e3 : ((i : Int) - 1).toNat = i - 1 := by omega
      have e4 : (i : Int) - 1 + 1 = ((i + 1 : Nat) : Int) - 1 := by omega
      simp only [e3, e4]
    rw [e2] at h3
    refine ⟨0, 1, false, _, h2, h3, h4, (by show X.hops.length ≤ _; omega), fun _ => ⟨rfl, rfl, rfl, rfl⟩, fun h => ?_⟩
    have : (i : Int) = 8 := by simpa using h
    omega
def IsGet (B : Nat) (l : List (Int × QEnt)) (n : Int) (v : Value) (w : World) : Prop := ∃ hv, v = .tuple #[.agg (msgC (valOf l n zeroQ).m hv), .int .i64 (valOf l n zeroQ).due, .bool (hasK l n)] ∧ OwnStrs B (valOf l n zeroQ).m.hops w hv
theorem stab_get (B : Nat) (l : List (Int × QEnt)) (n : Int) : Stab (IsGet B l n) := fun _ _ _ h ⟨hv, e, s⟩ => ⟨hv, e, s.ext h⟩
theorem get_e {q mb : Nat} {site : ByteArray} {last : Int} {l : List (Int × QEnt)} {n : Int} {w0 w : World} (hB : w0.heap.size ≤ w.heap.size) (hq : QueueAt q mb site last l w) (hl : (valOf l n zeroQ).m.hops.length ≤ 1099511627776) :
    Calls Tryd.prog 27 #[.pointer (some ⟨q, 0, none⟩), .int .i64 n] w (Ret (IsGet w0.heap.size l n) w) :=
  (get_c q mb site last l n w hq hl).mono fun _ _ ⟨hv, e, o, b⟩ => ⟨_, e, b, hv, rfl, o.mono hB⟩
theorem get_0 {P : Program} {o : Oper} {a : Act} {w : World} {φ : Value → World → Prop} {x : Operand} {B : Nat} {l : List (Int × QEnt)} {n : Int} (ho : o.op = .extract x 0) (h : IsGet B l n (a.eval x) w) (hφ : ∀ v, IsOwnB B (valOf l n zeroQ).m v w → φ v w) : OpRun P o a w φ := by
  obtain ⟨hv, e, s⟩ := h
  exact run_here (by rw [ho]; rfl) (ex_extract ho e rfl) (hφ _ ⟨hv, rfl, s⟩)
theorem get_1 {P : Program} {o : Oper} {a : Act} {w w' : World} {x : Operand} {B : Nat} {l : List (Int × QEnt)} {n : Int} (h : IsGet B l n (a.eval x) w) (ho : o.op = .extract x 1) : (execOp a.eval o).run P w' = .ok (.value (.int .i64 (valOf l n zeroQ).due)) w' := by
  obtain ⟨p, e, _⟩ := h
  exact ex_extract ho e rfl
theorem get_2 {P : Program} {o : Oper} {a : Act} {w w' : World} {x : Operand} {B : Nat} {l : List (Int × QEnt)} {n : Int} (h : IsGet B l n (a.eval x) w) (ho : o.op = .extract x 2) : (execOp a.eval o).run P w' = .ok (.value (.bool (hasK l n))) w' := by
  obtain ⟨p, e, _⟩ := h
  exact ex_extract ho e rfl
theorem due_form {B : Nat} {l : List (Int × QEnt)} {now : Int} {v : Value} {w : World} (h : IsDue B l now v w) : ∃ a c, v = .slice a ((l.map (·.2)).filter (dueB now)).length c := by
  obtain ⟨ns, ⟨ds, h1, h2, rfl⟩, h3⟩ := h
  obtain ⟨a, c, e⟩ := OwnR.len h3
  exact ⟨a, c, by rw [e, List.length_map, h1.length_eq]⟩
theorem due_r {q mb : Nat} {site : ByteArray} {last now : Int} {l : List (Int × QEnt)} {w0 w : World} (hB : w0.heap.size ≤ w.heap.size) (hq : QueueAt q mb site last l w) (hl : l.length ≤ 1000000) :
    Calls Tryd.prog 28 #[.pointer (some ⟨q, 0, none⟩), .int .i64 now] w (Ret (IsDue w0.heap.size l now) w) :=
  (due_e q mb site last now l w hq hl).mono fun _ _ ⟨v, e, x, ns, d, o⟩ => ⟨v, e, x, ns, d, o.mono hB⟩
theorem ret_last {hk is1 d : Bool} {k1 : Int} {n : Nat} (h1 : hk = false) (h2 : is1 = d) (hy : is1 = true → k1 = 1 + 1 ∧ n = 1) (hn : is1 = false → k1 = 0 ∧ n = 0) :
    (((!hk) && (is1 == d)) && (((is1 && (k1 == (1 + 1))) && ((n : Int) == (1 : Int))) || (((!is1) && (k1 == (0 : Int))) && ((n : Int) == (0 : Int))))) = true := by
  subst h1 h2
  cases is1 with
  | true => obtain ⟨rfl, rfl⟩ := hy rfl; rfl
  | false => obtain ⟨rfl, rfl⟩ := hn rfl; rfl
end Go.Proofs.YtfcfddfjifofgaaDoor
