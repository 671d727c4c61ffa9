/- The denotation of code: joins carry the live variables alone. And it is sound. -/
import Derived.Test.YtmhfanpijdgkjaaDoorXI
namespace Go.X

def has : List Nat → Nat → Bool
  | [], _ => false
  | a :: l, i => bif Nat.beq i a then true else has l i

theorem has_iff {l : List Nat} {i : Nat} : has l i = true ↔ i ∈ l := by
  induction l with
  | nil => simp [has]
  | cons a l ih =>
    simp only [has, List.mem_cons]
    cases h : Nat.beq i a with
    | true => simp [Nat.eq_of_beq_eq_true h]
    | false =>
      have : i ≠ a := fun e => by subst e; rw [Nat.beq_refl] at h; cases h
      simp [this, ih]

/-- a continuation that takes n values, one behind the other -/
def Cur : Nat → Type
  | 0 => Heap → Prop
  | n + 1 => Value → Cur n
def Cur.of : (n : Nat) → (List Value → Heap → Prop) → Cur n
  | 0, F => F []
  | n + 1, F => fun v => Cur.of n fun vs => F (v :: vs)
def Cur.app : (n : Nat) → Cur n → List Value → Heap → Prop
  | 0, k, _ => k
  | n + 1, k, [] => Cur.app n (k undef) []
  | n + 1, k, v :: vs => Cur.app n (k v) vs
theorem Cur.app_of : ∀ {n : Nat} {F : List Value → Heap → Prop} {vs : List Value} {h : Heap}, vs.length = n → (Cur.app n (Cur.of n F) vs h ↔ F vs h)
  | 0, F, [], h, _ => Iff.rfl
  | n + 1, F, v :: vs, h, hl => Cur.app_of (n := n) (F := fun vs => F (v :: vs)) (by simpa using hl)

def Mjoin (n : Nat) (body : Cur n → Prop) (rest : Cur n) : Prop := body rest
def Mloop (n : Nat) (body : Cur n → Cur n) (vs : List Value) (H : Heap) : Prop :=
  ∃ (I : List Value → Heap → Prop) (μ : List Value → Heap → Nat), I vs H ∧ ∀ vs h, vs.length = n → I vs h → Cur.app n (body (Cur.of n fun vs' h' => I vs' h' ∧ μ vs' h' < μ vs h)) vs h

def look : List Nat → List Value → Nat → Value
  | l :: L, v :: vs, i => bif Nat.beq i l then v else look L vs i
  | _, _, _ => undef
/-- behind a join: of the variables that were assigned those of L have the values vs; the others stay -/
def mg (A L : List Nat) (e : Env) (vs : List Value) : Env := fun i => bif has A i then look L vs i else e i

theorem look_map {L : List Nat} {f : Env} {i : Nat} (h : has L i = true) : look L (L.map f) i = f i := by
  induction L with
  | nil => simp [has] at h
  | cons l L ih =>
    simp only [has] at h
    simp only [List.map_cons, look]
    cases hb : Nat.beq i l with
    | true => simp [Nat.eq_of_beq_eq_true hb]
    | false => rw [hb] at h; simpa using ih h

def rm (A D : List Nat) : List Nat := D.filter fun i => !has A i
def both (V A D : List Nat) : List Nat := V.filter fun i => has A i && has D i
def addD (d : Option Nat) (D : List Nat) : List Nat := match d with | some d => d :: D | none => D
def Agree (D : List Nat) (e e1 : Env) : Prop := ∀ i, i ∈ D → e i = e1 i

theorem Agree.put {D : List Nat} {e e1 : Env} {d : Option Nat} {v : Value} (h : Agree D e e1) : Agree (addD d D) (e.put d v) (e1.put d v) := by
  intro i hi
  cases d with
  | none => exact h i hi
  | some d =>
    by_cases hd : i = d
    · subst hd; rw [put_eq, put_eq]
    · rw [put_ne (by simpa using fun h => hd h.symm), put_ne (by simpa using fun h => hd h.symm)]
      exact h i ((List.mem_cons.1 hi).resolve_left hd)

theorem agree_mg {V A L D Da : List Nat} {e e1 e1' : Env} (hL : L = both V A Da) (h : Agree D e e1) (hun : ∀ i, i ∉ A → e1' i = e1 i) {vs : List Value} (hvs : vs = L.map e1') : Agree (L ++ rm A D) (mg A L e vs) e1' := by
  intro i hi
  subst hvs
  rcases List.mem_append.1 hi with hi | hi
  · have hi' := hi
    rw [hL] at hi'
    have hA : has A i = true := by
      have := (List.mem_filter.1 hi').2
      simp only [Bool.and_eq_true] at this
      exact this.1
    simp only [mg, hA, cond_true]
    exact look_map (has_iff.2 hi)
  · obtain ⟨hD, hA⟩ := List.mem_filter.1 hi
    have hA : has A i = false := by simpa using hA
    simp only [mg, hA, cond_false]
    rw [hun i (fun hm => by rw [has_iff.2 hm] at hA; cases hA)]
    exact h i hD

def opnIn (D : List Nat) : Operand → Bool
  | .tmp t => has D t
  | _ => true
def okIn (D : List Nat) (o : Oper) : Bool := o.op.operands.toList.all (opnIn D)

theorem okIn_congr {D : List Nat} {o : Oper} (h : okIn D o = true) {e e1 : Env} (ha : Agree D e e1) : ∀ x ∈ o.op.operands, ev e x = ev e1 x := by
  intro x hx
  have := List.all_eq_true.1 h x (Array.mem_toList_iff.2 hx)
  cases x <;> first | rfl | exact ha _ (has_iff.1 this)

def dsts : List Oper → List Nat
  | [] => []
  | o :: r => addD o.dst (dsts r)

/-- what was read is read again, and is the same -/
def Mre : List (Option Value × Value) → Prop → Prop
  | [], p => p
  | (a, b) :: l, p => a = some b ∧ Mre l p
abbrev Item := Oper × List Oper
def dstV (e : Env) : Option Nat → Value
  | some d => e d
  | none => undef
def resOf (P : Program) (e : Env) (h : Heap) : List Oper → List (Option Value × Value)
  | [] => []
  | j :: l => (pureOf (opR P j.op (ev e) h), dstV e j.dst) :: resOf P e h l
def plainX (P : Program) : List Item → Env → Heap → (Env → Heap → Prop) → Prop
  | [], e, H, K => K e H
  | (o, rs) :: r, e, H, K => opX P false o (ev e) H fun v h => Mre (resOf P (e.put o.dst v) h rs) (plainX P r (e.put o.dst v) h K)
def okRe (D : List Nat) (j : Oper) : Bool := okIn D j && (match j.dst with | some d => has D d | none => false)
def chkPlain : List Item → List Nat → Option (List Nat)
  | [], D => some D
  | (o, rs) :: r, D => bif okIn D o && rs.all (okRe (addD o.dst D)) then chkPlain r (addD o.dst D) else none

theorem Mre_iff {P : Program} {e : Env} {h : Heap} {p : Prop} : ∀ {rs : List Oper}, Mre (resOf P e h rs) p ↔ (∀ j ∈ rs, pureOf (opR P j.op (ev e) h) = some (dstV e j.dst)) ∧ p
  | [] => by simp [resOf, Mre]
  | j :: rs => by simp only [resOf, Mre, Mre_iff (rs := rs), List.forall_mem_cons, and_assoc]

theorem okRe_rc {P : Program} {D : List Nat} {j : Oper} (h : okRe D j = true) {e e1 : Env} {hp : Heap} (ha : Agree D e e1) (hr : pureOf (opR P j.op (ev e) hp) = some (dstV e j.dst)) : rc P j e1 hp := by
  simp only [okRe, Bool.and_eq_true] at h
  unfold rc
  cases hd : j.dst with
  | none => trivial
  | some d =>
    rw [hd] at h hr
    simp only [dstV] at hr ⊢
    rw [← opR_congr (okIn_congr h.1 ha), hr, ha d (has_iff.1 h.2)]

def sameG (g : Nat × Bool) (o : Oper) : Bool := match o.guard with
  | some (j, b) => Nat.beq j g.1 && (b == g.2)
  | none => false
def opsOf : List Item → List Oper
  | [] => []
  | (o, _) :: r => o :: opsOf r
def spanG (g : Nat × Bool) : List Item → List Item × List Item
  | [] => ([], [])
  | o :: r => bif sameG g o.1 then ((o :: (spanG g r).1), (spanG g r).2) else ([], o :: r)

theorem spanG_eq (g : Nat × Bool) : ∀ l, l = (spanG g l).1 ++ (spanG g l).2
  | [] => rfl
  | o :: r => by
    simp only [spanG]
    cases sameG g o.1
    · rfl
    · simp only [cond_true, List.cons_append]; rw [← spanG_eq g r]
theorem spanG_mem (g : Nat × Bool) : ∀ l, ∀ o ∈ (spanG g l).1, sameG g o.1 = true
  | [], o, h => by simp [spanG] at h
  | x :: r, o, h => by
    simp only [spanG] at h
    cases hx : sameG g x.1
    · rw [hx] at h; simp at h
    · rw [hx] at h
      rcases List.mem_cons.1 h with rfl | h
      · exact hx
      · exact spanG_mem g r o h

def seqX (P : Program) (V : List Nat) (ops : Array Oper) : Nat → List Item → Env → Heap → (Env → Heap → Prop) → Prop
  | 0, _, _, _, _ => False
  | _ + 1, [], e, H, K => K e H
  | f + 1, (o, rs) :: rest, e, H, K => match o.guard with
    | none => opX P false o (ev e) H fun v h => Mre (resOf P (e.put o.dst v) h rs) (seqX P V ops f rest (e.put o.dst v) h K)
    | some g => match (ops[g.1]?).bind (·.dst) with
      | some t =>
        Mjoin (both V (dsts (opsOf ((o, rs) :: (spanG g rest).1))) V).length
          (fun k => Mif (e t) g.2 (plainX P ((o, rs) :: (spanG g rest).1) e H fun e' h => Cur.app _ k ((both V (dsts (opsOf ((o, rs) :: (spanG g rest).1))) V).map e') h)
            (Cur.app _ k ((both V (dsts (opsOf ((o, rs) :: (spanG g rest).1))) V).map fun _ => undef) H))
          (Cur.of _ fun vs h => seqX P V ops f (spanG g rest).2 (mg (dsts (opsOf ((o, rs) :: (spanG g rest).1))) (both V (dsts (opsOf ((o, rs) :: (spanG g rest).1))) V) e vs) h K)
      | none => False
def chkSeq (V : List Nat) (ops : Array Oper) : Nat → List Item → List Nat → Option (List Nat)
  | 0, _, _ => none
  | _ + 1, [], D => some D
  | f + 1, (o, rs) :: rest, D => match o.guard with
    | none => bif okIn D o && rs.all (okRe (addD o.dst D)) then chkSeq V ops f rest (addD o.dst D) else none
    | some g => match (ops[g.1]?).bind (·.dst) with
      | some t => bif has D t && !has (dsts (opsOf ((o, rs) :: (spanG g rest).1))) t then
          (match chkPlain ((o, rs) :: (spanG g rest).1) D with
          | some _ => chkSeq V ops f (spanG g rest).2 (both V (dsts (opsOf ((o, rs) :: (spanG g rest).1))) V ++ rm (dsts (opsOf ((o, rs) :: (spanG g rest).1))) D)
          | none => none) else none
      | none => none

/-- the list, operation by operation, each with its guard -/
def foldC (P : Program) (ops : Array Oper) : List Item → Env → Heap → (Env → Heap → Prop) → Prop
  | [], e, H, K => K e H
  | (o, rs) :: r, e, H, K => stepC P ops o e H (fun e h => ∀ j ∈ rs, rc P j e h) fun e h => foldC P ops r e h K

theorem foldC.mono {P : Program} {ops : Array Oper} : ∀ {l : List Item} {e : Env} {H : Heap} {K K' : Env → Heap → Prop}, foldC P ops l e H K → (∀ e h, K e h → K' e h) → foldC P ops l e H K'
  | [], _, _, _, _, h, hk => hk _ _ h
  | (_, _) :: _, _, _, _, _, h, hk => stepC.mono h (fun _ _ a => a) fun _ _ h => foldC.mono h hk

theorem foldC_append {P : Program} {ops : Array Oper} : ∀ {l m : List Item} {e : Env} {H : Heap} {K : Env → Heap → Prop}, foldC P ops l e H (fun e h => foldC P ops m e h K) → foldC P ops (l ++ m) e H K
  | [], _, _, _, _, h => h
  | (_, _) :: _, _, _, _, _, h => stepC.mono h (fun _ _ a => a) fun _ _ h => foldC_append h

theorem mem_dsts {o : Oper} {d : Nat} (h : o.dst = some d) : ∀ {l : List Oper}, o ∈ l → d ∈ dsts l
  | x :: l, hm => by
    rcases List.mem_cons.1 hm with rfl | hm
    · simp [dsts, h, addD]
    · have := mem_dsts h hm
      simp only [dsts, addD]
      cases x.dst <;> simp [this]
theorem mem_opsOf {x : Item} : ∀ {l : List Item}, x ∈ l → x.1 ∈ opsOf l
  | (o, rs) :: l, h => by
    rcases List.mem_cons.1 h with rfl | h
    · simp [opsOf]
    · simp [opsOf, mem_opsOf h]

theorem act_true {ops : Array Oper} {g : Nat × Bool} {t : Nat} (ht : (ops[g.1]?).bind (·.dst) = some t) {o : Oper} (hsg : sameG g o = true) {e1 : Env} {b : Bool} (het : e1 t = .bool b) : act ops o e1 = some (b == g.2) := by
  unfold sameG at hsg
  unfold act
  cases hg : o.guard with
  | none => simp [hg] at hsg
  | some g' =>
    obtain ⟨j, b⟩ := g'
    rw [hg] at hsg
    simp only [Bool.and_eq_true, beq_iff_eq] at hsg
    obtain ⟨h1, h2⟩ := hsg
    have hj : j = g.1 := Nat.eq_of_beq_eq_true h1
    subst hj h2
    simp [ht, het]

theorem act_false {ops : Array Oper} {g : Nat × Bool} {t : Nat} (ht : (ops[g.1]?).bind (·.dst) = some t) {o : Oper} (hsg : sameG g o = true) {e1 : Env} (het : e1 t ≠ .bool g.2) : act ops o e1 = some false := by
  by_cases hb : ∃ b, e1 t = .bool b
  · obtain ⟨b, hb⟩ := hb
    rw [act_true ht hsg hb]
    have : b ≠ g.2 := fun e => het (e ▸ hb)
    cases b <;> cases hg : g.2 <;> simp_all
  · unfold sameG at hsg
    unfold act
    cases hg : o.guard with
    | none => simp [hg] at hsg
    | some g' =>
      obtain ⟨j, b⟩ := g'
      rw [hg] at hsg
      simp only [Bool.and_eq_true, beq_iff_eq] at hsg
      obtain ⟨h1, h2⟩ := hsg
      have hj : j = g.1 := Nat.eq_of_beq_eq_true h1
      subst hj h2
      simp only [ht]
      cases hv : e1 t <;> first
        | rfl
        | exact absurd ⟨_, hv⟩ hb

theorem plain_fold {P : Program} {ops : Array Oper} {g : Nat × Bool} {t : Nat} (ht : (ops[g.1]?).bind (·.dst) = some t) : ∀ (l : List Item) (D D1 : List Nat) (e e1 : Env) (H : Heap) (K : Env → Heap → Prop),
    (∀ x ∈ l, sameG g x.1 = true ∧ (∀ cs b, x.1.op ≠ .select cs b)) → t ∉ dsts (opsOf l) → chkPlain l D = some D1 → Agree D e e1 → e1 t = .bool g.2 → plainX P l e H K →
    foldC P ops l e1 H fun e1' h => ∃ e', K e' h ∧ Agree D1 e' e1' ∧ ∀ i, i ∉ dsts (opsOf l) → e1' i = e1 i
  | [], D, D1, e, e1, H, K, _, _, hc, ha, _, h => by
    simp only [chkPlain, Option.some.injEq] at hc
    subst hc
    exact ⟨e, h, ha, fun _ _ => rfl⟩
  | (o, rs) :: l, D, D1, e, e1, H, K, hm, hnt, hc, ha, het, h => by
    simp only [chkPlain] at hc
    cases hok : (okIn D o && rs.all (okRe (addD o.dst D))) with
    | false => rw [hok] at hc; cases hc
    | true =>
      rw [hok] at hc
      simp only [Bool.and_eq_true] at hok
      obtain ⟨hok, hre⟩ := hok
      obtain ⟨hsg, hsel⟩ := hm (o, rs) (by simp)
      have hdt : o.dst ≠ some t := fun hd => hnt (mem_dsts hd (by simp [opsOf]))
      have hact : act ops o e1 = some true := by rw [act_true ht hsg het]; simp
      refine .inl ⟨hact, ?_⟩
      refine opX_congr hsel (okIn_congr hok ha) (opX_mono h fun v h' hh => ?_)
      obtain ⟨hr, hh⟩ := Mre_iff.1 hh
      have hnt' : t ∉ dsts (opsOf l) := fun hm => hnt (by
        simp only [opsOf, dsts, addD]; cases o.dst <;> simp [hm])
      refine ⟨fun j hj => okRe_rc (List.all_eq_true.1 hre j hj) ha.put (hr j hj), ?_⟩
      refine foldC.mono (plain_fold ht l (addD o.dst D) D1 (e.put o.dst v) (e1.put o.dst v) h' K (fun o ho => hm o (by simp [ho])) hnt' hc ha.put (by rw [put_ne hdt]; exact het) hh) ?_
      rintro e1' h ⟨e', hk, hag, hun⟩
      refine ⟨e', hk, hag, fun i hi => ?_⟩
      have hi' : i ∉ dsts (opsOf l) := fun hm => hi (by simp only [opsOf, dsts, addD]; cases o.dst <;> simp [hm])
      rw [hun i hi', put_ne (fun hd => hi (mem_dsts hd (by simp [opsOf])))]

theorem idle_fold {P : Program} {ops : Array Oper} {g : Nat × Bool} {t : Nat} (ht : (ops[g.1]?).bind (·.dst) = some t) : ∀ (l : List Item) (e1 : Env) (H : Heap) (K : Env → Heap → Prop),
    (∀ x ∈ l, sameG g x.1 = true) → t ∉ dsts (opsOf l) → e1 t ≠ .bool g.2 → (∀ e1' : Env, (∀ i, i ∈ dsts (opsOf l) → e1' i = undef) → (∀ i, i ∉ dsts (opsOf l) → e1' i = e1 i) → K e1' H) → foldC P ops l e1 H K
  | [], e1, H, K, _, _, _, h => h e1 (fun i hi => by simp [opsOf, dsts] at hi) (fun _ _ => rfl)
  | (o, rs) :: l, e1, H, K, hm, hnt, het, h => by
    have hdt : o.dst ≠ some t := fun hd => hnt (mem_dsts hd (by simp [opsOf]))
    have hsg := hm (o, rs) (by simp)
    have hact : act ops o e1 = some false := act_false ht hsg het
    refine .inr ⟨hact, ?_⟩
    have hnt' : t ∉ dsts (opsOf l) := fun hm => hnt (by simp only [opsOf, dsts, addD]; cases o.dst <;> simp [hm])
    refine idle_fold ht l (e1.put o.dst undef) H K (fun o ho => hm o (by simp [ho])) hnt' (by rw [put_ne hdt]; exact het) fun e1' h1 h2 => h e1' (fun i hi => ?_) (fun i hi => ?_)
    · by_cases hl : i ∈ dsts (opsOf l)
      · exact h1 i hl
      · rw [h2 i hl]
        have : o.dst = some i := by
          simp only [opsOf, dsts, addD] at hi
          cases hd : o.dst with
          | none => rw [hd] at hi; exact absurd hi hl
          | some d =>
            rw [hd] at hi
            rcases List.mem_cons.1 hi with rfl | hi
            · rfl
            · exact absurd hi hl
        rw [this, put_eq]
    · have hi' : i ∉ dsts (opsOf l) := fun hm => hi (by simp only [opsOf, dsts, addD]; cases o.dst <;> simp [hm])
      rw [h2 i hi', put_ne (fun hd => hi (mem_dsts hd (by simp [opsOf])))]

theorem chkPlain_dsts : ∀ {l : List Item} {D D1 : List Nat}, chkPlain l D = some D1 → ∀ i, i ∈ dsts (opsOf l) ∨ i ∈ D → i ∈ D1
  | [], D, D1, h, i, hi => by
    simp only [chkPlain, Option.some.injEq] at h
    subst h
    rcases hi with hi | hi
    · simp [opsOf, dsts] at hi
    · exact hi
  | (o, rs) :: l, D, D1, h, i, hi => by
    simp only [chkPlain] at h
    cases hok : (okIn D o && rs.all (okRe (addD o.dst D))) with
    | false => rw [hok] at h; cases h
    | true =>
      rw [hok] at h
      refine chkPlain_dsts h i ?_
      simp only [opsOf, dsts, addD] at hi ⊢
      cases hd : o.dst with
      | none => rw [hd] at hi; exact hi
      | some d =>
        rw [hd] at hi
        rcases hi with hi | hi
        · rcases List.mem_cons.1 hi with rfl | hi
          · exact .inr (by simp)
          · exact .inl hi
        · exact .inr (by simp [hi])

theorem seq_fold {P : Program} {V : List Nat} {ops : Array Oper} : ∀ (f : Nat) (l : List Item) (D D' : List Nat) (e e1 : Env) (H : Heap) (K : Env → Heap → Prop), (∀ x ∈ l, ∀ cs b, x.1.op ≠ .select cs b) →
    chkSeq V ops f l D = some D' → Agree D e e1 → seqX P V ops f l e H K → foldC P ops l e1 H fun e1' h => ∃ e', K e' h ∧ Agree D' e' e1'
  | 0, _, _, _, _, _, _, _, _, hc, _, _ => by simp [chkSeq] at hc
  | f + 1, [], D, D', e, e1, H, K, _, hc, ha, h => by
    simp only [chkSeq, Option.some.injEq] at hc
    subst hc
    exact ⟨e, h, ha⟩
  | f + 1, (o, rs) :: rest, D, D', e, e1, H, K, hsel, hc, ha, h => by
    simp only [chkSeq] at hc
    simp only [seqX] at h
    cases hg : o.guard with
    | none =>
      simp only [hg] at hc h
      cases hok : (okIn D o && rs.all (okRe (addD o.dst D))) with
      | false => rw [hok] at hc; cases hc
      | true =>
        rw [hok] at hc
        simp only [Bool.and_eq_true] at hok
        obtain ⟨hok, hre⟩ := hok
        refine .inl ⟨by simp [act, hg], ?_⟩
        refine opX_congr (hsel (o, rs) (by simp)) (okIn_congr hok ha) (opX_mono h fun v h' hh => ?_)
        obtain ⟨hr, hh⟩ := Mre_iff.1 hh
        exact ⟨fun j hj => okRe_rc (List.all_eq_true.1 hre j hj) ha.put (hr j hj), seq_fold f rest (addD o.dst D) D' _ _ h' K (fun o ho => hsel o (by simp [ho])) hc ha.put hh⟩
    | some g =>
      simp only [hg] at hc h
      cases ht : (ops[g.1]?).bind (·.dst) with
      | none => simp [ht] at hc
      | some t =>
        simp only [ht] at hc h
        generalize hG : (o, rs) :: (spanG g rest).1 = G at hc h
        have hsplit : (o, rs) :: rest = G ++ (spanG g rest).2 := by
          rw [← hG, List.cons_append, ← spanG_eq g rest]
        have hmG : ∀ x ∈ G, sameG g x.1 = true := by
          intro x hx
          rw [← hG] at hx
          rcases List.mem_cons.1 hx with rfl | hx
          · simp [sameG, hg]
          · exact spanG_mem g rest x hx
        cases hck : (has D t && !has (dsts (opsOf G)) t) with
        | false => rw [hck] at hc; cases hc
        | true =>
          rw [hck] at hc
          simp only [Bool.and_eq_true, Bool.not_eq_true'] at hck
          obtain ⟨hDt, hAt⟩ := hck
          have hnt : t ∉ dsts (opsOf G) := fun hm => by rw [has_iff.2 hm] at hAt; cases hAt
          cases hcp : chkPlain G D with
          | none => simp [hcp] at hc
          | some D1 =>
            simp only [hcp, cond_true] at hc
            have hrest : ∀ x ∈ (spanG g rest).2, ∀ cs b, x.1.op ≠ .select cs b := fun x hx => hsel x (by rw [hsplit]; simp [hx])
            rw [hsplit]
            refine foldC_append ?_
            have idle : e1 t ≠ .bool g.2 → Cur.app (both V (dsts (opsOf G)) V).length (Cur.of (both V (dsts (opsOf G)) V).length fun vs h => seqX P V ops f (spanG g rest).2 (mg (dsts (opsOf G)) (both V (dsts (opsOf G)) V) e vs) h K) ((both V (dsts (opsOf G)) V).map fun _ => undef) H →
                foldC P ops G e1 H fun e h => foldC P ops (spanG g rest).2 e h fun e1' h => ∃ e', K e' h ∧ Agree D' e' e1' := fun hne hk => by
              refine idle_fold ht G e1 H _ hmG hnt hne fun e1' h1 h2 => ?_
              rw [Cur.app_of (by simp)] at hk
              refine seq_fold f _ _ D' _ _ H K hrest hc ?_ hk
              refine agree_mg rfl ha h2 ?_
              refine List.map_congr_left fun i hi => ?_
              have := (List.mem_filter.1 hi).2
              simp only [Bool.and_eq_true] at this
              exact (h1 i (has_iff.1 this.1)).symm
            rcases h with ⟨b, heb, hyes, hno⟩ | ⟨hnb, hno⟩
            · have het : e1 t = .bool b := by rw [← ha t (has_iff.1 hDt)]; exact heb
              by_cases hb : b = g.2
              · subst hb
                refine foldC.mono (plain_fold ht G D D1 e e1 H _ (fun x hx => ⟨hmG x hx, hsel x (by rw [hsplit]; simp [hx])⟩) hnt hcp ha het (hyes rfl)) ?_
                rintro e1' h' ⟨e', hk, hag, hun⟩
                rw [Cur.app_of (by simp)] at hk
                refine seq_fold f _ _ D' _ _ h' K hrest hc ?_ hk
                refine agree_mg rfl ha hun ?_
                refine List.map_congr_left fun i hi => ?_
                have := (List.mem_filter.1 hi).2
                simp only [Bool.and_eq_true] at this
                exact hag i (chkPlain_dsts hcp i (.inl (has_iff.1 this.1)))
              · have hb' : b = !g.2 := by cases b <;> cases hq : g.2 <;> simp_all
                exact idle (by rw [het]; intro he; cases he; exact hb rfl) (hno hb')
            · exact idle (by rw [← ha t (has_iff.1 hDt)]; exact hnb _) hno

end Go.X
