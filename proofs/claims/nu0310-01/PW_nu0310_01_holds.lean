import PyProof.Rows.All
import Wide.All
import OpenK.AllK
import Wide.FinOn
import Lean
import PySem.Challenge.RW_nu0310_01
open PySem PySem.W PyProof.Rows
set_option Elab.async false
set_option linter.unusedVariables false
set_option maxRecDepth 100000
namespace Nu

abbrev handObj (c : Addr) (p d r : Int) (tp td tr : Tok) (nn : Nat) : Obj := PySem.W.listOf #[Value.ref c, Value.int p tp, Value.int d td, Value.int r tr] nn

def HandOk (c : Addr) (len : Nat) (o : Obj) : Prop :=
  ∃ (p d r : Int) (tp td tr : Tok) (nn : Nat), o = handObj c p d r tp td tr nn ∧ 0 ≤ p ∧ p ≤ (len : Int) ∧ 0 ≤ d ∧ 0 ≤ r ∧ r < 2147483647

def PickClaim (prog : Program) (w : World) (K : Frag) (p : Program) (loose : List Str) (mean : ExcName → Option Value) (mg mb : Str → Option Value) (f : Addr) : Prop :=
  ∀ (dp un : Nat) (gd : Option (List Code)) (cn : Str) (cs : Scope) (a : Addr) (ccd : Value) (cl : List (Str × Addr)) (outer : List Env) (A₀ : Around) (base h₀ : Heap) (L : Addr) (m : Str → Option Value) (s : Shared) (Q E : Value → Shared → Prop)
    (hd c : Addr) (vs : List Value) (ns : List Int) (nc : Nat) (ip id ir : Int) (tp td tr : Tok) (nn : Nat) (lim : Int) (tl : Tok) (rest : List (Addr × Obj)),
    Below A₀ base outer h₀ → Fr h₀ L s.heap m → K.In h₀ → News h₀ L s.heap ((hd, handObj c ip id ir tp td tr nn) :: (c, PySem.W.listOf vs.toArray nc) :: rest) → (∀ q ∈ rest, q.1 ≠ hd) → @Ne Nat c hd →
    IntsAre vs ns → ns.length ≤ 63 → Top p loose mean mg mb h₀ → cs.kind = .function →
    0 ≤ ip → ip ≤ (ns.length : Int) → 0 ≤ id → 0 ≤ ir → ir < 2147483647 → 0 < lim → lim ≤ 256 → dp + 1 < recursionLimit → un + 8 < cLine →
    (∀ (v : Int) (t : Tok) (o' : Obj) (h' : Heap) (tk' : Nat), 0 ≤ v → v < lim → HandOk c ns.length o' → Fr h₀ L h' m → News h₀ L h' ((hd, o') :: (c, PySem.W.listOf vs.toArray nc) :: rest) → Q (.int v t) { s with heap := h', toks := tk' }) →
    wpAny (model prog w) (ktrTop dp un gd cn cs L a ccd cl outer) (call (.ref f) [.ref hd, .int lim tl]) Q E s

end Nu

namespace Nu
def keyFrom (k : Int) (ns : List Int) : Int := ns.foldl (fun k v => k * 257 + v + 1) k
def keyOf (ns : List Int) : Int := keyFrom 0 ns

def KeyClaim (prog : Program) (w : World) (K : Frag) (p : Program) (loose : List Str) (mean : ExcName → Option Value) (mg mb : Str → Option Value) (f : Addr) : Prop :=
  ∀ (dp un : Nat) (gd : Option (List Code)) (cn : Str) (cs : Scope) (a : Addr) (ccd : Value) (cl : List (Str × Addr)) (outer : List Env) (A₀ : Around) (base h₀ : Heap) (L : Addr) (m : Str → Option Value) (s : Shared) (Q E : Value → Shared → Prop)
    (l : Addr) (vs : List Value) (ns : List Int) (nn : Nat) (rest : List (Addr × Obj)),
    Below A₀ base outer h₀ → Fr h₀ L s.heap m → K.In h₀ → News h₀ L s.heap ((l, PySem.W.listOf vs.toArray nn) :: rest) → IntsAre vs ns → ns.length ≤ 64 → Top p loose mean mg mb h₀ → cs.kind = .function →
    dp + 1 < recursionLimit → un + 8 < cLine →
    (∀ (t : Tok) (h' : Heap) (tk' : Nat), Fr h₀ L h' m → News h₀ L h' ((l, PySem.W.listOf vs.toArray nn) :: rest) → Q (.int (keyOf ns) t) { s with heap := h', toks := tk' }) →
    wpAny (model prog w) (ktrTop dp un gd cn cs L a ccd cl outer) (call (.ref f) [.ref l]) Q E s
end Nu

namespace Nu
theorem key_fold (ns : List Int) : ∀ k : Int, (List.foldl (fun (σ : Int × Unit) n => (σ.fst * 257 + n + 1, ())) (k, ()) ns).fst = keyFrom k ns := by
  induction ns with
  | nil => intro k; rfl
  | cons n r ih => intro k; exact ih _
theorem key_end {h₀ : Heap} {L : Addr} {m : Str → Option Value} {s : Shared} {ns : List Int} {led : List (Addr × Obj)} {Q : Value → Shared → Prop} {t : Tok} {h' : Heap} {tk' : Nat}
    (hret : ∀ (t : Tok) (h' : Heap) (tk' : Nat), Fr h₀ L h' m → News h₀ L h' led → Q (.int (keyOf ns) t) { s with heap := h', toks := tk' }) (F : Fr h₀ L h' m) (N : News h₀ L h' led) :
    Q (.int (List.foldl (fun (σ : Int × Unit) n => (σ.fst * 257 + n + 1, ())) (0, ()) ns).fst t) { s with heap := h', toks := tk' } := by
  rw [key_fold]
  exact hret t h' tk' F N

/-- what a draw leaves of the ledger -/
def After (h₀ : Heap) (L : Addr) (h' : Heap) (hd : Addr) (o o' : Obj) (news : List (Addr × Obj)) : Prop := ∀ news', Upd hd o o' news news' → News h₀ L h' news'
theorem after_use {P : Prop} {h₀ : Heap} {L : Addr} {h' : Heap} {hd : Addr} {o o' : Obj} {news news' : List (Addr × Obj)} (A : After h₀ L h' hd o o' news) (U : Upd hd o o' news news') (k : News h₀ L h' news' → P) : P := k (A _ U)

theorem pick_use {prog : Program} {w : World} {K : Frag} {p : Program} {loose : List Str} {mean : ExcName → Option Value} {mg mb : Str → Option Value} {f : Addr} (C : PickClaim prog w K p loose mean mg mb f)
    {dp un : Nat} {gd : Option (List Code)} {cn : Str} {cs : Scope} {a : Addr} {ccd : Value} {cl : List (Str × Addr)} {outer : List Env} {A₀ : Around} {base h₀ : Heap} {L : Addr} {m : Str → Option Value} {s : Shared} {Q E : Value → Shared → Prop}
    {hd c : Addr} {o : Obj} {vs : List Value} {ns : List Int} {nc : Nat} {lim : Int} {tl : Tok} {news : List (Addr × Obj)}
    (B : Below A₀ base outer h₀) (F : Fr h₀ L s.heap m) (X : K.In h₀) (N : News h₀ L s.heap news) (T : Top p loose mean mg mb h₀) (hO : HandOk c ns.length o) (hI : IntsAre vs ns) (hl : ns.length ≤ 63)
    (hm : (hd, o) ∈ news) (hc : (c, PySem.W.listOf vs.toArray nc) ∈ news) (hne : @Ne Nat c hd) (hk : cs.kind = .function) (l0 : 0 < lim) (l1 : lim ≤ 256) (hdp : dp + 1 < recursionLimit) (hun : un + 8 < cLine)
    (k : ∀ (v : Int) (t : Tok) (o' : Obj) (h' : Heap) (tk' : Nat), 0 ≤ v → v < lim → HandOk c ns.length o' → Fr h₀ L h' m → After h₀ L h' hd o o' news → Q (.int v t) { s with heap := h', toks := tk' }) :
    wpAny (model prog w) (ktrTop dp un gd cn cs L a ccd cl outer) (call (.ref f) [.ref hd, .int lim tl]) Q E s := by
  obtain ⟨ip, id, ir, tp, td, tr, nn, rfl, h1, h2, h3, h4, h5⟩ := hO
  refine C dp un gd cn cs a ccd cl outer A₀ base h₀ L m s Q E hd c vs ns nc ip id ir tp td tr nn lim tl (news.filter fun q => q.1 != hd) B F X ?_ ?_ hne hI hl T hk h1 h2 h3 h4 h5 l0 l1 hdp hun ?_
  · intro q hq
    rcases List.mem_cons.mp hq with rfl | hq
    · exact N _ hm
    · rcases List.mem_cons.mp hq with rfl | hq
      · exact N _ hc
      · exact N _ (List.mem_filter.mp hq).1
  · intro q hq
    have := (List.mem_filter.mp hq).2
    intro e
    rw [e] at this
    simp at this
  · intro v t o' h' tk' v0 v1 hO' F' N'
    refine k v t o' h' tk' v0 v1 hO' F' ?_
    intro news' U
    obtain ⟨pre, post, e, rfl, a1, a2⟩ := U.split
    have key : ∀ q ∈ news, q.1 ≠ hd → h'.get? q.1 = some q.2 ∧ q.1 ≠ L ∧ h₀.get? q.1 = none := fun q hq hn =>
      N' q (List.mem_cons_of_mem _ (List.mem_cons_of_mem _ (List.mem_filter.mpr ⟨hq, by simpa using hn⟩)))
    intro q hq
    rcases List.mem_append.mp hq with hq | hq
    · exact key q (by rw [e]; exact List.mem_append_left _ hq) (a1 q hq)
    · rcases List.mem_cons.mp hq with rfl | hq
      · exact N' _ List.mem_cons_self
      · exact key q (by rw [e]; exact List.mem_append_right _ (List.mem_cons_of_mem _ hq)) (a2 q hq)

theorem key_use {prog : Program} {w : World} {K : Frag} {p : Program} {loose : List Str} {mean : ExcName → Option Value} {mg mb : Str → Option Value} {f : Addr} (C : KeyClaim prog w K p loose mean mg mb f)
    {dp un : Nat} {gd : Option (List Code)} {cn : Str} {cs : Scope} {a : Addr} {ccd : Value} {cl : List (Str × Addr)} {outer : List Env} {A₀ : Around} {base h₀ : Heap} {L : Addr} {m : Str → Option Value} {s : Shared} {Q E : Value → Shared → Prop}
    {l : Addr} {vs : List Value} {ns : List Int} {nn : Nat} {news : List (Addr × Obj)}
    (B : Below A₀ base outer h₀) (F : Fr h₀ L s.heap m) (X : K.In h₀) (N : News h₀ L s.heap news) (T : Top p loose mean mg mb h₀)
    (hm : (l, PySem.W.listOf vs.toArray nn) ∈ news) (hI : IntsAre vs ns) (hl : ns.length ≤ 64) (hk : cs.kind = .function) (hdp : dp + 1 < recursionLimit) (hun : un + 8 < cLine)
    (k : ∀ (t : Tok) (h' : Heap) (tk' : Nat), Fr h₀ L h' m → News h₀ L h' news → Q (.int (keyOf ns) t) { s with heap := h', toks := tk' }) :
    wpAny (model prog w) (ktrTop dp un gd cn cs L a ccd cl outer) (call (.ref f) [.ref l]) Q E s :=
  C dp un gd cn cs a ccd cl outer A₀ base h₀ L m s Q E l vs ns nn news B F X (List.forall_mem_cons.mpr ⟨N _ hm, N⟩) hI hl T hk hdp hun
    (fun t h' tk' F' N' => k t h' tk' F' fun q hq => N' q (List.mem_cons_of_mem _ hq))
end Nu

namespace Nu
open LCg
/-- the element is one that draws: an «a if b else c», or a call with two arguments -/
def Picks (e : PySem.Expr) : Prop := (∃ a b c d, e = .IfExp a b c d) ∨ ∃ f x y k d, e = .Call f [x, y] k d
def HandTurn (hd : Addr) (o : Obj) (news : List (Addr × Obj)) (c : Addr) (len : Nat) (y : Value) (news' : List (Addr × Obj)) : Prop :=
  ∃ (o' : Obj) (v : Int) (t : Tok), Upd hd o o' news news' ∧ HandOk c len o' ∧ y = .int v t ∧ 0 ≤ v ∧ v < 256

theorem upd_unique {d : Addr} {o o' : Obj} : ∀ {l l1 l2 : List (Addr × Obj)}, Upd d o o' l l1 → Upd d o o' l l2 → l1 = l2
  | _, _, _, .head _, .head _ => rfl
  | _, _, _, .head _, .tail h _ => absurd rfl h
  | _, _, _, .tail h _, .head _ => absurd rfl h
  | _, _, _, .tail _ a, .tail _ b => by rw [upd_unique a b]
theorem upd_use {α : Type} {d : Addr} {o o' : Obj} {l l1 l2 : List (Addr × Obj)} {Fin : α → List (Addr × Obj) → Prop} {y : α} (a : Upd d o o' l l1) (b : Upd d o o' l l2) (k : Fin y l2) : Fin y l1 := by rw [upd_unique a b]; exact k
def Turned (h₀ : Heap) (L : Addr) (h : Heap) (I : Addr) (oI : Obj) (C : Addr) (oC : Obj) (D : Addr) (oD : Obj) (hd : Addr) (o o₁ : Obj) (news : List (Addr × Obj)) : Prop :=
  ∀ news₁, Upd hd o o₁ news news₁ → News h₀ L h ((I, oI) :: (C, oC) :: (D, oD) :: news₁) ∧ Off3 I C D news₁
theorem turn_use {P : Prop} {h₀ : Heap} {L : Addr} {h : Heap} {I : Addr} {oI : Obj} {C : Addr} {oC : Obj} {D : Addr} {oD : Obj} {hd : Addr} {o o₁ : Obj} {news news₁ : List (Addr × Obj)} (T : Turned h₀ L h I oI C oC D oD hd o o₁ news) (U : Upd hd o o₁ news news₁)
    (k : News h₀ L h ((I, oI) :: (C, oC) :: (D, oD) :: news₁) → Off3 I C D news₁ → P) : P := k (T _ U).1 (T _ U).2

theorem comp_hand {prog : Program} {w : World} {A : Around} {h₀ : Heap} {L : Addr} {m : Str → Option Value} {env : Env} {elt : Expr} {x : Str} {scope : Scope} {cl : List (Str × Addr)} {s : Shared} {P : Nat → Value → Prop}
    {Fin : List Value → List (Addr × Obj) → Prop} {n : Nat} {c : Addr} {len : Nat} {hd : Addr} {o : Obj} {news : List (Addr × Obj)} (hp : Picks elt) (hO : HandOk c len o) (hm : (hd, o) ∈ news) (U₀ : Upd hd o o news news)
    (turn : ∀ (o₁ : Obj) (v : Value) I oI C oC D m₂ ys h tk (E' : Value → Shared → Prop), HandOk c len o₁ → NsObj oC m₂ → m₂ x = some v → Fr h₀ L h m → Turned h₀ L h I oI C oC D (lst ys) hd o o₁ news → ((@Ne Nat I C) ∧ (@Ne Nat I D) ∧ (@Ne Nat C D)) →
      wpAny (model prog w) A (eval elt (compEnvC scope cl C env)) (CompEnd h₀ L m { s with heap := h, toks := tk } I oI C oC D (lst ys) (fun _ => True) (fun y news' => HandTurn hd o news c len y news')) E' { s with heap := h, toks := tk })
    (fin : ∀ (ys : List Value) (ns1 : List Int) (o₁ : Obj) (news₁ : List (Addr × Obj)), HandOk c len o₁ → IntsAre ys ns1 → ns1.length = n → (∀ z ∈ ns1, 0 ≤ z ∧ z < 256) → Upd hd o o₁ news news₁ → Fin ys news₁) :
    CompRest prog w A h₀ L m env elt x scope cl s (fun _ => True) P Fin n 0 [] news := by
  have key : ∀ (j i : Nat) (ys : List Value) (ns1 : List Int) (o₁ : Obj) (news₁ : List (Addr × Obj)), i + j = n → ns1.length = i → IntsAre ys ns1 → (∀ z ∈ ns1, 0 ≤ z ∧ z < 256) → HandOk c len o₁ → Upd hd o o₁ news news₁ →
      CompRest prog w A h₀ L m env elt x scope cl s (fun _ => True) P Fin j i ys news₁ := by
    intro j
    induction j with
    | zero =>
      intro i ys ns1 o₁ news₁ hi hl hy hz hO₁ hU
      exact CompRest.zero (fin ys ns1 o₁ news₁ hO₁ hy (by omega) hz hU)
    | succ j ih =>
      intro i ys ns1 o₁ news₁ hi hl hy hz hO₁ hU
      refine CompRest.succ ?_
      intro v I oI C oC D m₂ h tk E' hv hC hx F N off ne
      refine wpAny_mono (turn o₁ v I oI C oC D m₂ ys h tk E' hO₁ hC hx F (fun n' u => by rw [upd_unique u hU]; exact ⟨N, off⟩) ne) (fun y s₂ hq => ?_) fun _ _ e => e
      obtain ⟨h', tk', nw, e, F', N', off', hS', o₂, u, t, hU₂, hO₂, rfl, u0, u1⟩ := hq
      refine ⟨h', tk', nw, e, F', N', off', hS', ?_⟩
      refine ih (i + 1) _ (ns1 ++ [u]) o₂ nw (by omega) (by simp [hl]) (by simpa using IntsAre.append hy (.cons u t .nil)) ?_ hO₂ hU₂
      intro z hm
      rcases List.mem_append.mp hm with hm | hm
      · exact hz z hm
      · rw [List.mem_singleton.mp hm]; exact ⟨u0, u1⟩
  exact key n 0 [] [] o news (by omega) rfl .nil (fun z hm => nomatch hm) hO U₀

theorem hand_turn_end {h₀ : Heap} {L I C D : Addr} {m : Str → Option Value} {s₁ : Shared} {oI oC oD : Obj} {hd c : Addr} {o o' : Obj} {len : Nat} {h' : Heap} {tk : Nat} {all news news' : List (Addr × Obj)} {v : Int} {t : Tok}
    (F : Fr h₀ L h' m) (N : News h₀ L h' all) (hO : HandOk c len o') (U : Upd hd o o' news news') (sub : ∀ p ∈ (I, oI) :: (C, oC) :: (D, oD) :: news', p ∈ all) (off : Off3 I C D news') (v0 : 0 ≤ v) (v1 : v < 256) :
    CompEnd h₀ L m s₁ I oI C oC D oD (fun _ => True) (fun y news' => HandTurn hd o news c len y news') (.int v t) { s₁ with heap := h', toks := tk } :=
  CompEnd.intro F N news' sub off trivial ⟨o', v, t, U, hO, rfl, v0, v1⟩
end Nu

namespace Nu
theorem hand_start (c : Addr) (len : Nat) (S : Int) (t1 t2 t3 : Tok) (nn : Nat) : HandOk c len (PySem.W.listOf #[Value.ref c, Value.int 0 t1, Value.int 0 t2, Value.int (S.fmod 100003 * 7) t3] nn) := by
  have h0 := Int.fmod_nonneg_of_pos S (b := 100003) (by decide)
  have h1 := Int.fmod_lt_of_pos S (b := 100003) (by decide)
  exact ⟨_, _, _, _, _, _, _, rfl, by omega, by omega, by omega, by omega, by omega⟩
end Nu

namespace Nu
theorem menu3 {v : Int} (h0 : 0 ≤ v) (h1 : v < 3) : 0 ≤ ([0, 1, 255] : List Int).getD v.toNat 0 ∧ ([0, 1, 255] : List Int).getD v.toNat 0 < 256 := by
  have : v = 0 ∨ v = 1 ∨ v = 2 := by omega
  rcases this with rfl | rfl | rfl <;> decide
end Nu

namespace Nu
open LCg
def Mid (h₀ : Heap) (L : Addr) (s₀ : Shared) (D1 : Addr) (ys1 : List Value) (C1 : Addr) (o1 : Obj) (f : Flow) (s' : Shared) : Prop :=
  f = .next ∧ ∃ (h' : Heap) (tk' : Nat) (T : Addr) (ys2 : List Value) (ns2 : List Int) (n2 : Nat) (u : Str → Option Value), s' = { s₀ with heap := h', toks := tk' } ∧
    Fr h₀ L h' (fun y => if y = Str.ofString "two" then some (.ref T) else u y) ∧ News h₀ L h' [(T, PySem.W.listOf ys2.toArray n2), (D1, lst ys1), (C1, o1)] ∧ IntsAre ys2 ns2 ∧ ns2.length ≤ 64 ∧ ∀ z ∈ ns2, 0 ≤ z ∧ z < 256
theorem cut {M : Model} {A : Around} {E : Value → Shared → Prop} {s : Shared} {t : Sem Flow} {Q : Flow → Shared → Prop} {h₀ : Heap} {L : Addr} {m : Str → Option Value} {news : List (Addr × Obj)} {D1 : Addr} {ys1 : List Value} {C1 : Addr} {o1 : Obj}
    (F : Fr h₀ L s.heap m) (N : News h₀ L s.heap news) (hd : o1.data = .cell (some (.ref D1))) (h1 : (D1, lst ys1) ∈ news) (h2 : (C1, o1) ∈ news)
    (first : wpAny M A t (Mid h₀ L s D1 ys1 C1 o1) E s) (second : ∀ f s', Mid h₀ L s D1 ys1 C1 o1 f s' → Q f s') : wpAny M A t Q E s := wpAny_mono first second fun _ _ e => e
theorem mid_intro {h₀ : Heap} {L : Addr} {s₀ : Shared} {D1 : Addr} {ys1 : List Value} {C1 : Addr} {o1 : Obj} {h' : Heap} {tk' : Nat} {m' : Str → Option Value} {news : List (Addr × Obj)} {T : Addr} {ys2 : List Value} {ns2 : List Int} {n2 : Nat}
    (F : Fr h₀ L h' m') (N : News h₀ L h' news) (hm : m' (Str.ofString "two") = some (.ref T)) (hT : (T, PySem.W.listOf ys2.toArray n2) ∈ news) (h1 : (D1, lst ys1) ∈ news) (h2 : (C1, o1) ∈ news)
    (hi : IntsAre ys2 ns2) (hl : ns2.length ≤ 64) (hz : ∀ z ∈ ns2, 0 ≤ z ∧ z < 256) : Mid h₀ L s₀ D1 ys1 C1 o1 .next { s₀ with heap := h', toks := tk' } := by
  refine ⟨rfl, h', tk', T, ys2, ns2, n2, m', rfl, ?_, ?_, hi, hl, hz⟩
  · have e : (fun y => if y = Str.ofString "two" then some (.ref T) else m' y) = m' := by
      funext y
      by_cases hy : y = Str.ofString "two"
      · rw [if_pos hy, hy, hm]
      · rw [if_neg hy]
    rw [e]; exact F
  · intro p hp
    rcases List.mem_cons.mp hp with rfl | hp
    · exact N _ hT
    · rcases List.mem_cons.mp hp with rfl | hp
      · exact N _ h1
      · rcases List.mem_cons.mp hp with rfl | hp
        · exact N _ h2
        · cases hp

def insI (l : List Int) (x : Int) (y : Int) : List Int :=
  l.take (if x < 0 then (x + (l.length : Int)).toNat else min x.toNat l.length) ++ y :: l.drop (if x < 0 then (x + (l.length : Int)).toNat else min x.toNat l.length)
theorem ints_take {vs : List Value} {ns : List Int} (h : IntsAre vs ns) : ∀ k : Nat, IntsAre (vs.take k) (ns.take k) := by
  induction h with
  | nil => intro k; simp only [List.take_nil]; exact .nil
  | cons n t _ ih => intro k; cases k with
    | zero => exact .nil
    | succ k => exact .cons n t (ih k)
theorem ints_drop {vs : List Value} {ns : List Int} (h : IntsAre vs ns) : ∀ k : Nat, IntsAre (vs.drop k) (ns.drop k) := by
  induction h with
  | nil => intro k; simp only [List.drop_nil]; exact .nil
  | cons n t h ih => intro k; cases k with
    | zero => exact .cons n t h
    | succ k => exact ih k
theorem ints_ins {vs : List Value} {ns : List Int} (h : IntsAre vs ns) (x y : Int) (t : Tok) : IntsAre (kl_ins vs x (.int y t)) (insI ns x y) := by
  unfold kl_ins insI
  rw [h.length]
  exact IntsAre.append (ints_take h _) (.cons y t (ints_drop h _))
theorem insI_length (l : List Int) (x y : Int) : (insI l x y).length = l.length + 1 := by
  unfold insI
  rw [List.length_append, List.length_cons, List.length_take, List.length_drop]
  omega
/-- every item is a byte -/
abbrev Bytes (ns : List Int) : Prop := ∀ z ∈ ns, 0 ≤ z ∧ z < 256
theorem b_take {ns : List Int} (h : Bytes ns) (k : Nat) : Bytes (ns.take k) := fun z hz => h z (List.mem_of_mem_take hz)
theorem b_drop {ns : List Int} (h : Bytes ns) (k : Nat) : Bytes (ns.drop k) := fun z hz => h z (List.mem_of_mem_drop hz)
theorem b_app {a b : List Int} (ha : Bytes a) (hb : Bytes b) : Bytes (a ++ b) := fun z hz => (List.mem_append.mp hz).elim (ha z) (hb z)
theorem b_cons {n : Int} {a : List Int} (h0 : 0 ≤ n) (h1 : n < 256) (ha : Bytes a) : Bytes (n :: a) := fun z hz => (List.mem_cons.mp hz).elim (fun e => e ▸ ⟨h0, h1⟩) (ha z)
theorem b_nil : Bytes [] := fun _ hz => nomatch hz
theorem b_set {ns : List Int} (h : Bytes ns) (i : Nat) {v : Int} (h0 : 0 ≤ v) (h1 : v < 256) : Bytes (ns.set i v) := fun z hz => (List.mem_or_eq_of_mem_set hz).elim (h z) fun e => e ▸ ⟨h0, h1⟩
theorem b_getD {ns : List Int} (h : Bytes ns) (i : Nat) : 0 ≤ ns.getD i 0 ∧ ns.getD i 0 < 256 := by
  rw [List.getD_eq_getElem?_getD]
  cases e : ns[i]? with
  | none => simp
  | some v => exact h v (List.mem_of_getElem? e)
theorem b_ins {ns : List Int} (h : Bytes ns) (x : Int) {y : Int} (h0 : 0 ≤ y) (h1 : y < 256) : Bytes (insI ns x y) := b_app (b_take h _) (b_cons h0 h1 (b_drop h _))
theorem fits_of {x : Int} (h0 : 0 ≤ x) (h1 : x < 1000) : Builtin.List.listFitsIndex x = true := by
  unfold Builtin.List.listFitsIndex
  simp only [Bool.and_eq_true, decide_eq_true_eq]
  omega
end Nu

namespace Nu
/-- the key of the row read from its end -/
def keyR (l : List Int) : Int := l.foldr (fun v k => k * 257 + v + 1) 0
theorem keyR_nil : keyR [] = 0 := rfl
theorem keyR_cons (v : Int) (l : List Int) : keyR (v :: l) = keyR l * 257 + v + 1 := rfl
theorem keyFrom_snoc (a : List Int) (v : Int) : ∀ k, keyFrom k (a ++ [v]) = keyFrom k a * 257 + v + 1 := by
  induction a with
  | nil => intro k; rfl
  | cons n r ih => intro k; exact ih _
theorem keyOf_rev : ∀ l : List Int, keyOf l.reverse = keyR l
  | [] => rfl
  | v :: l => by rw [List.reverse_cons, keyOf, keyFrom_snoc]; show keyOf l.reverse * 257 + v + 1 = _; rw [keyOf_rev l]; rfl
theorem keyR_nonneg : ∀ {l : List Int}, Bytes l → 0 ≤ keyR l
  | [], _ => Int.le_refl _
  | v :: l, h => by
    have h1 := keyR_nonneg (l := l) fun z hz => h z (List.mem_cons_of_mem _ hz)
    have h2 := h v List.mem_cons_self
    rw [keyR_cons]; omega
theorem keyR_inj : ∀ {a b : List Int}, Bytes a → Bytes b → keyR a = keyR b → a = b
  | [], [], _, _, _ => rfl
  | [], v :: l, _, h, e => by
    have h1 := keyR_nonneg (l := l) fun z hz => h z (List.mem_cons_of_mem _ hz)
    have h2 := h v List.mem_cons_self
    simp only [keyR_nil, keyR_cons] at e; omega
  | v :: l, [], h, _, e => by
    have h1 := keyR_nonneg (l := l) fun z hz => h z (List.mem_cons_of_mem _ hz)
    have h2 := h v List.mem_cons_self
    simp only [keyR_nil, keyR_cons] at e; omega
  | v :: l, u :: r, ha, hb, e => by
    have h1 := ha v List.mem_cons_self
    have h2 := hb u List.mem_cons_self
    simp only [keyR_cons] at e
    have hv : v = u := by omega
    have hr : keyR l = keyR r := by omega
    rw [hv, keyR_inj (fun z hz => ha z (List.mem_cons_of_mem _ hz)) (fun z hz => hb z (List.mem_cons_of_mem _ hz)) hr]
theorem key_inj {a b : List Int} (ha : Bytes a) (hb : Bytes b) (e : keyOf a = keyOf b) : a = b := by
  have h := keyR_inj (a := a.reverse) (b := b.reverse) (fun z hz => ha z (List.mem_reverse.mp hz)) (fun z hz => hb z (List.mem_reverse.mp hz)) (by rw [← keyOf_rev, ← keyOf_rev, List.reverse_reverse, List.reverse_reverse]; exact e)
  exact List.reverse_inj.mp h
theorem same_end {a b : List Int} (ha : Bytes a) (hb : Bytes b) : ((keyOf a == keyOf b) != decide (a = b)) = false := by
  by_cases h : a = b
  · subst h; simp
  · have h' : keyOf a ≠ keyOf b := fun e => h (key_inj ha hb e)
    simp [h, h']
theorem none_end {ns : List Int} {g : Int → Int} {n : Nat} (hb : Bytes ns) (hn : n = ns.length) (hg : ∀ k : Int, 0 ≤ k → k < (ns.length : Int) → g k = keyOf (ns.take k.toNat)) :
    (!((List.map g (rangeKs 0 n)).any fun x => x == keyOf ns)) = true := by
  rw [Bool.not_eq_true', List.any_eq_false]
  intro x hx
  obtain ⟨k, hk, rfl⟩ := List.mem_map.mp hx
  have h0 := (mem_rangeKs hk).1
  have h1 := (mem_rangeKs hk).2
  rw [hg k h0 (by omega)]
  intro e
  have e1 := key_inj (b_take hb _) hb (beq_iff_eq.mp e)
  have e2 := congrArg List.length e1
  rw [List.length_take] at e2
  omega
theorem good_true {P : Value → Prop} {x : Bool} (e : x = true) (k : P (.bool true)) : P (.bool x) := by rw [e]; exact k
end Nu

namespace Nu
/-- the two contracts, proved once, then used throughout the walk -/
theorem with_both {prog : Program} {w : World} {K : Frag} {p : Program} {loose : List Str} {mean : ExcName → Option Value} {mg mb : Str → Option Value} {h : Heap} {A : Around} {t : Sem Flow} {Q : Flow → Shared → Prop} {E : Value → Shared → Prop} {s : Shared}
    (X : K.In h) (T : Top p loose mean mg mb h) (pk : PickClaim prog w K p loose mean mg mb 28) (ky : KeyClaim prog w K p loose mean mg mb 21)
    (k : PickClaim prog w K p loose mean mg mb 28 → KeyClaim prog w K p loose mean mg mb 21 → wpAny (model prog w) A t Q E s) : wpAny (model prog w) A t Q E s := k pk ky
end Nu

local macro_rules | `(tactic| k_all) => `(tactic| assumption)
local macro_rules | `(tactic| walk_at "call ref") => `(tactic| (k_here; (with_reducible show wpAny _ _ (PySem.call (Value.ref 28) _) _ _ _); k_dflt (refine' Nu.pick_use ?C ?B ?F ?X ?N ?T ?O ?I ?l ?m ?c ?ne ?k ?l0 ?l1 ?dp ?un ?_; (case C => assumption); (case B => k_asm); (case F => k_asm); (case X => k_asm); (case N => k_asm); (case T => k_asm); (case m => k_mem); (case O => first | assumption | exact Nu.hand_start _ _ _ _ _ _ _); (case I => assumption); (case l => omega); (case c => k_mem); (case ne => omega); (case k => first | exact rfl | assumption); (case l0 => first | decide | omega | l_fact); (case l1 => first | decide | omega | l_fact); (case dp => ktr_room); (case un => ktr_units); k_whole); intro v9 t9 o9 h9 tk9 hv0 hv1 hO9 F9 N9; (refine' Nu.after_use N9 ?U ?_; (case U => k_upd)); clear N9; intro N9; (try dsimp only); (try k_sweep); (try k_fold)))
local macro_rules | `(tactic| walk_at "call ref") => `(tactic| (k_here; (with_reducible show wpAny _ _ (PySem.call (Value.ref 21) _) _ _ _); k_dflt (refine' Nu.key_use ?C ?B ?F ?X ?N ?T ?m ?I ?l ?k ?dp ?un ?_; (case C => assumption); (case B => k_asm); (case F => k_asm); (case X => k_asm); (case N => k_asm); (case T => k_asm); (case m => k_mem); (case I => l_ints); (case l => l_fact); (case k => first | exact rfl | assumption); (case dp => ktr_room); (case un => ktr_units); k_whole); intro t9 h9 tk9 F9 N9; (try dsimp only); (try k_sweep); (try k_fold)))
local macro_rules | `(tactic| walk_at "CompSrc") => `(tactic| (k_here; (try kcf_lens); k_dflt (refine LCg.CompSrc.range (by rfl) (by k_asm) (by k_asm) (by assumption) (by first | exact small_one (by kcf_bnd) (by kcf_bnd) (by kcf_bnd) (by kcf_bnd) | decide) (by first | exact rangeSize_nat _ _ | rfl) (by first | (rw [PySem.sizeLine_eq]; first | omega | ((simp only [List.size_toArray]); omega)) | size_fits) ?_; intro g'; (with_reducible rename Nu.HandOk _ _ _ => hO1); focus ((refine' Nu.comp_hand ?hp hO1 ?hm ?U (fun o1' v1' I' oI' C' oC' D' m' ys' h' tk' E' hO' hC' hx' F' T' ne' => ?_) (fun ys' ns1' o1' nw' hO' hy' hl' hz' hU' => ?_)); (case hp => first | exact Or.inl ⟨_, _, _, _, rfl⟩ | exact Or.inr ⟨_, _, _, _, _, rfl⟩); (case hm => k_mem); (case U => k_upd); (all_goals (first | ((refine' Nu.turn_use T' ?U ?_; (case U => k_upd)); intro N' off'; clear T'; (simp only [LCg.Off3, and_true] at off'); (try k_fold)) | ((refine' Nu.upd_use hU' ?U ?_; (case U => k_upd)); clear hU')))))))
local macro_rules | `(tactic| walk_at "CompEnd") => `(tactic| (refine' Nu.hand_turn_end ?F ?N ?O ?U ?sub ?off ?v0 ?v1; (case F => assumption); (case N => assumption); (case O => assumption); (case U => k_upd); (case sub => first | lcg_sub | kcf_all); (case off => first | lcg_off | (simp only [LCg.Off3, and_true]; assumption)); (case v0 => first | omega | decide | exact (Nu.menu3 (by assumption) (by assumption)).1); (case v1 => first | omega | decide | exact (Nu.menu3 (by assumption) (by assumption)).2)))
local macro_rules | `(tactic| walk_at "exec If") => `(tactic| (k_here; (with_reducible show wpAny _ _ (exec (Stmt.If (Expr.BoolOp BoolOp.And [Expr.Compare _ _ [Expr.Constant (Const.int 1) _ _] _, _] _) _ _ _) _) _ _ _); k_dflt (refine' Nu.cut ?F ?N ?hd ?h1 ?h2 ?ways ?join; (case F => k_asm); (case N => k_asm); (case hd => k_asm); (case h1 => k_mem); (case h2 => k_mem)); (case' join => (intro f8 s8 hM8; k_dflt (obtain ⟨e8, h8, tk8, T8, ys8, ns8, n8, u8, e9, F8, N8, hy8, hl8, hz8⟩ := hM8; subst e8; subst e9); (try k_unfold); (try dsimp only); (try k_sweep); (try k_fold))); (case' ways => (try k_fold))))
local macro_rules | `(tactic| walk_at "call builtin:list.insert") => `(tactic| (k_here; (with_reducible show wpAny _ _ (call (Value.builtin _) [Value.ref _, Value.int _ _, Value.int _ _]) _ _ _); k_dflt (refine' kl_insert ?F ?N ?f ?e ?U ?z ?_; (case F => k_asm); (case N => k_asm); (case e => exact rfl); (case U => k_upd); (case f => exact Nu.fits_of (by omega) (by omega)); (case z => ((simp only [List.toList_toArray]); rw [PySem.sizeLine_eq]; have hLy := IntsAre.length (by assumption); omega))); intro h' F' N'; (try dsimp only); (try k_sweep)))
local macro_rules | `(tactic| walk_at "ite") => `(tactic| (k_here; k_openite; first
  | (refine ite_pos (by (simp only [beq_iff_eq, decide_eq_true_eq]; omega)) ?_)
  | (refine ite_neg (by (simp only [beq_iff_eq, decide_eq_true_eq]; omega)) ?_)))
local macro_rules | `(tactic| walk_at "ite") => `(tactic| (k_here; (refine ite_isFalse (Nu.same_end (by assumption) (by assumption)) ?_)))
local macro_rules | `(tactic| walk_at "Mid") => `(tactic| (k_dflt (refine' Nu.mid_intro ?F ?N ?m ?T ?h1 ?h2 ?i ?l ?z; (case F => k_asm); (case N => k_asm); (case m => rfl); (case T => k_mem); (case h1 => k_mem); (case h2 => k_mem)); (case i => first | assumption | exact Nu.ints_ins (by assumption) _ _ _ | l_ints); (case l => ((try simp only [List.length_set, Nu.insI_length, List.length_append, List.length_cons, List.length_take, List.length_drop, List.length_nil] at *); omega)); (case z => repeat' (first | assumption | refine Nu.b_set ?_ _ ?_ ?_ | refine Nu.b_ins ?_ _ ?_ ?_ | refine Nu.b_app ?_ ?_ | refine Nu.b_take ?_ _ | refine Nu.b_drop ?_ _ | exact Nu.b_nil | refine Nu.b_cons ?_ ?_ ?_ | decide | omega | exact (Nu.b_getD (by assumption) _).1 | exact (Nu.b_getD (by assumption) _).2))))
set_option maxRecDepth 100000 in
set_option maxHeartbeats 20000000 in
theorem PySem.Challenge.cw_nu0310_01_holds : PySem.Challenge.rw_nu0310_01.Holds := by
  w_on
  o_law
  k_head
  (case hw => w_witness2)
  w_strict (
    k_go0
    (with_reducible rename Frag.In _ _ => KX9)
    (with_reducible rename Top _ _ _ _ _ _ => TX9)
    refine' Nu.with_both KX9 TX9 ?nuPick ?nuKey ?nuWalk
    case nuPick =>
      unfold Nu.PickClaim
      intro dp un gd cn cs a ccd cl outer A₀ base h₀ L m s Q E hd c vs ns nc ip id ir tp td tr nn lim tl rest B0 F0 X0 N0 hoff hc hI hlen T0 hk h1 h2 h3 h4 h5 h6 h7 hdp hun hret
      refine wpAny_call ?_
      k_dflt cell_enter
      k_steps
      all_goals (refine hret _ _ _ _ _ (Int.fmod_nonneg_of_pos _ h6) (Int.fmod_lt_of_pos _ h6) ⟨_, _, _, _, _, _, _, rfl, ?_, ?_, ?_, ?_, ?_⟩ (by assumption) (by assumption))
      all_goals (first | omega | exact Int.fmod_nonneg_of_pos _ (by decide) | exact Int.fmod_lt_of_pos _ (by decide) | (refine Int.fdiv_nonneg ?_ ?_ <;> omega))
    case nuKey =>
      unfold Nu.KeyClaim
      intro dp un gd cn cs a ccd cl outer A₀ base h₀ L m s Q E l vs ns nn rest B0 F0 X0 N0 hI hlen T0 hk hdp hun hret
      refine wpAny_call ?_
      k_dflt cell_enter
      k_steps
      all_goals (refine Nu.key_end hret ?_ ?_ <;> assumption)
    case nuWalk =>
      intro P9 K9
      (try k_fold)
      k_steps
      refine' Nu.good_true (P := fun v => GoodW _ _ _ _ _ (.ok (.ret v)) _) ?nuTrue ?_
      case nuTrue => exact Nu.none_end (by assumption) (by omega) (fun k h0 h1 => if_pos ⟨by rw [List.length_take], by rw [List.length_take]; omega⟩)
      wrow_close)
