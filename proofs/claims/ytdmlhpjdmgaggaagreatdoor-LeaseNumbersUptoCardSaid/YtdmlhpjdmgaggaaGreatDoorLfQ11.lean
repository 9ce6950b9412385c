/-
 The law CasRuns (chapter 10) over its formula.
-/
import Derived.Test.YtdmlhpjdmgaggaaGreatDoorLfGLCasRuns
import Derived.Test.YtdmlhpjdmgaggaaGreatDoorLfQ10
set_option linter.unusedVariables false
set_option linter.unusedSimpArgs false
set_option maxRecDepth 100000
set_option linter.unusedVariables false
set_option linter.unusedSimpArgs false
namespace Go.Lf.G
open Go
open M (Sorted Ag DR BJ Ai BD CV Ap OkL Ba atK Bc)
structure FU (h:Heap) (k:Nat→Nat) (s bm:Nat) (sm:Sl) (mp:List Pr) (n:Nat):Prop where
 cell:h[bm]? =some (.cells #[.slice sm.p sm.len sm.cap,.int .i64 (n:Int)] BG (0,0))
 kz:k bm=0
 view:View Ak h sm mp
 blk: ∀c,sm.blk=some c→k c=0∧c<h.size∧c≠bm∧c≠s
 ne:bm≠s
theorem FU.lt {h:Heap}{k:Nat→Nat}{s bm n:Nat}{sm:Sl}{mp:List Pr}(M:FU h k s bm sm mp n):bm<h.size:=Ah M.cell
theorem FU.step {h h':Heap}{k k':Nat→Nat}{s s' bm n:Nat}{sm:Sl}{mp:List Pr}{S:Nat→Prop}(M:FU h k s bm sm mp n)(md:Mod S h h')(hS: ∀c,S c→k c≠0∨h.size≤c∨c=s)(hk: ∀c,k' c≠0→k c≠0∨h.size≤c)(hs:s'=s∨h.size≤s'):FU h' k' s' bm sm mp n:=by
 have hl:=M.lt
 have sz:=md.size
 have nk: ∀c,k c=0→c<h.size→k' c=0:=fun c h1 h2=>Decidable.byContradiction fun h3=>by
  rcases hk c h3 with h4|h4
  ·exact h4 h1
  ·omega
 have ns: ∀c,k c=0→c<h.size→c≠s→ ¬S c:=fun c h1 h2 h5 h3=>by
  rcases hS c h3 with h4|h4|h4
  ·exact h4 h1
  ·omega
  ·exact h5 h4
 refine⟨md.blk M.cell (ns _ M.kz hl M.ne),nk _ M.kz hl,M.view.mod md fun c hc=>ns _ (M.blk c hc).1 (M.blk c hc).2.1 (M.blk c hc).2.2.2,fun c hc=>?_,?_⟩
 ·obtain⟨e1,e2,e3,e4⟩:=M.blk c hc
  refine⟨nk _ e1 e2,by omega,e3,?_⟩
  rcases hs with rfl|h
  ·exact e4
  ·omega
 ·rcases hs with rfl|h
  ·exact M.ne
  ·omega
theorem FU.ext {h h':Heap}{k:Nat→Nat}{s bm n:Nat}{sm:Sl}{mp:List Pr}(M:FU h k s bm sm mp n)(x:Ext h h'):FU h' k s bm sm mp n:=M.step x (fun _ h=>h.elim) (fun _ h=> .inl h) (.inl rfl)
theorem ALZ {m:List Pr}{most:Nat}(h:m.length≤most):AKu m ⟨#[]⟩ ⟨#[]⟩ (most:Int)=m:=by
 have e1:maxS ⟨#[]⟩ ⟨#[]⟩=⟨#[]⟩:=by unfold maxS;split<;>rfl
 have e2:L9 ⟨#[]⟩=⟨#[]⟩:=rfl
 rw[← AE5,e1,e2]
 exact AJG h
end Go.Lf.G

