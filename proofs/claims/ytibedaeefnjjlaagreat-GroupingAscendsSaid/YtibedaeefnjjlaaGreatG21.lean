/- Texts of the second layer in one: Rc. -/
import Derived.Test.YtibedaeefnjjlaaGreatG5
set_option maxRecDepth 100000
set_option linter.unusedVariables false
set_option linter.unusedSimpArgs false
namespace Go.Proofs.YtibedaeefnjjlaaGreat
open Go.RowKit Go.Ab
theorem ret2cc {post : List (Option Blk)} {P : Program} {L : Ln} {fn : Func} {S : St} {r s : AV} {cs ds : List AV} {p q ty ty' i j n n' : Nat} {T T' : TypeId} {F F' : List Nat} [hT : AgT P ty n] [hT' : AgT P ty' n'] (G : List Nat) (hrt : Rt (getH S.H) L.n G (.ag cs) r F) (hrs : Rt (getH S.H) L.n G (.ag ds) s F') (hres : fn.results = #[.cell p ty, .cell q ty']) (hp : get S.env p = .pt i 0) (hi : getH S.H i = some (.var T cs)) (hl : cs.length = n) (hq : get S.env q = .pt j 0) (hj : getH S.H j = some (.var T' ds)) (hl' : ds.length = n')
  (hpo : ∀ i b, (i, some b) ∈ numdP 0 post → getH S.H i = some b ∧ b.ids = []) (hn : retNums L (F ++ (F' ++ [])) G = true) : (Exit.ret = .normal ∨ Exit.ret = .ret) ∧ RetOk P L fn S (.tu [r, s]) post := by
 obtain ⟨d, h1, h2⟩ := hT.und
 obtain ⟨d', h3, h4⟩ := hT'.und
 refine ⟨.inr rfl, ⟨⟨.tu [.ag cs, .ag ds], _, G, .two _ _ _ _ hres (.agg _ _ _ _ _ _ hp hi h1 h2 ?_) (.agg _ _ _ _ _ _ hq hj h3 h4 ?_), .tu _ _ _ (.cons _ _ _ _ _ _ hrt (.cons _ _ _ _ _ _ hrs .nil)), hn⟩, hpo⟩⟩
 ·rw [hT.size, hl]
 ·rw [hT'.size, hl']
theorem ret3cc {post : List (Option Blk)} {P : Program} {L : Ln} {fn : Func} {S : St} {r s t z : AV} {cs ds : List AV} {p q u ty ty' i j n n' : Nat} {T T' : TypeId} {F F' F'' : List Nat} [hT : AgT P ty n] [hT' : AgT P ty' n'] (G : List Nat) (hrt : Rt (getH S.H) L.n G (.ag cs) r F) (hrs : Rt (getH S.H) L.n G (.ag ds) s F') (hrq : Rt (getH S.H) L.n G z t F'') (hres : fn.results = #[.cell p ty, .cell q ty', .tmp u]) (hp : get S.env p = .pt i 0) (hi : getH S.H i = some (.var T cs)) (hl : cs.length = n) (hq : get S.env q = .pt j 0) (hj : getH S.H j = some (.var T' ds)) (hl' : ds.length = n') (hz : get S.env u = z)
  (hpo : ∀ i b, (i, some b) ∈ numdP 0 post → getH S.H i = some b ∧ b.ids = []) (hn : retNums L (F ++ (F' ++ (F'' ++ []))) G = true) : (Exit.ret = .normal ∨ Exit.ret = .ret) ∧ RetOk P L fn S (.tu [r, s, t]) post := by
 obtain ⟨d, h1, h2⟩ := hT.und
 obtain ⟨d', h3, h4⟩ := hT'.und
 refine ⟨.inr rfl, ⟨⟨.tu [.ag cs, .ag ds, z], _, G, .three _ _ _ _ _ _ hres (.agg _ _ _ _ _ _ hp hi h1 h2 ?_) (.agg _ _ _ _ _ _ hq hj h3 h4 ?_) (.tmp _ _ hz), .tu _ _ _ (.cons _ _ _ _ _ _ hrt (.cons _ _ _ _ _ _ hrs (.cons _ _ _ _ _ _ hrq .nil))), hn⟩, hpo⟩⟩
 ·rw [hT.size, hl]
 ·rw [hT'.size, hl']
end Go.Proofs.YtibedaeefnjjlaaGreat
