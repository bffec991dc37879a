/- Walks of sources: the document's rule, era: all ways. -/
import Derived.Test.YtdhbgelijjlifaaGreatDoorSrcDocB
import Derived.Test.YtdhbgelijjlifaaGreatDoorSrcDocD
import Derived.Test.YtdhbgelijjlifaaGreatDoorSrcDocE0A
import Derived.Test.YtdhbgelijjlifaaGreatDoorSrcDocE0B
import Derived.Test.YtdhbgelijjlifaaGreatDoorSrcDocE0C
import Derived.Test.YtdhbgelijjlifaaGreatDoorSrcDocE2A
import Derived.Test.YtdhbgelijjlifaaGreatDoorSrcDocE2B
import Derived.Test.YtdhbgelijjlifaaGreatDoorSrcDocE2C
set_option linter.unusedVariables false
set_option linter.unusedSimpArgs false
namespace Go.Proofs.YtdhbgelijjlifaaGreatDoor
open Go.RowKit Go.Shelf
theorem drule_all (ws : List Src.Wd) (line : Int) (v : Value) (w : World) (hr : Reads w v ws.length (wordCells ws)) (hn10 : ws.length = 10) (hs : ∀ x ∈ ws, x.1.size ≤ 1000) :
 Calls Tryz.prog 55 #[v, .int .i64 line] w (RuleEnd w (Src.ruleP ws line)) := by
 rcases lit_cases (Src.tx ws 3) ⟨#[111, 110, 108, 121]⟩ [111, 110, 108, 121] (by decide +kernel) with ⟨t1, t2, t3⟩ | ⟨t1, t2, t3⟩
 · exact drule_only ws line v w hr hn10 hs t1 t2 (by rw [t3]; decide +kernel) (by rw [t3]; decide +kernel) (by unfold Src.toP; rw [if_pos (by unfold Src.tl; rw [t3])])
 · have n3 : ¬ Src.tl ws 3 = [111, 110, 108, 121] := t3
   rcases lit_cases (Src.tx ws 3) ⟨#[109, 97, 120]⟩ [109, 97, 120] (by decide +kernel) with ⟨t4, t5, t6⟩ | ⟨t4, t5, t6⟩
   · exact drule_max ws line v w hr hn10 hs t1 t2 t4 t5 (by unfold Src.toP; rw [if_neg n3, if_pos (by unfold Src.tl; rw [t6])])
   · exact drule_year ws line v w hr hn10 hs t1 t2 t4 t5 (by unfold Src.toP; rw [if_neg n3, if_neg (show ¬ Src.tl ws 3 = [109, 97, 120] from t6)])
theorem dera0_all (ws : List Src.Wd) (line : Int) (v : Value) (w : World) (hr : Reads w v ws.length (wordCells ws)) (hlo : 3 ≤ ws.length) (hhi : ws.length ≤ 7) (hs : ∀ x ∈ ws, x.1.size ≤ 1000) :
 Calls Tryz.prog 54 #[v, .int .i64 0, .int .i64 line] w (EraEnd w (Src.eraP ws 0 line)) := by
 rcases lit_cases (Src.tx ws 1) ⟨#[45]⟩ [45] (by decide +kernel) with ⟨t1, t2, t3⟩ | ⟨t1, t2, t3⟩
 · exact dera0_dash ws line v w hr hlo hhi hs t1 t2 (by unfold Src.tl; rw [t3])
 · cases hop : Src.opensB (Src.tl ws 1)
   · exact dera0_off ws line v w hr hlo hhi hs t1 t2 t3 hop
   · exact dera0_set ws line v w hr hlo hhi hs t1 t2 t3 hop
theorem dera2_all (ws : List Src.Wd) (line : Int) (v : Value) (w : World) (hr : Reads w v ws.length (wordCells ws)) (hlo : 5 ≤ ws.length) (hhi : ws.length ≤ 9) (hs : ∀ x ∈ ws, x.1.size ≤ 1000) :
 Calls Tryz.prog 54 #[v, .int .i64 2, .int .i64 line] w (EraEnd w (Src.eraP ws 2 line)) := by
 rcases lit_cases (Src.tx ws 3) ⟨#[45]⟩ [45] (by decide +kernel) with ⟨t1, t2, t3⟩ | ⟨t1, t2, t3⟩
 · exact dera2_dash ws line v w hr hlo hhi hs t1 t2 (by unfold Src.tl; rw [t3])
 · cases hop : Src.opensB (Src.tl ws 3)
   · exact dera2_off ws line v w hr hlo hhi hs t1 t2 t3 hop
   · exact dera2_set ws line v w hr hlo hhi hs t1 t2 t3 hop
end Go.Proofs.YtdhbgelijjlifaaGreatDoor
