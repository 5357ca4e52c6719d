/- The table of functions. -/
import Derived.Test.YtabhhckaclibaaaGreatTab1
import Derived.Test.YtabhhckaclibaaaGreatTab2
import Derived.Test.YtabhhckaclibaaaGreatTab3
import Derived.Test.YtabhhckaclibaaaGreatTab4
import Derived.Test.YtabhhckaclibaaaGreatTab5
import Derived.Test.YtabhhckaclibaaaGreatTab6
import Derived.Test.YtabhhckaclibaaaGreatTab7
set_option linter.all false
set_option maxRecDepth 100000
set_option maxHeartbeats 4000000
namespace Go.Proofs.YtabhhckaclibaaaGreat
open Go.Eng

def fnL (k : Nat) : Option AFn := (if k < 165 then (if k < 79 then (if k < 41 then (if k < 23 then (if k < 13 then (if k < 9 then (if k < 5 then (if k < 4 then (if k = 3 then some a3 else none) else (if k = 4 then some a4 else none)) else (if k < 8 then (if k = 5 then some a5 else none) else (if k = 8 then some a8 else none))) else (if k < 11 then (if k < 10 then (if k = 9 then some a9 else none) else (if k = 10 then some a10 else none)) else (if k < 12 then (if k = 11 then some a11 else none) else (if k = 12 then some a12 else none)))) else (if k < 17 then (if k < 15 then (if k < 14 then (if k = 13 then some a13 else none) else (if k = 14 then some a14 else none)) else (if k < 16 then (if k = 15 then some a15 else none) else (if k = 16 then some a16 else none))) else (if k < 19 then (if k < 18 then (if k = 17 then some a17 else none) else (if k = 18 then some a18 else none)) else (if k < 22 then (if k = 19 then some a19 else none) else (if k = 22 then some a22 else none))))) else (if k < 33 then (if k < 29 then (if k < 27 then (if k < 26 then (if k = 23 then some a23 else none) else (if k = 26 then some a26 else none)) else (if k < 28 then (if k = 27 then some a27 else none) else (if k = 28 then some a28 else none))) else (if k < 31 then (if k < 30 then (if k = 29 then some a29 else none) else (if k = 30 then some a30 else none)) else (if k < 32 then (if k = 31 then some a31 else none) else (if k = 32 then some a32 else none)))) else (if k < 37 then (if k < 35 then (if k < 34 then (if k = 33 then some a33 else none) else (if k = 34 then some a34 else none)) else (if k < 36 then (if k = 35 then some a35 else none) else (if k = 36 then some a36 else none))) else (if k < 39 then (if k < 38 then (if k = 37 then some a37 else none) else (if k = 38 then some a38 else none)) else (if k < 40 then (if k = 39 then some a39 else none) else (if k = 40 then some a40 else none)))))) else (if k < 57 then (if k < 49 then (if k < 45 then (if k < 43 then (if k < 42 then (if k = 41 then some a41 else none) else (if k = 42 then some a42 else none)) else (if k < 44 then (if k = 43 then some a43 else none) else (if k = 44 then some a44 else none))) else (if k < 47 then (if k < 46 then (if k = 45 then some a45 else none) else (if k = 46 then some a46 else none)) else (if k < 48 then (if k = 47 then some a47 else none) else (if k = 48 then some a48 else none)))) else (if k < 53 then (if k < 51 then (if k < 50 then (if k = 49 then some a49 else none) else (if k = 50 then some a50 else none)) else (if k < 52 then (if k = 51 then some a51 else none) else (if k = 52 then some a52 else none))) else (if k < 55 then (if k < 54 then (if k = 53 then some a53 else none) else (if k = 54 then some a54 else none)) else (if k < 56 then (if k = 55 then some a55 else none) else (if k = 56 then some a56 else none))))) else (if k < 65 then (if k < 61 then (if k < 59 then (if k < 58 then (if k = 57 then some a57 else none) else (if k = 58 then some a58 else none)) else (if k < 60 then (if k = 59 then some a59 else none) else (if k = 60 then some a60 else none))) else (if k < 63 then (if k < 62 then (if k = 61 then some a61 else none) else (if k = 62 then some a62 else none)) else (if k < 64 then (if k = 63 then some a63 else none) else (if k = 64 then some a64 else none)))) else (if k < 71 then (if k < 68 then (if k < 67 then (if k = 65 then some a65 else none) else (if k = 67 then some a67 else none)) else (if k < 69 then (if k = 68 then some a68 else none) else (if k = 69 then some a69 else none))) else (if k < 73 then (if k < 72 then (if k = 71 then some a71 else none) else (if k = 72 then some a72 else none)) else (if k < 77 then (if k = 73 then some a73 else none) else (if k < 78 then (if k = 77 then some a77 else none) else (if k = 78 then some a78 else none)))))))) else (if k < 113 then (if k < 96 then (if k < 88 then (if k < 83 then (if k < 81 then (if k < 80 then (if k = 79 then some a79 else none) else (if k = 80 then some a80 else none)) else (if k < 82 then (if k = 81 then some a81 else none) else (if k = 82 then some a82 else none))) else (if k < 85 then (if k < 84 then (if k = 83 then some a83 else none) else (if k = 84 then some a84 else none)) else (if k < 87 then (if k = 85 then some a85 else none) else (if k = 87 then some a87 else none)))) else (if k < 92 then (if k < 90 then (if k < 89 then (if k = 88 then some a88 else none) else (if k = 89 then some a89 else none)) else (if k < 91 then (if k = 90 then some a90 else none) else (if k = 91 then some a91 else none))) else (if k < 94 then (if k < 93 then (if k = 92 then some a92 else none) else (if k = 93 then some a93 else none)) else (if k < 95 then (if k = 94 then some a94 else none) else (if k = 95 then some a95 else none))))) else (if k < 105 then (if k < 100 then (if k < 98 then (if k < 97 then (if k = 96 then some a96 else none) else (if k = 97 then some a97 else none)) else (if k < 99 then (if k = 98 then some a98 else none) else (if k = 99 then some a99 else none))) else (if k < 103 then (if k < 102 then (if k = 100 then some a100 else none) else (if k = 102 then some a102 else none)) else (if k < 104 then (if k = 103 then some a103 else none) else (if k = 104 then some a104 else none)))) else (if k < 109 then (if k < 107 then (if k < 106 then (if k = 105 then some a105 else none) else (if k = 106 then some a106 else none)) else (if k < 108 then (if k = 107 then some a107 else none) else (if k = 108 then some a108 else none))) else (if k < 111 then (if k < 110 then (if k = 109 then some a109 else none) else (if k = 110 then some a110 else none)) else (if k < 112 then (if k = 111 then some a111 else none) else (if k = 112 then some a112 else none)))))) else (if k < 134 then (if k < 121 then (if k < 117 then (if k < 115 then (if k < 114 then (if k = 113 then some a113 else none) else (if k = 114 then some a114 else none)) else (if k < 116 then (if k = 115 then some a115 else none) else (if k = 116 then some a116 else none))) else (if k < 119 then (if k < 118 then (if k = 117 then some a117 else none) else (if k = 118 then some a118 else none)) else (if k < 120 then (if k = 119 then some a119 else none) else (if k = 120 then some a120 else none)))) else (if k < 126 then (if k < 124 then (if k < 122 then (if k = 121 then some a121 else none) else (if k = 122 then some a122 else none)) else (if k < 125 then (if k = 124 then some a124 else none) else (if k = 125 then some a125 else none))) else (if k < 128 then (if k < 127 then (if k = 126 then some a126 else none) else (if k = 127 then some a127 else none)) else (if k < 129 then (if k = 128 then some a128 else none) else (if k = 129 then some a129 else none))))) else (if k < 142 then (if k < 138 then (if k < 136 then (if k < 135 then (if k = 134 then some a134 else none) else (if k = 135 then some a135 else none)) else (if k < 137 then (if k = 136 then some a136 else none) else (if k = 137 then some a137 else none))) else (if k < 140 then (if k < 139 then (if k = 138 then some a138 else none) else (if k = 139 then some a139 else none)) else (if k < 141 then (if k = 140 then some a140 else none) else (if k = 141 then some a141 else none)))) else (if k < 152 then (if k < 145 then (if k < 144 then (if k = 142 then some a142 else none) else (if k = 144 then some a144 else none)) else (if k < 147 then (if k = 145 then some a145 else none) else (if k = 147 then some a147 else none))) else (if k < 159 then (if k < 155 then (if k = 152 then some a152 else none) else (if k = 155 then some a155 else none)) else (if k < 161 then (if k = 159 then some a159 else none) else (if k < 162 then (if k = 161 then some a161 else none) else (if k = 162 then some a162 else none))))))))) else (if k < 273 then (if k < 215 then (if k < 185 then (if k < 173 then (if k < 169 then (if k < 167 then (if k < 166 then (if k = 165 then some a165 else none) else (if k = 166 then some a166 else none)) else (if k < 168 then (if k = 167 then some a167 else none) else (if k = 168 then some a168 else none))) else (if k < 171 then (if k < 170 then (if k = 169 then some a169 else none) else (if k = 170 then some a170 else none)) else (if k < 172 then (if k = 171 then some a171 else none) else (if k = 172 then some a172 else none)))) else (if k < 178 then (if k < 175 then (if k < 174 then (if k = 173 then some a173 else none) else (if k = 174 then some a174 else none)) else (if k < 177 then (if k = 175 then some a175 else none) else (if k = 177 then some a177 else none))) else (if k < 181 then (if k < 180 then (if k = 178 then some a178 else none) else (if k = 180 then some a180 else none)) else (if k < 184 then (if k = 181 then some a181 else none) else (if k = 184 then some a184 else none))))) else (if k < 196 then (if k < 190 then (if k < 187 then (if k < 186 then (if k = 185 then some a185 else none) else (if k = 186 then some a186 else none)) else (if k < 189 then (if k = 187 then some a187 else none) else (if k = 189 then some a189 else none))) else (if k < 193 then (if k < 192 then (if k = 190 then some a190 else none) else (if k = 192 then some a192 else none)) else (if k < 194 then (if k = 193 then some a193 else none) else (if k = 194 then some a194 else none)))) else (if k < 211 then (if k < 201 then (if k < 200 then (if k = 196 then some a196 else none) else (if k = 200 then some a200 else none)) else (if k < 202 then (if k = 201 then some a201 else none) else (if k = 202 then some a202 else none))) else (if k < 213 then (if k < 212 then (if k = 211 then some a211 else none) else (if k = 212 then some a212 else none)) else (if k < 214 then (if k = 213 then some a213 else none) else (if k = 214 then some a214 else none)))))) else (if k < 234 then (if k < 225 then (if k < 220 then (if k < 217 then (if k < 216 then (if k = 215 then some a215 else none) else (if k = 216 then some a216 else none)) else (if k < 219 then (if k = 217 then some a217 else none) else (if k = 219 then some a219 else none))) else (if k < 222 then (if k < 221 then (if k = 220 then some a220 else none) else (if k = 221 then some a221 else none)) else (if k < 224 then (if k = 222 then some a222 else none) else (if k = 224 then some a224 else none)))) else (if k < 229 then (if k < 227 then (if k < 226 then (if k = 225 then some a225 else none) else (if k = 226 then some a226 else none)) else (if k < 228 then (if k = 227 then some a227 else none) else (if k = 228 then some a228 else none))) else (if k < 231 then (if k < 230 then (if k = 229 then some a229 else none) else (if k = 230 then some a230 else none)) else (if k < 232 then (if k = 231 then some a231 else none) else (if k = 232 then some a232 else none))))) else (if k < 254 then (if k < 238 then (if k < 236 then (if k < 235 then (if k = 234 then some a234 else none) else (if k = 235 then some a235 else none)) else (if k < 237 then (if k = 236 then some a236 else none) else (if k = 237 then some a237 else none))) else (if k < 240 then (if k < 239 then (if k = 238 then some a238 else none) else (if k = 239 then some a239 else none)) else (if k < 241 then (if k = 240 then some a240 else none) else (if k = 241 then some a241 else none)))) else (if k < 266 then (if k < 264 then (if k < 263 then (if k = 254 then some a254 else none) else (if k = 263 then some a263 else none)) else (if k < 265 then (if k = 264 then some a264 else none) else (if k = 265 then some a265 else none))) else (if k < 268 then (if k < 267 then (if k = 266 then some a266 else none) else (if k = 267 then some a267 else none)) else (if k < 270 then (if k = 268 then some a268 else none) else (if k < 271 then (if k = 270 then some a270 else none) else (if k = 271 then some a271 else none)))))))) else (if k < 329 then (if k < 295 then (if k < 284 then (if k < 280 then (if k < 278 then (if k < 275 then (if k = 273 then some a273 else none) else (if k = 275 then some a275 else none)) else (if k < 279 then (if k = 278 then some a278 else none) else (if k = 279 then some a279 else none))) else (if k < 282 then (if k < 281 then (if k = 280 then some a280 else none) else (if k = 281 then some a281 else none)) else (if k < 283 then (if k = 282 then some a282 else none) else (if k = 283 then some a283 else none)))) else (if k < 289 then (if k < 286 then (if k < 285 then (if k = 284 then some a284 else none) else (if k = 285 then some a285 else none)) else (if k < 288 then (if k = 286 then some a286 else none) else (if k = 288 then some a288 else none))) else (if k < 293 then (if k < 290 then (if k = 289 then some a289 else none) else (if k = 290 then some a290 else none)) else (if k < 294 then (if k = 293 then some a293 else none) else (if k = 294 then some a294 else none))))) else (if k < 305 then (if k < 301 then (if k < 298 then (if k < 297 then (if k = 295 then some a295 else none) else (if k = 297 then some a297 else none)) else (if k < 300 then (if k = 298 then some a298 else none) else (if k = 300 then some a300 else none))) else (if k < 303 then (if k < 302 then (if k = 301 then some a301 else none) else (if k = 302 then some a302 else none)) else (if k < 304 then (if k = 303 then some a303 else none) else (if k = 304 then some a304 else none)))) else (if k < 320 then (if k < 307 then (if k < 306 then (if k = 305 then some a305 else none) else (if k = 306 then some a306 else none)) else (if k < 317 then (if k = 307 then some a307 else none) else (if k = 317 then some a317 else none))) else (if k < 324 then (if k < 322 then (if k = 320 then some a320 else none) else (if k = 322 then some a322 else none)) else (if k < 325 then (if k = 324 then some a324 else none) else (if k < 326 then (if k = 325 then some a325 else none) else (if k = 326 then some a326 else none))))))) else (if k < 373 then (if k < 345 then (if k < 333 then (if k < 331 then (if k < 330 then (if k = 329 then some a329 else none) else (if k = 330 then some a330 else none)) else (if k < 332 then (if k = 331 then some a331 else none) else (if k = 332 then some a332 else none))) else (if k < 335 then (if k < 334 then (if k = 333 then some a333 else none) else (if k = 334 then some a334 else none)) else (if k < 341 then (if k = 335 then some a335 else none) else (if k = 341 then some a341 else none)))) else (if k < 364 then (if k < 359 then (if k < 353 then (if k = 345 then some a345 else none) else (if k = 353 then some a353 else none)) else (if k < 363 then (if k = 359 then some a359 else none) else (if k = 363 then some a363 else none))) else (if k < 371 then (if k < 370 then (if k = 364 then some a364 else none) else (if k = 370 then some a370 else none)) else (if k < 372 then (if k = 371 then some a371 else none) else (if k = 372 then some a372 else none))))) else (if k < 398 then (if k < 379 then (if k < 377 then (if k < 374 then (if k = 373 then some a373 else none) else (if k = 374 then some a374 else none)) else (if k < 378 then (if k = 377 then some a377 else none) else (if k = 378 then some a378 else none))) else (if k < 394 then (if k < 380 then (if k = 379 then some a379 else none) else (if k = 380 then some a380 else none)) else (if k < 396 then (if k = 394 then some a394 else none) else (if k = 396 then some a396 else none)))) else (if k < 418 then (if k < 403 then (if k < 401 then (if k = 398 then some a398 else none) else (if k = 401 then some a401 else none)) else (if k < 404 then (if k = 403 then some a403 else none) else (if k = 404 then some a404 else none))) else (if k < 448 then (if k < 419 then (if k = 418 then some a418 else none) else (if k = 419 then some a419 else none)) else (if k < 449 then (if k = 448 then some a448 else none) else (if k < 450 then (if k = 449 then some a449 else none) else (if k = 450 then some a450 else none))))))))))
def T : Tab := ⟨fnL, primN, dprimN⟩

theorem fnL_ok (f : Nat) (a : AFn) (h : fnL f = some a) : ∃ F g, Tryz.prog.funcs[f]? = some F ∧ cFn Tryz.prog cfg g F = some a ∧ F.name ≠ "runtime.NumGoroutine" := by
  unfold fnL at h
  by_cases h1 : f < 165
  · rw [if_pos h1] at h
    by_cases h2 : f < 79
    · rw [if_pos h2] at h
      by_cases h3 : f < 41
      · rw [if_pos h3] at h
        by_cases h4 : f < 23
        · rw [if_pos h4] at h
          by_cases h5 : f < 13
          · rw [if_pos h5] at h
            by_cases h6 : f < 9
            · rw [if_pos h6] at h
              by_cases h7 : f < 5
              · rw [if_pos h7] at h
                by_cases h8 : f < 4
                · rw [if_pos h8] at h
                  by_cases e : f = 3
                  · rw [if_pos e] at h; cases h; subst e; exact ⟨_, 3, Tryz.func3, e3, name_ok Tryz.func3⟩
                  · rw [if_neg e] at h; cases h
                · rw [if_neg h8] at h
                  by_cases e : f = 4
                  · rw [if_pos e] at h; cases h; subst e; exact ⟨_, 4, Tryz.func4, e4, name_ok Tryz.func4⟩
                  · rw [if_neg e] at h; cases h
              · rw [if_neg h7] at h
                by_cases h8 : f < 8
                · rw [if_pos h8] at h
                  by_cases e : f = 5
                  · rw [if_pos e] at h; cases h; subst e; exact ⟨_, 5, Tryz.func5, e5, name_ok Tryz.func5⟩
                  · rw [if_neg e] at h; cases h
                · rw [if_neg h8] at h
                  by_cases e : f = 8
                  · rw [if_pos e] at h; cases h; subst e; exact ⟨_, 8, Tryz.func8, e8, name_ok Tryz.func8⟩
                  · rw [if_neg e] at h; cases h
            · rw [if_neg h6] at h
              by_cases h7 : f < 11
              · rw [if_pos h7] at h
                by_cases h8 : f < 10
                · rw [if_pos h8] at h
                  by_cases e : f = 9
                  · rw [if_pos e] at h; cases h; subst e; exact ⟨_, 9, Tryz.func9, e9, name_ok Tryz.func9⟩
                  · rw [if_neg e] at h; cases h
                · rw [if_neg h8] at h
                  by_cases e : f = 10
                  · rw [if_pos e] at h; cases h; subst e; exact ⟨_, 10, Tryz.func10, e10, name_ok Tryz.func10⟩
                  · rw [if_neg e] at h; cases h
              · rw [if_neg h7] at h
                by_cases h8 : f < 12
                · rw [if_pos h8] at h
                  by_cases e : f = 11
                  · rw [if_pos e] at h; cases h; subst e; exact ⟨_, 11, Tryz.func11, e11, name_ok Tryz.func11⟩
                  · rw [if_neg e] at h; cases h
                · rw [if_neg h8] at h
                  by_cases e : f = 12
                  · rw [if_pos e] at h; cases h; subst e; exact ⟨_, 12, Tryz.func12, e12, name_ok Tryz.func12⟩
                  · rw [if_neg e] at h; cases h
          · rw [if_neg h5] at h
            by_cases h6 : f < 17
            · rw [if_pos h6] at h
              by_cases h7 : f < 15
              · rw [if_pos h7] at h
                by_cases h8 : f < 14
                · rw [if_pos h8] at h
                  by_cases e : f = 13
                  · rw [if_pos e] at h; cases h; subst e; exact ⟨_, 13, Tryz.func13, e13, name_ok Tryz.func13⟩
                  · rw [if_neg e] at h; cases h
                · rw [if_neg h8] at h
                  by_cases e : f = 14
                  · rw [if_pos e] at h; cases h; subst e; exact ⟨_, 14, Tryz.func14, e14, name_ok Tryz.func14⟩
                  · rw [if_neg e] at h; cases h
              · rw [if_neg h7] at h
                by_cases h8 : f < 16
                · rw [if_pos h8] at h
                  by_cases e : f = 15
                  · rw [if_pos e] at h; cases h; subst e; exact ⟨_, 15, Tryz.func15, e15, name_ok Tryz.func15⟩
                  · rw [if_neg e] at h; cases h
                · rw [if_neg h8] at h
                  by_cases e : f = 16
                  · rw [if_pos e] at h; cases h; subst e; exact ⟨_, 16, Tryz.func16, e16, name_ok Tryz.func16⟩
                  · rw [if_neg e] at h; cases h
            · rw [if_neg h6] at h
              by_cases h7 : f < 19
              · rw [if_pos h7] at h
                by_cases h8 : f < 18
                · rw [if_pos h8] at h
                  by_cases e : f = 17
                  · rw [if_pos e] at h; cases h; subst e; exact ⟨_, 17, Tryz.func17, e17, name_ok Tryz.func17⟩
                  · rw [if_neg e] at h; cases h
                · rw [if_neg h8] at h
                  by_cases e : f = 18
                  · rw [if_pos e] at h; cases h; subst e; exact ⟨_, 18, Tryz.func18, e18, name_ok Tryz.func18⟩
                  · rw [if_neg e] at h; cases h
              · rw [if_neg h7] at h
                by_cases h8 : f < 22
                · rw [if_pos h8] at h
                  by_cases e : f = 19
                  · rw [if_pos e] at h; cases h; subst e; exact ⟨_, 19, Tryz.func19, e19, name_ok Tryz.func19⟩
                  · rw [if_neg e] at h; cases h
                · rw [if_neg h8] at h
                  by_cases e : f = 22
                  · rw [if_pos e] at h; cases h; subst e; exact ⟨_, 22, Tryz.func22, e22, name_ok Tryz.func22⟩
                  · rw [if_neg e] at h; cases h
        · rw [if_neg h4] at h
          by_cases h5 : f < 33
          · rw [if_pos h5] at h
            by_cases h6 : f < 29
            · rw [if_pos h6] at h
              by_cases h7 : f < 27
              · rw [if_pos h7] at h
                by_cases h8 : f < 26
                · rw [if_pos h8] at h
                  by_cases e : f = 23
                  · rw [if_pos e] at h; cases h; subst e; exact ⟨_, 23, Tryz.func23, e23, name_ok Tryz.func23⟩
                  · rw [if_neg e] at h; cases h
                · rw [if_neg h8] at h
                  by_cases e : f = 26
                  · rw [if_pos e] at h; cases h; subst e; exact ⟨_, 26, Tryz.func26, e26, name_ok Tryz.func26⟩
                  · rw [if_neg e] at h; cases h
              · rw [if_neg h7] at h
                by_cases h8 : f < 28
                · rw [if_pos h8] at h
                  by_cases e : f = 27
                  · rw [if_pos e] at h; cases h; subst e; exact ⟨_, 27, Tryz.func27, e27, name_ok Tryz.func27⟩
                  · rw [if_neg e] at h; cases h
                · rw [if_neg h8] at h
                  by_cases e : f = 28
                  · rw [if_pos e] at h; cases h; subst e; exact ⟨_, 28, Tryz.func28, e28, name_ok Tryz.func28⟩
                  · rw [if_neg e] at h; cases h
            · rw [if_neg h6] at h
              by_cases h7 : f < 31
              · rw [if_pos h7] at h
                by_cases h8 : f < 30
                · rw [if_pos h8] at h
                  by_cases e : f = 29
                  · rw [if_pos e] at h; cases h; subst e; exact ⟨_, 29, Tryz.func29, e29, name_ok Tryz.func29⟩
                  · rw [if_neg e] at h; cases h
                · rw [if_neg h8] at h
                  by_cases e : f = 30
                  · rw [if_pos e] at h; cases h; subst e; exact ⟨_, 30, Tryz.func30, e30, name_ok Tryz.func30⟩
                  · rw [if_neg e] at h; cases h
              · rw [if_neg h7] at h
                by_cases h8 : f < 32
                · rw [if_pos h8] at h
                  by_cases e : f = 31
                  · rw [if_pos e] at h; cases h; subst e; exact ⟨_, 31, Tryz.func31, e31, name_ok Tryz.func31⟩
                  · rw [if_neg e] at h; cases h
                · rw [if_neg h8] at h
                  by_cases e : f = 32
                  · rw [if_pos e] at h; cases h; subst e; exact ⟨_, 32, Tryz.func32, e32, name_ok Tryz.func32⟩
                  · rw [if_neg e] at h; cases h
          · rw [if_neg h5] at h
            by_cases h6 : f < 37
            · rw [if_pos h6] at h
              by_cases h7 : f < 35
              · rw [if_pos h7] at h
                by_cases h8 : f < 34
                · rw [if_pos h8] at h
                  by_cases e : f = 33
                  · rw [if_pos e] at h; cases h; subst e; exact ⟨_, 33, Tryz.func33, e33, name_ok Tryz.func33⟩
                  · rw [if_neg e] at h; cases h
                · rw [if_neg h8] at h
                  by_cases e : f = 34
                  · rw [if_pos e] at h; cases h; subst e; exact ⟨_, 34, Tryz.func34, e34, name_ok Tryz.func34⟩
                  · rw [if_neg e] at h; cases h
              · rw [if_neg h7] at h
                by_cases h8 : f < 36
                · rw [if_pos h8] at h
                  by_cases e : f = 35
                  · rw [if_pos e] at h; cases h; subst e; exact ⟨_, 35, Tryz.func35, e35, name_ok Tryz.func35⟩
                  · rw [if_neg e] at h; cases h
                · rw [if_neg h8] at h
                  by_cases e : f = 36
                  · rw [if_pos e] at h; cases h; subst e; exact ⟨_, 36, Tryz.func36, e36, name_ok Tryz.func36⟩
                  · rw [if_neg e] at h; cases h
            · rw [if_neg h6] at h
              by_cases h7 : f < 39
              · rw [if_pos h7] at h
                by_cases h8 : f < 38
                · rw [if_pos h8] at h
                  by_cases e : f = 37
                  · rw [if_pos e] at h; cases h; subst e; exact ⟨_, 37, Tryz.func37, e37, name_ok Tryz.func37⟩
                  · rw [if_neg e] at h; cases h
                · rw [if_neg h8] at h
                  by_cases e : f = 38
                  · rw [if_pos e] at h; cases h; subst e; exact ⟨_, 38, Tryz.func38, e38, name_ok Tryz.func38⟩
                  · rw [if_neg e] at h; cases h
              · rw [if_neg h7] at h
                by_cases h8 : f < 40
                · rw [if_pos h8] at h
                  by_cases e : f = 39
                  · rw [if_pos e] at h; cases h; subst e; exact ⟨_, 39, Tryz.func39, e39, name_ok Tryz.func39⟩
                  · rw [if_neg e] at h; cases h
                · rw [if_neg h8] at h
                  by_cases e : f = 40
                  · rw [if_pos e] at h; cases h; subst e; exact ⟨_, 40, Tryz.func40, e40, name_ok Tryz.func40⟩
                  · rw [if_neg e] at h; cases h
      · rw [if_neg h3] at h
        by_cases h4 : f < 57
        · rw [if_pos h4] at h
          by_cases h5 : f < 49
          · rw [if_pos h5] at h
            by_cases h6 : f < 45
            · rw [if_pos h6] at h
              by_cases h7 : f < 43
              · rw [if_pos h7] at h
                by_cases h8 : f < 42
                · rw [if_pos h8] at h
                  by_cases e : f = 41
                  · rw [if_pos e] at h; cases h; subst e; exact ⟨_, 41, Tryz.func41, e41, name_ok Tryz.func41⟩
                  · rw [if_neg e] at h; cases h
                · rw [if_neg h8] at h
                  by_cases e : f = 42
                  · rw [if_pos e] at h; cases h; subst e; exact ⟨_, 42, Tryz.func42, e42, name_ok Tryz.func42⟩
                  · rw [if_neg e] at h; cases h
              · rw [if_neg h7] at h
                by_cases h8 : f < 44
                · rw [if_pos h8] at h
                  by_cases e : f = 43
                  · rw [if_pos e] at h; cases h; subst e; exact ⟨_, 43, Tryz.func43, e43, name_ok Tryz.func43⟩
                  · rw [if_neg e] at h; cases h
                · rw [if_neg h8] at h
                  by_cases e : f = 44
                  · rw [if_pos e] at h; cases h; subst e; exact ⟨_, 44, Tryz.func44, e44, name_ok Tryz.func44⟩
                  · rw [if_neg e] at h; cases h
            · rw [if_neg h6] at h
              by_cases h7 : f < 47
              · rw [if_pos h7] at h
                by_cases h8 : f < 46
                · rw [if_pos h8] at h
                  by_cases e : f = 45
                  · rw [if_pos e] at h; cases h; subst e; exact ⟨_, 45, Tryz.func45, e45, name_ok Tryz.func45⟩
                  · rw [if_neg e] at h; cases h
                · rw [if_neg h8] at h
                  by_cases e : f = 46
                  · rw [if_pos e] at h; cases h; subst e; exact ⟨_, 46, Tryz.func46, e46, name_ok Tryz.func46⟩
                  · rw [if_neg e] at h; cases h
              · rw [if_neg h7] at h
                by_cases h8 : f < 48
                · rw [if_pos h8] at h
                  by_cases e : f = 47
                  · rw [if_pos e] at h; cases h; subst e; exact ⟨_, 47, Tryz.func47, e47, name_ok Tryz.func47⟩
                  · rw [if_neg e] at h; cases h
                · rw [if_neg h8] at h
                  by_cases e : f = 48
                  · rw [if_pos e] at h; cases h; subst e; exact ⟨_, 48, Tryz.func48, e48, name_ok Tryz.func48⟩
                  · rw [if_neg e] at h; cases h
          · rw [if_neg h5] at h
            by_cases h6 : f < 53
            · rw [if_pos h6] at h
              by_cases h7 : f < 51
              · rw [if_pos h7] at h
                by_cases h8 : f < 50
                · rw [if_pos h8] at h
                  by_cases e : f = 49
                  · rw [if_pos e] at h; cases h; subst e; exact ⟨_, 49, Tryz.func49, e49, name_ok Tryz.func49⟩
                  · rw [if_neg e] at h; cases h
                · rw [if_neg h8] at h
                  by_cases e : f = 50
                  · rw [if_pos e] at h; cases h; subst e; exact ⟨_, 50, Tryz.func50, e50, name_ok Tryz.func50⟩
                  · rw [if_neg e] at h; cases h
              · rw [if_neg h7] at h
                by_cases h8 : f < 52
                · rw [if_pos h8] at h
                  by_cases e : f = 51
                  · rw [if_pos e] at h; cases h; subst e; exact ⟨_, 51, Tryz.func51, e51, name_ok Tryz.func51⟩
                  · rw [if_neg e] at h; cases h
                · rw [if_neg h8] at h
                  by_cases e : f = 52
                  · rw [if_pos e] at h; cases h; subst e; exact ⟨_, 52, Tryz.func52, e52, name_ok Tryz.func52⟩
                  · rw [if_neg e] at h; cases h
            · rw [if_neg h6] at h
              by_cases h7 : f < 55
              · rw [if_pos h7] at h
                by_cases h8 : f < 54
                · rw [if_pos h8] at h
                  by_cases e : f = 53
                  · rw [if_pos e] at h; cases h; subst e; exact ⟨_, 53, Tryz.func53, e53, name_ok Tryz.func53⟩
                  · rw [if_neg e] at h; cases h
                · rw [if_neg h8] at h
                  by_cases e : f = 54
                  · rw [if_pos e] at h; cases h; subst e; exact ⟨_, 54, Tryz.func54, e54, name_ok Tryz.func54⟩
                  · rw [if_neg e] at h; cases h
              · rw [if_neg h7] at h
                by_cases h8 : f < 56
                · rw [if_pos h8] at h
                  by_cases e : f = 55
                  · rw [if_pos e] at h; cases h; subst e; exact ⟨_, 55, Tryz.func55, e55, name_ok Tryz.func55⟩
                  · rw [if_neg e] at h; cases h
                · rw [if_neg h8] at h
                  by_cases e : f = 56
                  · rw [if_pos e] at h; cases h; subst e; exact ⟨_, 56, Tryz.func56, e56, name_ok Tryz.func56⟩
                  · rw [if_neg e] at h; cases h
        · rw [if_neg h4] at h
          by_cases h5 : f < 65
          · rw [if_pos h5] at h
            by_cases h6 : f < 61
            · rw [if_pos h6] at h
              by_cases h7 : f < 59
              · rw [if_pos h7] at h
                by_cases h8 : f < 58
                · rw [if_pos h8] at h
                  by_cases e : f = 57
                  · rw [if_pos e] at h; cases h; subst e; exact ⟨_, 57, Tryz.func57, e57, name_ok Tryz.func57⟩
                  · rw [if_neg e] at h; cases h
                · rw [if_neg h8] at h
                  by_cases e : f = 58
                  · rw [if_pos e] at h; cases h; subst e; exact ⟨_, 58, Tryz.func58, e58, name_ok Tryz.func58⟩
                  · rw [if_neg e] at h; cases h
              · rw [if_neg h7] at h
                by_cases h8 : f < 60
                · rw [if_pos h8] at h
                  by_cases e : f = 59
                  · rw [if_pos e] at h; cases h; subst e; exact ⟨_, 59, Tryz.func59, e59, name_ok Tryz.func59⟩
                  · rw [if_neg e] at h; cases h
                · rw [if_neg h8] at h
                  by_cases e : f = 60
                  · rw [if_pos e] at h; cases h; subst e; exact ⟨_, 60, Tryz.func60, e60, name_ok Tryz.func60⟩
                  · rw [if_neg e] at h; cases h
            · rw [if_neg h6] at h
              by_cases h7 : f < 63
              · rw [if_pos h7] at h
                by_cases h8 : f < 62
                · rw [if_pos h8] at h
                  by_cases e : f = 61
                  · rw [if_pos e] at h; cases h; subst e; exact ⟨_, 61, Tryz.func61, e61, name_ok Tryz.func61⟩
                  · rw [if_neg e] at h; cases h
                · rw [if_neg h8] at h
                  by_cases e : f = 62
                  · rw [if_pos e] at h; cases h; subst e; exact ⟨_, 62, Tryz.func62, e62, name_ok Tryz.func62⟩
                  · rw [if_neg e] at h; cases h
              · rw [if_neg h7] at h
                by_cases h8 : f < 64
                · rw [if_pos h8] at h
                  by_cases e : f = 63
                  · rw [if_pos e] at h; cases h; subst e; exact ⟨_, 63, Tryz.func63, e63, name_ok Tryz.func63⟩
                  · rw [if_neg e] at h; cases h
                · rw [if_neg h8] at h
                  by_cases e : f = 64
                  · rw [if_pos e] at h; cases h; subst e; exact ⟨_, 64, Tryz.func64, e64, name_ok Tryz.func64⟩
                  · rw [if_neg e] at h; cases h
          · rw [if_neg h5] at h
            by_cases h6 : f < 71
            · rw [if_pos h6] at h
              by_cases h7 : f < 68
              · rw [if_pos h7] at h
                by_cases h8 : f < 67
                · rw [if_pos h8] at h
                  by_cases e : f = 65
                  · rw [if_pos e] at h; cases h; subst e; exact ⟨_, 65, Tryz.func65, e65, name_ok Tryz.func65⟩
                  · rw [if_neg e] at h; cases h
                · rw [if_neg h8] at h
                  by_cases e : f = 67
                  · rw [if_pos e] at h; cases h; subst e; exact ⟨_, 67, Tryz.func67, e67, name_ok Tryz.func67⟩
                  · rw [if_neg e] at h; cases h
              · rw [if_neg h7] at h
                by_cases h8 : f < 69
                · rw [if_pos h8] at h
                  by_cases e : f = 68
                  · rw [if_pos e] at h; cases h; subst e; exact ⟨_, 68, Tryz.func68, e68, name_ok Tryz.func68⟩
                  · rw [if_neg e] at h; cases h
                · rw [if_neg h8] at h
                  by_cases e : f = 69
                  · rw [if_pos e] at h; cases h; subst e; exact ⟨_, 69, Tryz.func69, e69, name_ok Tryz.func69⟩
                  · rw [if_neg e] at h; cases h
            · rw [if_neg h6] at h
              by_cases h7 : f < 73
              · rw [if_pos h7] at h
                by_cases h8 : f < 72
                · rw [if_pos h8] at h
                  by_cases e : f = 71
                  · rw [if_pos e] at h; cases h; subst e; exact ⟨_, 71, Tryz.func71, e71, name_ok Tryz.func71⟩
                  · rw [if_neg e] at h; cases h
                · rw [if_neg h8] at h
                  by_cases e : f = 72
                  · rw [if_pos e] at h; cases h; subst e; exact ⟨_, 72, Tryz.func72, e72, name_ok Tryz.func72⟩
                  · rw [if_neg e] at h; cases h
              · rw [if_neg h7] at h
                by_cases h8 : f < 77
                · rw [if_pos h8] at h
                  by_cases e : f = 73
                  · rw [if_pos e] at h; cases h; subst e; exact ⟨_, 73, Tryz.func73, e73, name_ok Tryz.func73⟩
                  · rw [if_neg e] at h; cases h
                · rw [if_neg h8] at h
                  by_cases h9 : f < 78
                  · rw [if_pos h9] at h
                    by_cases e : f = 77
                    · rw [if_pos e] at h; cases h; subst e; exact ⟨_, 77, Tryz.func77, e77, name_ok Tryz.func77⟩
                    · rw [if_neg e] at h; cases h
                  · rw [if_neg h9] at h
                    by_cases e : f = 78
                    · rw [if_pos e] at h; cases h; subst e; exact ⟨_, 78, Tryz.func78, e78, name_ok Tryz.func78⟩
                    · rw [if_neg e] at h; cases h
    · rw [if_neg h2] at h
      by_cases h3 : f < 113
      · rw [if_pos h3] at h
        by_cases h4 : f < 96
        · rw [if_pos h4] at h
          by_cases h5 : f < 88
          · rw [if_pos h5] at h
            by_cases h6 : f < 83
            · rw [if_pos h6] at h
              by_cases h7 : f < 81
              · rw [if_pos h7] at h
                by_cases h8 : f < 80
                · rw [if_pos h8] at h
                  by_cases e : f = 79
                  · rw [if_pos e] at h; cases h; subst e; exact ⟨_, 79, Tryz.func79, e79, name_ok Tryz.func79⟩
                  · rw [if_neg e] at h; cases h
                · rw [if_neg h8] at h
                  by_cases e : f = 80
                  · rw [if_pos e] at h; cases h; subst e; exact ⟨_, 80, Tryz.func80, e80, name_ok Tryz.func80⟩
                  · rw [if_neg e] at h; cases h
              · rw [if_neg h7] at h
                by_cases h8 : f < 82
                · rw [if_pos h8] at h
                  by_cases e : f = 81
                  · rw [if_pos e] at h; cases h; subst e; exact ⟨_, 81, Tryz.func81, e81, name_ok Tryz.func81⟩
                  · rw [if_neg e] at h; cases h
                · rw [if_neg h8] at h
                  by_cases e : f = 82
                  · rw [if_pos e] at h; cases h; subst e; exact ⟨_, 82, Tryz.func82, e82, name_ok Tryz.func82⟩
                  · rw [if_neg e] at h; cases h
            · rw [if_neg h6] at h
              by_cases h7 : f < 85
              · rw [if_pos h7] at h
                by_cases h8 : f < 84
                · rw [if_pos h8] at h
                  by_cases e : f = 83
                  · rw [if_pos e] at h; cases h; subst e; exact ⟨_, 83, Tryz.func83, e83, name_ok Tryz.func83⟩
                  · rw [if_neg e] at h; cases h
                · rw [if_neg h8] at h
                  by_cases e : f = 84
                  · rw [if_pos e] at h; cases h; subst e; exact ⟨_, 84, Tryz.func84, e84, name_ok Tryz.func84⟩
                  · rw [if_neg e] at h; cases h
              · rw [if_neg h7] at h
                by_cases h8 : f < 87
                · rw [if_pos h8] at h
                  by_cases e : f = 85
                  · rw [if_pos e] at h; cases h; subst e; exact ⟨_, 85, Tryz.func85, e85, name_ok Tryz.func85⟩
                  · rw [if_neg e] at h; cases h
                · rw [if_neg h8] at h
                  by_cases e : f = 87
                  · rw [if_pos e] at h; cases h; subst e; exact ⟨_, 87, Tryz.func87, e87, name_ok Tryz.func87⟩
                  · rw [if_neg e] at h; cases h
          · rw [if_neg h5] at h
            by_cases h6 : f < 92
            · rw [if_pos h6] at h
              by_cases h7 : f < 90
              · rw [if_pos h7] at h
                by_cases h8 : f < 89
                · rw [if_pos h8] at h
                  by_cases e : f = 88
                  · rw [if_pos e] at h; cases h; subst e; exact ⟨_, 88, Tryz.func88, e88, name_ok Tryz.func88⟩
                  · rw [if_neg e] at h; cases h
                · rw [if_neg h8] at h
                  by_cases e : f = 89
                  · rw [if_pos e] at h; cases h; subst e; exact ⟨_, 89, Tryz.func89, e89, name_ok Tryz.func89⟩
                  · rw [if_neg e] at h; cases h
              · rw [if_neg h7] at h
                by_cases h8 : f < 91
                · rw [if_pos h8] at h
                  by_cases e : f = 90
                  · rw [if_pos e] at h; cases h; subst e; exact ⟨_, 90, Tryz.func90, e90, name_ok Tryz.func90⟩
                  · rw [if_neg e] at h; cases h
                · rw [if_neg h8] at h
                  by_cases e : f = 91
                  · rw [if_pos e] at h; cases h; subst e; exact ⟨_, 91, Tryz.func91, e91, name_ok Tryz.func91⟩
                  · rw [if_neg e] at h; cases h
            · rw [if_neg h6] at h
              by_cases h7 : f < 94
              · rw [if_pos h7] at h
                by_cases h8 : f < 93
                · rw [if_pos h8] at h
                  by_cases e : f = 92
                  · rw [if_pos e] at h; cases h; subst e; exact ⟨_, 92, Tryz.func92, e92, name_ok Tryz.func92⟩
                  · rw [if_neg e] at h; cases h
                · rw [if_neg h8] at h
                  by_cases e : f = 93
                  · rw [if_pos e] at h; cases h; subst e; exact ⟨_, 93, Tryz.func93, e93, name_ok Tryz.func93⟩
                  · rw [if_neg e] at h; cases h
              · rw [if_neg h7] at h
                by_cases h8 : f < 95
                · rw [if_pos h8] at h
                  by_cases e : f = 94
                  · rw [if_pos e] at h; cases h; subst e; exact ⟨_, 94, Tryz.func94, e94, name_ok Tryz.func94⟩
                  · rw [if_neg e] at h; cases h
                · rw [if_neg h8] at h
                  by_cases e : f = 95
                  · rw [if_pos e] at h; cases h; subst e; exact ⟨_, 95, Tryz.func95, e95, name_ok Tryz.func95⟩
                  · rw [if_neg e] at h; cases h
        · rw [if_neg h4] at h
          by_cases h5 : f < 105
          · rw [if_pos h5] at h
            by_cases h6 : f < 100
            · rw [if_pos h6] at h
              by_cases h7 : f < 98
              · rw [if_pos h7] at h
                by_cases h8 : f < 97
                · rw [if_pos h8] at h
                  by_cases e : f = 96
                  · rw [if_pos e] at h; cases h; subst e; exact ⟨_, 96, Tryz.func96, e96, name_ok Tryz.func96⟩
                  · rw [if_neg e] at h; cases h
                · rw [if_neg h8] at h
                  by_cases e : f = 97
                  · rw [if_pos e] at h; cases h; subst e; exact ⟨_, 97, Tryz.func97, e97, name_ok Tryz.func97⟩
                  · rw [if_neg e] at h; cases h
              · rw [if_neg h7] at h
                by_cases h8 : f < 99
                · rw [if_pos h8] at h
                  by_cases e : f = 98
                  · rw [if_pos e] at h; cases h; subst e; exact ⟨_, 98, Tryz.func98, e98, name_ok Tryz.func98⟩
                  · rw [if_neg e] at h; cases h
                · rw [if_neg h8] at h
                  by_cases e : f = 99
                  · rw [if_pos e] at h; cases h; subst e; exact ⟨_, 99, Tryz.func99, e99, name_ok Tryz.func99⟩
                  · rw [if_neg e] at h; cases h
            · rw [if_neg h6] at h
              by_cases h7 : f < 103
              · rw [if_pos h7] at h
                by_cases h8 : f < 102
                · rw [if_pos h8] at h
                  by_cases e : f = 100
                  · rw [if_pos e] at h; cases h; subst e; exact ⟨_, 100, Tryz.func100, e100, name_ok Tryz.func100⟩
                  · rw [if_neg e] at h; cases h
                · rw [if_neg h8] at h
                  by_cases e : f = 102
                  · rw [if_pos e] at h; cases h; subst e; exact ⟨_, 102, Tryz.func102, e102, name_ok Tryz.func102⟩
                  · rw [if_neg e] at h; cases h
              · rw [if_neg h7] at h
                by_cases h8 : f < 104
                · rw [if_pos h8] at h
                  by_cases e : f = 103
                  · rw [if_pos e] at h; cases h; subst e; exact ⟨_, 103, Tryz.func103, e103, name_ok Tryz.func103⟩
                  · rw [if_neg e] at h; cases h
                · rw [if_neg h8] at h
                  by_cases e : f = 104
                  · rw [if_pos e] at h; cases h; subst e; exact ⟨_, 104, Tryz.func104, e104, name_ok Tryz.func104⟩
                  · rw [if_neg e] at h; cases h
          · rw [if_neg h5] at h
            by_cases h6 : f < 109
            · rw [if_pos h6] at h
              by_cases h7 : f < 107
              · rw [if_pos h7] at h
                by_cases h8 : f < 106
                · rw [if_pos h8] at h
                  by_cases e : f = 105
                  · rw [if_pos e] at h; cases h; subst e; exact ⟨_, 105, Tryz.func105, e105, name_ok Tryz.func105⟩
                  · rw [if_neg e] at h; cases h
                · rw [if_neg h8] at h
                  by_cases e : f = 106
                  · rw [if_pos e] at h; cases h; subst e; exact ⟨_, 106, Tryz.func106, e106, name_ok Tryz.func106⟩
                  · rw [if_neg e] at h; cases h
              · rw [if_neg h7] at h
                by_cases h8 : f < 108
                · rw [if_pos h8] at h
                  by_cases e : f = 107
                  · rw [if_pos e] at h; cases h; subst e; exact ⟨_, 107, Tryz.func107, e107, name_ok Tryz.func107⟩
                  · rw [if_neg e] at h; cases h
                · rw [if_neg h8] at h
                  by_cases e : f = 108
                  · rw [if_pos e] at h; cases h; subst e; exact ⟨_, 108, Tryz.func108, e108, name_ok Tryz.func108⟩
                  · rw [if_neg e] at h; cases h
            · rw [if_neg h6] at h
              by_cases h7 : f < 111
              · rw [if_pos h7] at h
                by_cases h8 : f < 110
                · rw [if_pos h8] at h
                  by_cases e : f = 109
                  · rw [if_pos e] at h; cases h; subst e; exact ⟨_, 109, Tryz.func109, e109, name_ok Tryz.func109⟩
                  · rw [if_neg e] at h; cases h
                · rw [if_neg h8] at h
                  by_cases e : f = 110
                  · rw [if_pos e] at h; cases h; subst e; exact ⟨_, 110, Tryz.func110, e110, name_ok Tryz.func110⟩
                  · rw [if_neg e] at h; cases h
              · rw [if_neg h7] at h
                by_cases h8 : f < 112
                · rw [if_pos h8] at h
                  by_cases e : f = 111
                  · rw [if_pos e] at h; cases h; subst e; exact ⟨_, 111, Tryz.func111, e111, name_ok Tryz.func111⟩
                  · rw [if_neg e] at h; cases h
                · rw [if_neg h8] at h
                  by_cases e : f = 112
                  · rw [if_pos e] at h; cases h; subst e; exact ⟨_, 112, Tryz.func112, e112, name_ok Tryz.func112⟩
                  · rw [if_neg e] at h; cases h
      · rw [if_neg h3] at h
        by_cases h4 : f < 134
        · rw [if_pos h4] at h
          by_cases h5 : f < 121
          · rw [if_pos h5] at h
            by_cases h6 : f < 117
            · rw [if_pos h6] at h
              by_cases h7 : f < 115
              · rw [if_pos h7] at h
                by_cases h8 : f < 114
                · rw [if_pos h8] at h
                  by_cases e : f = 113
                  · rw [if_pos e] at h; cases h; subst e; exact ⟨_, 113, Tryz.func113, e113, name_ok Tryz.func113⟩
                  · rw [if_neg e] at h; cases h
                · rw [if_neg h8] at h
                  by_cases e : f = 114
                  · rw [if_pos e] at h; cases h; subst e; exact ⟨_, 114, Tryz.func114, e114, name_ok Tryz.func114⟩
                  · rw [if_neg e] at h; cases h
              · rw [if_neg h7] at h
                by_cases h8 : f < 116
                · rw [if_pos h8] at h
                  by_cases e : f = 115
                  · rw [if_pos e] at h; cases h; subst e; exact ⟨_, 115, Tryz.func115, e115, name_ok Tryz.func115⟩
                  · rw [if_neg e] at h; cases h
                · rw [if_neg h8] at h
                  by_cases e : f = 116
                  · rw [if_pos e] at h; cases h; subst e; exact ⟨_, 116, Tryz.func116, e116, name_ok Tryz.func116⟩
                  · rw [if_neg e] at h; cases h
            · rw [if_neg h6] at h
              by_cases h7 : f < 119
              · rw [if_pos h7] at h
                by_cases h8 : f < 118
                · rw [if_pos h8] at h
                  by_cases e : f = 117
                  · rw [if_pos e] at h; cases h; subst e; exact ⟨_, 117, Tryz.func117, e117, name_ok Tryz.func117⟩
                  · rw [if_neg e] at h; cases h
                · rw [if_neg h8] at h
                  by_cases e : f = 118
                  · rw [if_pos e] at h; cases h; subst e; exact ⟨_, 118, Tryz.func118, e118, name_ok Tryz.func118⟩
                  · rw [if_neg e] at h; cases h
              · rw [if_neg h7] at h
                by_cases h8 : f < 120
                · rw [if_pos h8] at h
                  by_cases e : f = 119
                  · rw [if_pos e] at h; cases h; subst e; exact ⟨_, 119, Tryz.func119, e119, name_ok Tryz.func119⟩
                  · rw [if_neg e] at h; cases h
                · rw [if_neg h8] at h
                  by_cases e : f = 120
                  · rw [if_pos e] at h; cases h; subst e; exact ⟨_, 120, Tryz.func120, e120, name_ok Tryz.func120⟩
                  · rw [if_neg e] at h; cases h
          · rw [if_neg h5] at h
            by_cases h6 : f < 126
            · rw [if_pos h6] at h
              by_cases h7 : f < 124
              · rw [if_pos h7] at h
                by_cases h8 : f < 122
                · rw [if_pos h8] at h
                  by_cases e : f = 121
                  · rw [if_pos e] at h; cases h; subst e; exact ⟨_, 121, Tryz.func121, e121, name_ok Tryz.func121⟩
                  · rw [if_neg e] at h; cases h
                · rw [if_neg h8] at h
                  by_cases e : f = 122
                  · rw [if_pos e] at h; cases h; subst e; exact ⟨_, 122, Tryz.func122, e122, name_ok Tryz.func122⟩
                  · rw [if_neg e] at h; cases h
              · rw [if_neg h7] at h
                by_cases h8 : f < 125
                · rw [if_pos h8] at h
                  by_cases e : f = 124
                  · rw [if_pos e] at h; cases h; subst e; exact ⟨_, 124, Tryz.func124, e124, name_ok Tryz.func124⟩
                  · rw [if_neg e] at h; cases h
                · rw [if_neg h8] at h
                  by_cases e : f = 125
                  · rw [if_pos e] at h; cases h; subst e; exact ⟨_, 125, Tryz.func125, e125, name_ok Tryz.func125⟩
                  · rw [if_neg e] at h; cases h
            · rw [if_neg h6] at h
              by_cases h7 : f < 128
              · rw [if_pos h7] at h
                by_cases h8 : f < 127
                · rw [if_pos h8] at h
                  by_cases e : f = 126
                  · rw [if_pos e] at h; cases h; subst e; exact ⟨_, 126, Tryz.func126, e126, name_ok Tryz.func126⟩
                  · rw [if_neg e] at h; cases h
                · rw [if_neg h8] at h
                  by_cases e : f = 127
                  · rw [if_pos e] at h; cases h; subst e; exact ⟨_, 127, Tryz.func127, e127, name_ok Tryz.func127⟩
                  · rw [if_neg e] at h; cases h
              · rw [if_neg h7] at h
                by_cases h8 : f < 129
                · rw [if_pos h8] at h
                  by_cases e : f = 128
                  · rw [if_pos e] at h; cases h; subst e; exact ⟨_, 128, Tryz.func128, e128, name_ok Tryz.func128⟩
                  · rw [if_neg e] at h; cases h
                · rw [if_neg h8] at h
                  by_cases e : f = 129
                  · rw [if_pos e] at h; cases h; subst e; exact ⟨_, 129, Tryz.func129, e129, name_ok Tryz.func129⟩
                  · rw [if_neg e] at h; cases h
        · rw [if_neg h4] at h
          by_cases h5 : f < 142
          · rw [if_pos h5] at h
            by_cases h6 : f < 138
            · rw [if_pos h6] at h
              by_cases h7 : f < 136
              · rw [if_pos h7] at h
                by_cases h8 : f < 135
                · rw [if_pos h8] at h
                  by_cases e : f = 134
                  · rw [if_pos e] at h; cases h; subst e; exact ⟨_, 134, Tryz.func134, e134, name_ok Tryz.func134⟩
                  · rw [if_neg e] at h; cases h
                · rw [if_neg h8] at h
                  by_cases e : f = 135
                  · rw [if_pos e] at h; cases h; subst e; exact ⟨_, 135, Tryz.func135, e135, name_ok Tryz.func135⟩
                  · rw [if_neg e] at h; cases h
              · rw [if_neg h7] at h
                by_cases h8 : f < 137
                · rw [if_pos h8] at h
                  by_cases e : f = 136
                  · rw [if_pos e] at h; cases h; subst e; exact ⟨_, 136, Tryz.func136, e136, name_ok Tryz.func136⟩
                  · rw [if_neg e] at h; cases h
                · rw [if_neg h8] at h
                  by_cases e : f = 137
                  · rw [if_pos e] at h; cases h; subst e; exact ⟨_, 137, Tryz.func137, e137, name_ok Tryz.func137⟩
                  · rw [if_neg e] at h; cases h
            · rw [if_neg h6] at h
              by_cases h7 : f < 140
              · rw [if_pos h7] at h
                by_cases h8 : f < 139
                · rw [if_pos h8] at h
                  by_cases e : f = 138
                  · rw [if_pos e] at h; cases h; subst e; exact ⟨_, 138, Tryz.func138, e138, name_ok Tryz.func138⟩
                  · rw [if_neg e] at h; cases h
                · rw [if_neg h8] at h
                  by_cases e : f = 139
                  · rw [if_pos e] at h; cases h; subst e; exact ⟨_, 139, Tryz.func139, e139, name_ok Tryz.func139⟩
                  · rw [if_neg e] at h; cases h
              · rw [if_neg h7] at h
                by_cases h8 : f < 141
                · rw [if_pos h8] at h
                  by_cases e : f = 140
                  · rw [if_pos e] at h; cases h; subst e; exact ⟨_, 140, Tryz.func140, e140, name_ok Tryz.func140⟩
                  · rw [if_neg e] at h; cases h
                · rw [if_neg h8] at h
                  by_cases e : f = 141
                  · rw [if_pos e] at h; cases h; subst e; exact ⟨_, 141, Tryz.func141, e141, name_ok Tryz.func141⟩
                  · rw [if_neg e] at h; cases h
          · rw [if_neg h5] at h
            by_cases h6 : f < 152
            · rw [if_pos h6] at h
              by_cases h7 : f < 145
              · rw [if_pos h7] at h
                by_cases h8 : f < 144
                · rw [if_pos h8] at h
                  by_cases e : f = 142
                  · rw [if_pos e] at h; cases h; subst e; exact ⟨_, 142, Tryz.func142, e142, name_ok Tryz.func142⟩
                  · rw [if_neg e] at h; cases h
                · rw [if_neg h8] at h
                  by_cases e : f = 144
                  · rw [if_pos e] at h; cases h; subst e; exact ⟨_, 144, Tryz.func144, e144, name_ok Tryz.func144⟩
                  · rw [if_neg e] at h; cases h
              · rw [if_neg h7] at h
                by_cases h8 : f < 147
                · rw [if_pos h8] at h
                  by_cases e : f = 145
                  · rw [if_pos e] at h; cases h; subst e; exact ⟨_, 145, Tryz.func145, e145, name_ok Tryz.func145⟩
                  · rw [if_neg e] at h; cases h
                · rw [if_neg h8] at h
                  by_cases e : f = 147
                  · rw [if_pos e] at h; cases h; subst e; exact ⟨_, 147, Tryz.func147, e147, name_ok Tryz.func147⟩
                  · rw [if_neg e] at h; cases h
            · rw [if_neg h6] at h
              by_cases h7 : f < 159
              · rw [if_pos h7] at h
                by_cases h8 : f < 155
                · rw [if_pos h8] at h
                  by_cases e : f = 152
                  · rw [if_pos e] at h; cases h; subst e; exact ⟨_, 152, Tryz.func152, e152, name_ok Tryz.func152⟩
                  · rw [if_neg e] at h; cases h
                · rw [if_neg h8] at h
                  by_cases e : f = 155
                  · rw [if_pos e] at h; cases h; subst e; exact ⟨_, 155, Tryz.func155, e155, name_ok Tryz.func155⟩
                  · rw [if_neg e] at h; cases h
              · rw [if_neg h7] at h
                by_cases h8 : f < 161
                · rw [if_pos h8] at h
                  by_cases e : f = 159
                  · rw [if_pos e] at h; cases h; subst e; exact ⟨_, 159, Tryz.func159, e159, name_ok Tryz.func159⟩
                  · rw [if_neg e] at h; cases h
                · rw [if_neg h8] at h
                  by_cases h9 : f < 162
                  · rw [if_pos h9] at h
                    by_cases e : f = 161
                    · rw [if_pos e] at h; cases h; subst e; exact ⟨_, 161, Tryz.func161, e161, name_ok Tryz.func161⟩
                    · rw [if_neg e] at h; cases h
                  · rw [if_neg h9] at h
                    by_cases e : f = 162
                    · rw [if_pos e] at h; cases h; subst e; exact ⟨_, 162, Tryz.func162, e162, name_ok Tryz.func162⟩
                    · rw [if_neg e] at h; cases h
  · rw [if_neg h1] at h
    by_cases h2 : f < 273
    · rw [if_pos h2] at h
      by_cases h3 : f < 215
      · rw [if_pos h3] at h
        by_cases h4 : f < 185
        · rw [if_pos h4] at h
          by_cases h5 : f < 173
          · rw [if_pos h5] at h
            by_cases h6 : f < 169
            · rw [if_pos h6] at h
              by_cases h7 : f < 167
              · rw [if_pos h7] at h
                by_cases h8 : f < 166
                · rw [if_pos h8] at h
                  by_cases e : f = 165
                  · rw [if_pos e] at h; cases h; subst e; exact ⟨_, 165, Tryz.func165, e165, name_ok Tryz.func165⟩
                  · rw [if_neg e] at h; cases h
                · rw [if_neg h8] at h
                  by_cases e : f = 166
                  · rw [if_pos e] at h; cases h; subst e; exact ⟨_, 166, Tryz.func166, e166, name_ok Tryz.func166⟩
                  · rw [if_neg e] at h; cases h
              · rw [if_neg h7] at h
                by_cases h8 : f < 168
                · rw [if_pos h8] at h
                  by_cases e : f = 167
                  · rw [if_pos e] at h; cases h; subst e; exact ⟨_, 167, Tryz.func167, e167, name_ok Tryz.func167⟩
                  · rw [if_neg e] at h; cases h
                · rw [if_neg h8] at h
                  by_cases e : f = 168
                  · rw [if_pos e] at h; cases h; subst e; exact ⟨_, 168, Tryz.func168, e168, name_ok Tryz.func168⟩
                  · rw [if_neg e] at h; cases h
            · rw [if_neg h6] at h
              by_cases h7 : f < 171
              · rw [if_pos h7] at h
                by_cases h8 : f < 170
                · rw [if_pos h8] at h
                  by_cases e : f = 169
                  · rw [if_pos e] at h; cases h; subst e; exact ⟨_, 169, Tryz.func169, e169, name_ok Tryz.func169⟩
                  · rw [if_neg e] at h; cases h
                · rw [if_neg h8] at h
                  by_cases e : f = 170
                  · rw [if_pos e] at h; cases h; subst e; exact ⟨_, 170, Tryz.func170, e170, name_ok Tryz.func170⟩
                  · rw [if_neg e] at h; cases h
              · rw [if_neg h7] at h
                by_cases h8 : f < 172
                · rw [if_pos h8] at h
                  by_cases e : f = 171
                  · rw [if_pos e] at h; cases h; subst e; exact ⟨_, 171, Tryz.func171, e171, name_ok Tryz.func171⟩
                  · rw [if_neg e] at h; cases h
                · rw [if_neg h8] at h
                  by_cases e : f = 172
                  · rw [if_pos e] at h; cases h; subst e; exact ⟨_, 172, Tryz.func172, e172, name_ok Tryz.func172⟩
                  · rw [if_neg e] at h; cases h
          · rw [if_neg h5] at h
            by_cases h6 : f < 178
            · rw [if_pos h6] at h
              by_cases h7 : f < 175
              · rw [if_pos h7] at h
                by_cases h8 : f < 174
                · rw [if_pos h8] at h
                  by_cases e : f = 173
                  · rw [if_pos e] at h; cases h; subst e; exact ⟨_, 173, Tryz.func173, e173, name_ok Tryz.func173⟩
                  · rw [if_neg e] at h; cases h
                · rw [if_neg h8] at h
                  by_cases e : f = 174
                  · rw [if_pos e] at h; cases h; subst e; exact ⟨_, 174, Tryz.func174, e174, name_ok Tryz.func174⟩
                  · rw [if_neg e] at h; cases h
              · rw [if_neg h7] at h
                by_cases h8 : f < 177
                · rw [if_pos h8] at h
                  by_cases e : f = 175
                  · rw [if_pos e] at h; cases h; subst e; exact ⟨_, 175, Tryz.func175, e175, name_ok Tryz.func175⟩
                  · rw [if_neg e] at h; cases h
                · rw [if_neg h8] at h
                  by_cases e : f = 177
                  · rw [if_pos e] at h; cases h; subst e; exact ⟨_, 177, Tryz.func177, e177, name_ok Tryz.func177⟩
                  · rw [if_neg e] at h; cases h
            · rw [if_neg h6] at h
              by_cases h7 : f < 181
              · rw [if_pos h7] at h
                by_cases h8 : f < 180
                · rw [if_pos h8] at h
                  by_cases e : f = 178
                  · rw [if_pos e] at h; cases h; subst e; exact ⟨_, 178, Tryz.func178, e178, name_ok Tryz.func178⟩
                  · rw [if_neg e] at h; cases h
                · rw [if_neg h8] at h
                  by_cases e : f = 180
                  · rw [if_pos e] at h; cases h; subst e; exact ⟨_, 180, Tryz.func180, e180, name_ok Tryz.func180⟩
                  · rw [if_neg e] at h; cases h
              · rw [if_neg h7] at h
                by_cases h8 : f < 184
                · rw [if_pos h8] at h
                  by_cases e : f = 181
                  · rw [if_pos e] at h; cases h; subst e; exact ⟨_, 181, Tryz.func181, e181, name_ok Tryz.func181⟩
                  · rw [if_neg e] at h; cases h
                · rw [if_neg h8] at h
                  by_cases e : f = 184
                  · rw [if_pos e] at h; cases h; subst e; exact ⟨_, 184, Tryz.func184, e184, name_ok Tryz.func184⟩
                  · rw [if_neg e] at h; cases h
        · rw [if_neg h4] at h
          by_cases h5 : f < 196
          · rw [if_pos h5] at h
            by_cases h6 : f < 190
            · rw [if_pos h6] at h
              by_cases h7 : f < 187
              · rw [if_pos h7] at h
                by_cases h8 : f < 186
                · rw [if_pos h8] at h
                  by_cases e : f = 185
                  · rw [if_pos e] at h; cases h; subst e; exact ⟨_, 185, Tryz.func185, e185, name_ok Tryz.func185⟩
                  · rw [if_neg e] at h; cases h
                · rw [if_neg h8] at h
                  by_cases e : f = 186
                  · rw [if_pos e] at h; cases h; subst e; exact ⟨_, 186, Tryz.func186, e186, name_ok Tryz.func186⟩
                  · rw [if_neg e] at h; cases h
              · rw [if_neg h7] at h
                by_cases h8 : f < 189
                · rw [if_pos h8] at h
                  by_cases e : f = 187
                  · rw [if_pos e] at h; cases h; subst e; exact ⟨_, 187, Tryz.func187, e187, name_ok Tryz.func187⟩
                  · rw [if_neg e] at h; cases h
                · rw [if_neg h8] at h
                  by_cases e : f = 189
                  · rw [if_pos e] at h; cases h; subst e; exact ⟨_, 189, Tryz.func189, e189, name_ok Tryz.func189⟩
                  · rw [if_neg e] at h; cases h
            · rw [if_neg h6] at h
              by_cases h7 : f < 193
              · rw [if_pos h7] at h
                by_cases h8 : f < 192
                · rw [if_pos h8] at h
                  by_cases e : f = 190
                  · rw [if_pos e] at h; cases h; subst e; exact ⟨_, 190, Tryz.func190, e190, name_ok Tryz.func190⟩
                  · rw [if_neg e] at h; cases h
                · rw [if_neg h8] at h
                  by_cases e : f = 192
                  · rw [if_pos e] at h; cases h; subst e; exact ⟨_, 192, Tryz.func192, e192, name_ok Tryz.func192⟩
                  · rw [if_neg e] at h; cases h
              · rw [if_neg h7] at h
                by_cases h8 : f < 194
                · rw [if_pos h8] at h
                  by_cases e : f = 193
                  · rw [if_pos e] at h; cases h; subst e; exact ⟨_, 193, Tryz.func193, e193, name_ok Tryz.func193⟩
                  · rw [if_neg e] at h; cases h
                · rw [if_neg h8] at h
                  by_cases e : f = 194
                  · rw [if_pos e] at h; cases h; subst e; exact ⟨_, 194, Tryz.func194, e194, name_ok Tryz.func194⟩
                  · rw [if_neg e] at h; cases h
          · rw [if_neg h5] at h
            by_cases h6 : f < 211
            · rw [if_pos h6] at h
              by_cases h7 : f < 201
              · rw [if_pos h7] at h
                by_cases h8 : f < 200
                · rw [if_pos h8] at h
                  by_cases e : f = 196
                  · rw [if_pos e] at h; cases h; subst e; exact ⟨_, 196, Tryz.func196, e196, name_ok Tryz.func196⟩
                  · rw [if_neg e] at h; cases h
                · rw [if_neg h8] at h
                  by_cases e : f = 200
                  · rw [if_pos e] at h; cases h; subst e; exact ⟨_, 200, Tryz.func200, e200, name_ok Tryz.func200⟩
                  · rw [if_neg e] at h; cases h
              · rw [if_neg h7] at h
                by_cases h8 : f < 202
                · rw [if_pos h8] at h
                  by_cases e : f = 201
                  · rw [if_pos e] at h; cases h; subst e; exact ⟨_, 201, Tryz.func201, e201, name_ok Tryz.func201⟩
                  · rw [if_neg e] at h; cases h
                · rw [if_neg h8] at h
                  by_cases e : f = 202
                  · rw [if_pos e] at h; cases h; subst e; exact ⟨_, 202, Tryz.func202, e202, name_ok Tryz.func202⟩
                  · rw [if_neg e] at h; cases h
            · rw [if_neg h6] at h
              by_cases h7 : f < 213
              · rw [if_pos h7] at h
                by_cases h8 : f < 212
                · rw [if_pos h8] at h
                  by_cases e : f = 211
                  · rw [if_pos e] at h; cases h; subst e; exact ⟨_, 211, Tryz.func211, e211, name_ok Tryz.func211⟩
                  · rw [if_neg e] at h; cases h
                · rw [if_neg h8] at h
                  by_cases e : f = 212
                  · rw [if_pos e] at h; cases h; subst e; exact ⟨_, 212, Tryz.func212, e212, name_ok Tryz.func212⟩
                  · rw [if_neg e] at h; cases h
              · rw [if_neg h7] at h
                by_cases h8 : f < 214
                · rw [if_pos h8] at h
                  by_cases e : f = 213
                  · rw [if_pos e] at h; cases h; subst e; exact ⟨_, 213, Tryz.func213, e213, name_ok Tryz.func213⟩
                  · rw [if_neg e] at h; cases h
                · rw [if_neg h8] at h
                  by_cases e : f = 214
                  · rw [if_pos e] at h; cases h; subst e; exact ⟨_, 214, Tryz.func214, e214, name_ok Tryz.func214⟩
                  · rw [if_neg e] at h; cases h
      · rw [if_neg h3] at h
        by_cases h4 : f < 234
        · rw [if_pos h4] at h
          by_cases h5 : f < 225
          · rw [if_pos h5] at h
            by_cases h6 : f < 220
            · rw [if_pos h6] at h
              by_cases h7 : f < 217
              · rw [if_pos h7] at h
                by_cases h8 : f < 216
                · rw [if_pos h8] at h
                  by_cases e : f = 215
                  · rw [if_pos e] at h; cases h; subst e; exact ⟨_, 215, Tryz.func215, e215, name_ok Tryz.func215⟩
                  · rw [if_neg e] at h; cases h
                · rw [if_neg h8] at h
                  by_cases e : f = 216
                  · rw [if_pos e] at h; cases h; subst e; exact ⟨_, 216, Tryz.func216, e216, name_ok Tryz.func216⟩
                  · rw [if_neg e] at h; cases h
              · rw [if_neg h7] at h
                by_cases h8 : f < 219
                · rw [if_pos h8] at h
                  by_cases e : f = 217
                  · rw [if_pos e] at h; cases h; subst e; exact ⟨_, 217, Tryz.func217, e217, name_ok Tryz.func217⟩
                  · rw [if_neg e] at h; cases h
                · rw [if_neg h8] at h
                  by_cases e : f = 219
                  · rw [if_pos e] at h; cases h; subst e; exact ⟨_, 219, Tryz.func219, e219, name_ok Tryz.func219⟩
                  · rw [if_neg e] at h; cases h
            · rw [if_neg h6] at h
              by_cases h7 : f < 222
              · rw [if_pos h7] at h
                by_cases h8 : f < 221
                · rw [if_pos h8] at h
                  by_cases e : f = 220
                  · rw [if_pos e] at h; cases h; subst e; exact ⟨_, 220, Tryz.func220, e220, name_ok Tryz.func220⟩
                  · rw [if_neg e] at h; cases h
                · rw [if_neg h8] at h
                  by_cases e : f = 221
                  · rw [if_pos e] at h; cases h; subst e; exact ⟨_, 221, Tryz.func221, e221, name_ok Tryz.func221⟩
                  · rw [if_neg e] at h; cases h
              · rw [if_neg h7] at h
                by_cases h8 : f < 224
                · rw [if_pos h8] at h
                  by_cases e : f = 222
                  · rw [if_pos e] at h; cases h; subst e; exact ⟨_, 222, Tryz.func222, e222, name_ok Tryz.func222⟩
                  · rw [if_neg e] at h; cases h
                · rw [if_neg h8] at h
                  by_cases e : f = 224
                  · rw [if_pos e] at h; cases h; subst e; exact ⟨_, 224, Tryz.func224, e224, name_ok Tryz.func224⟩
                  · rw [if_neg e] at h; cases h
          · rw [if_neg h5] at h
            by_cases h6 : f < 229
            · rw [if_pos h6] at h
              by_cases h7 : f < 227
              · rw [if_pos h7] at h
                by_cases h8 : f < 226
                · rw [if_pos h8] at h
                  by_cases e : f = 225
                  · rw [if_pos e] at h; cases h; subst e; exact ⟨_, 225, Tryz.func225, e225, name_ok Tryz.func225⟩
                  · rw [if_neg e] at h; cases h
                · rw [if_neg h8] at h
                  by_cases e : f = 226
                  · rw [if_pos e] at h; cases h; subst e; exact ⟨_, 226, Tryz.func226, e226, name_ok Tryz.func226⟩
                  · rw [if_neg e] at h; cases h
              · rw [if_neg h7] at h
                by_cases h8 : f < 228
                · rw [if_pos h8] at h
                  by_cases e : f = 227
                  · rw [if_pos e] at h; cases h; subst e; exact ⟨_, 227, Tryz.func227, e227, name_ok Tryz.func227⟩
                  · rw [if_neg e] at h; cases h
                · rw [if_neg h8] at h
                  by_cases e : f = 228
                  · rw [if_pos e] at h; cases h; subst e; exact ⟨_, 228, Tryz.func228, e228, name_ok Tryz.func228⟩
                  · rw [if_neg e] at h; cases h
            · rw [if_neg h6] at h
              by_cases h7 : f < 231
              · rw [if_pos h7] at h
                by_cases h8 : f < 230
                · rw [if_pos h8] at h
                  by_cases e : f = 229
                  · rw [if_pos e] at h; cases h; subst e; exact ⟨_, 229, Tryz.func229, e229, name_ok Tryz.func229⟩
                  · rw [if_neg e] at h; cases h
                · rw [if_neg h8] at h
                  by_cases e : f = 230
                  · rw [if_pos e] at h; cases h; subst e; exact ⟨_, 230, Tryz.func230, e230, name_ok Tryz.func230⟩
                  · rw [if_neg e] at h; cases h
              · rw [if_neg h7] at h
                by_cases h8 : f < 232
                · rw [if_pos h8] at h
                  by_cases e : f = 231
                  · rw [if_pos e] at h; cases h; subst e; exact ⟨_, 231, Tryz.func231, e231, name_ok Tryz.func231⟩
                  · rw [if_neg e] at h; cases h
                · rw [if_neg h8] at h
                  by_cases e : f = 232
                  · rw [if_pos e] at h; cases h; subst e; exact ⟨_, 232, Tryz.func232, e232, name_ok Tryz.func232⟩
                  · rw [if_neg e] at h; cases h
        · rw [if_neg h4] at h
          by_cases h5 : f < 254
          · rw [if_pos h5] at h
            by_cases h6 : f < 238
            · rw [if_pos h6] at h
              by_cases h7 : f < 236
              · rw [if_pos h7] at h
                by_cases h8 : f < 235
                · rw [if_pos h8] at h
                  by_cases e : f = 234
                  · rw [if_pos e] at h; cases h; subst e; exact ⟨_, 234, Tryz.func234, e234, name_ok Tryz.func234⟩
                  · rw [if_neg e] at h; cases h
                · rw [if_neg h8] at h
                  by_cases e : f = 235
                  · rw [if_pos e] at h; cases h; subst e; exact ⟨_, 235, Tryz.func235, e235, name_ok Tryz.func235⟩
                  · rw [if_neg e] at h; cases h
              · rw [if_neg h7] at h
                by_cases h8 : f < 237
                · rw [if_pos h8] at h
                  by_cases e : f = 236
                  · rw [if_pos e] at h; cases h; subst e; exact ⟨_, 236, Tryz.func236, e236, name_ok Tryz.func236⟩
                  · rw [if_neg e] at h; cases h
                · rw [if_neg h8] at h
                  by_cases e : f = 237
                  · rw [if_pos e] at h; cases h; subst e; exact ⟨_, 237, Tryz.func237, e237, name_ok Tryz.func237⟩
                  · rw [if_neg e] at h; cases h
            · rw [if_neg h6] at h
              by_cases h7 : f < 240
              · rw [if_pos h7] at h
                by_cases h8 : f < 239
                · rw [if_pos h8] at h
                  by_cases e : f = 238
                  · rw [if_pos e] at h; cases h; subst e; exact ⟨_, 238, Tryz.func238, e238, name_ok Tryz.func238⟩
                  · rw [if_neg e] at h; cases h
                · rw [if_neg h8] at h
                  by_cases e : f = 239
                  · rw [if_pos e] at h; cases h; subst e; exact ⟨_, 239, Tryz.func239, e239, name_ok Tryz.func239⟩
                  · rw [if_neg e] at h; cases h
              · rw [if_neg h7] at h
                by_cases h8 : f < 241
                · rw [if_pos h8] at h
                  by_cases e : f = 240
                  · rw [if_pos e] at h; cases h; subst e; exact ⟨_, 240, Tryz.func240, e240, name_ok Tryz.func240⟩
                  · rw [if_neg e] at h; cases h
                · rw [if_neg h8] at h
                  by_cases e : f = 241
                  · rw [if_pos e] at h; cases h; subst e; exact ⟨_, 241, Tryz.func241, e241, name_ok Tryz.func241⟩
                  · rw [if_neg e] at h; cases h
          · rw [if_neg h5] at h
            by_cases h6 : f < 266
            · rw [if_pos h6] at h
              by_cases h7 : f < 264
              · rw [if_pos h7] at h
                by_cases h8 : f < 263
                · rw [if_pos h8] at h
                  by_cases e : f = 254
                  · rw [if_pos e] at h; cases h; subst e; exact ⟨_, 254, Tryz.func254, e254, name_ok Tryz.func254⟩
                  · rw [if_neg e] at h; cases h
                · rw [if_neg h8] at h
                  by_cases e : f = 263
                  · rw [if_pos e] at h; cases h; subst e; exact ⟨_, 263, Tryz.func263, e263, name_ok Tryz.func263⟩
                  · rw [if_neg e] at h; cases h
              · rw [if_neg h7] at h
                by_cases h8 : f < 265
                · rw [if_pos h8] at h
                  by_cases e : f = 264
                  · rw [if_pos e] at h; cases h; subst e; exact ⟨_, 264, Tryz.func264, e264, name_ok Tryz.func264⟩
                  · rw [if_neg e] at h; cases h
                · rw [if_neg h8] at h
                  by_cases e : f = 265
                  · rw [if_pos e] at h; cases h; subst e; exact ⟨_, 265, Tryz.func265, e265, name_ok Tryz.func265⟩
                  · rw [if_neg e] at h; cases h
            · rw [if_neg h6] at h
              by_cases h7 : f < 268
              · rw [if_pos h7] at h
                by_cases h8 : f < 267
                · rw [if_pos h8] at h
                  by_cases e : f = 266
                  · rw [if_pos e] at h; cases h; subst e; exact ⟨_, 266, Tryz.func266, e266, name_ok Tryz.func266⟩
                  · rw [if_neg e] at h; cases h
                · rw [if_neg h8] at h
                  by_cases e : f = 267
                  · rw [if_pos e] at h; cases h; subst e; exact ⟨_, 267, Tryz.func267, e267, name_ok Tryz.func267⟩
                  · rw [if_neg e] at h; cases h
              · rw [if_neg h7] at h
                by_cases h8 : f < 270
                · rw [if_pos h8] at h
                  by_cases e : f = 268
                  · rw [if_pos e] at h; cases h; subst e; exact ⟨_, 268, Tryz.func268, e268, name_ok Tryz.func268⟩
                  · rw [if_neg e] at h; cases h
                · rw [if_neg h8] at h
                  by_cases h9 : f < 271
                  · rw [if_pos h9] at h
                    by_cases e : f = 270
                    · rw [if_pos e] at h; cases h; subst e; exact ⟨_, 270, Tryz.func270, e270, name_ok Tryz.func270⟩
                    · rw [if_neg e] at h; cases h
                  · rw [if_neg h9] at h
                    by_cases e : f = 271
                    · rw [if_pos e] at h; cases h; subst e; exact ⟨_, 271, Tryz.func271, e271, name_ok Tryz.func271⟩
                    · rw [if_neg e] at h; cases h
    · rw [if_neg h2] at h
      by_cases h3 : f < 329
      · rw [if_pos h3] at h
        by_cases h4 : f < 295
        · rw [if_pos h4] at h
          by_cases h5 : f < 284
          · rw [if_pos h5] at h
            by_cases h6 : f < 280
            · rw [if_pos h6] at h
              by_cases h7 : f < 278
              · rw [if_pos h7] at h
                by_cases h8 : f < 275
                · rw [if_pos h8] at h
                  by_cases e : f = 273
                  · rw [if_pos e] at h; cases h; subst e; exact ⟨_, 273, Tryz.func273, e273, name_ok Tryz.func273⟩
                  · rw [if_neg e] at h; cases h
                · rw [if_neg h8] at h
                  by_cases e : f = 275
                  · rw [if_pos e] at h; cases h; subst e; exact ⟨_, 275, Tryz.func275, e275, name_ok Tryz.func275⟩
                  · rw [if_neg e] at h; cases h
              · rw [if_neg h7] at h
                by_cases h8 : f < 279
                · rw [if_pos h8] at h
                  by_cases e : f = 278
                  · rw [if_pos e] at h; cases h; subst e; exact ⟨_, 278, Tryz.func278, e278, name_ok Tryz.func278⟩
                  · rw [if_neg e] at h; cases h
                · rw [if_neg h8] at h
                  by_cases e : f = 279
                  · rw [if_pos e] at h; cases h; subst e; exact ⟨_, 279, Tryz.func279, e279, name_ok Tryz.func279⟩
                  · rw [if_neg e] at h; cases h
            · rw [if_neg h6] at h
              by_cases h7 : f < 282
              · rw [if_pos h7] at h
                by_cases h8 : f < 281
                · rw [if_pos h8] at h
                  by_cases e : f = 280
                  · rw [if_pos e] at h; cases h; subst e; exact ⟨_, 280, Tryz.func280, e280, name_ok Tryz.func280⟩
                  · rw [if_neg e] at h; cases h
                · rw [if_neg h8] at h
                  by_cases e : f = 281
                  · rw [if_pos e] at h; cases h; subst e; exact ⟨_, 281, Tryz.func281, e281, name_ok Tryz.func281⟩
                  · rw [if_neg e] at h; cases h
              · rw [if_neg h7] at h
                by_cases h8 : f < 283
                · rw [if_pos h8] at h
                  by_cases e : f = 282
                  · rw [if_pos e] at h; cases h; subst e; exact ⟨_, 282, Tryz.func282, e282, name_ok Tryz.func282⟩
                  · rw [if_neg e] at h; cases h
                · rw [if_neg h8] at h
                  by_cases e : f = 283
                  · rw [if_pos e] at h; cases h; subst e; exact ⟨_, 283, Tryz.func283, e283, name_ok Tryz.func283⟩
                  · rw [if_neg e] at h; cases h
          · rw [if_neg h5] at h
            by_cases h6 : f < 289
            · rw [if_pos h6] at h
              by_cases h7 : f < 286
              · rw [if_pos h7] at h
                by_cases h8 : f < 285
                · rw [if_pos h8] at h
                  by_cases e : f = 284
                  · rw [if_pos e] at h; cases h; subst e; exact ⟨_, 284, Tryz.func284, e284, name_ok Tryz.func284⟩
                  · rw [if_neg e] at h; cases h
                · rw [if_neg h8] at h
                  by_cases e : f = 285
                  · rw [if_pos e] at h; cases h; subst e; exact ⟨_, 285, Tryz.func285, e285, name_ok Tryz.func285⟩
                  · rw [if_neg e] at h; cases h
              · rw [if_neg h7] at h
                by_cases h8 : f < 288
                · rw [if_pos h8] at h
                  by_cases e : f = 286
                  · rw [if_pos e] at h; cases h; subst e; exact ⟨_, 286, Tryz.func286, e286, name_ok Tryz.func286⟩
                  · rw [if_neg e] at h; cases h
                · rw [if_neg h8] at h
                  by_cases e : f = 288
                  · rw [if_pos e] at h; cases h; subst e; exact ⟨_, 288, Tryz.func288, e288, name_ok Tryz.func288⟩
                  · rw [if_neg e] at h; cases h
            · rw [if_neg h6] at h
              by_cases h7 : f < 293
              · rw [if_pos h7] at h
                by_cases h8 : f < 290
                · rw [if_pos h8] at h
                  by_cases e : f = 289
                  · rw [if_pos e] at h; cases h; subst e; exact ⟨_, 289, Tryz.func289, e289, name_ok Tryz.func289⟩
                  · rw [if_neg e] at h; cases h
                · rw [if_neg h8] at h
                  by_cases e : f = 290
                  · rw [if_pos e] at h; cases h; subst e; exact ⟨_, 290, Tryz.func290, e290, name_ok Tryz.func290⟩
                  · rw [if_neg e] at h; cases h
              · rw [if_neg h7] at h
                by_cases h8 : f < 294
                · rw [if_pos h8] at h
                  by_cases e : f = 293
                  · rw [if_pos e] at h; cases h; subst e; exact ⟨_, 293, Tryz.func293, e293, name_ok Tryz.func293⟩
                  · rw [if_neg e] at h; cases h
                · rw [if_neg h8] at h
                  by_cases e : f = 294
                  · rw [if_pos e] at h; cases h; subst e; exact ⟨_, 294, Tryz.func294, e294, name_ok Tryz.func294⟩
                  · rw [if_neg e] at h; cases h
        · rw [if_neg h4] at h
          by_cases h5 : f < 305
          · rw [if_pos h5] at h
            by_cases h6 : f < 301
            · rw [if_pos h6] at h
              by_cases h7 : f < 298
              · rw [if_pos h7] at h
                by_cases h8 : f < 297
                · rw [if_pos h8] at h
                  by_cases e : f = 295
                  · rw [if_pos e] at h; cases h; subst e; exact ⟨_, 295, Tryz.func295, e295, name_ok Tryz.func295⟩
                  · rw [if_neg e] at h; cases h
                · rw [if_neg h8] at h
                  by_cases e : f = 297
                  · rw [if_pos e] at h; cases h; subst e; exact ⟨_, 297, Tryz.func297, e297, name_ok Tryz.func297⟩
                  · rw [if_neg e] at h; cases h
              · rw [if_neg h7] at h
                by_cases h8 : f < 300
                · rw [if_pos h8] at h
                  by_cases e : f = 298
                  · rw [if_pos e] at h; cases h; subst e; exact ⟨_, 298, Tryz.func298, e298, name_ok Tryz.func298⟩
                  · rw [if_neg e] at h; cases h
                · rw [if_neg h8] at h
                  by_cases e : f = 300
                  · rw [if_pos e] at h; cases h; subst e; exact ⟨_, 300, Tryz.func300, e300, name_ok Tryz.func300⟩
                  · rw [if_neg e] at h; cases h
            · rw [if_neg h6] at h
              by_cases h7 : f < 303
              · rw [if_pos h7] at h
                by_cases h8 : f < 302
                · rw [if_pos h8] at h
                  by_cases e : f = 301
                  · rw [if_pos e] at h; cases h; subst e; exact ⟨_, 301, Tryz.func301, e301, name_ok Tryz.func301⟩
                  · rw [if_neg e] at h; cases h
                · rw [if_neg h8] at h
                  by_cases e : f = 302
                  · rw [if_pos e] at h; cases h; subst e; exact ⟨_, 302, Tryz.func302, e302, name_ok Tryz.func302⟩
                  · rw [if_neg e] at h; cases h
              · rw [if_neg h7] at h
                by_cases h8 : f < 304
                · rw [if_pos h8] at h
                  by_cases e : f = 303
                  · rw [if_pos e] at h; cases h; subst e; exact ⟨_, 303, Tryz.func303, e303, name_ok Tryz.func303⟩
                  · rw [if_neg e] at h; cases h
                · rw [if_neg h8] at h
                  by_cases e : f = 304
                  · rw [if_pos e] at h; cases h; subst e; exact ⟨_, 304, Tryz.func304, e304, name_ok Tryz.func304⟩
                  · rw [if_neg e] at h; cases h
          · rw [if_neg h5] at h
            by_cases h6 : f < 320
            · rw [if_pos h6] at h
              by_cases h7 : f < 307
              · rw [if_pos h7] at h
                by_cases h8 : f < 306
                · rw [if_pos h8] at h
                  by_cases e : f = 305
                  · rw [if_pos e] at h; cases h; subst e; exact ⟨_, 305, Tryz.func305, e305, name_ok Tryz.func305⟩
                  · rw [if_neg e] at h; cases h
                · rw [if_neg h8] at h
                  by_cases e : f = 306
                  · rw [if_pos e] at h; cases h; subst e; exact ⟨_, 306, Tryz.func306, e306, name_ok Tryz.func306⟩
                  · rw [if_neg e] at h; cases h
              · rw [if_neg h7] at h
                by_cases h8 : f < 317
                · rw [if_pos h8] at h
                  by_cases e : f = 307
                  · rw [if_pos e] at h; cases h; subst e; exact ⟨_, 307, Tryz.func307, e307, name_ok Tryz.func307⟩
                  · rw [if_neg e] at h; cases h
                · rw [if_neg h8] at h
                  by_cases e : f = 317
                  · rw [if_pos e] at h; cases h; subst e; exact ⟨_, 317, Tryz.func317, e317, name_ok Tryz.func317⟩
                  · rw [if_neg e] at h; cases h
            · rw [if_neg h6] at h
              by_cases h7 : f < 324
              · rw [if_pos h7] at h
                by_cases h8 : f < 322
                · rw [if_pos h8] at h
                  by_cases e : f = 320
                  · rw [if_pos e] at h; cases h; subst e; exact ⟨_, 320, Tryz.func320, e320, name_ok Tryz.func320⟩
                  · rw [if_neg e] at h; cases h
                · rw [if_neg h8] at h
                  by_cases e : f = 322
                  · rw [if_pos e] at h; cases h; subst e; exact ⟨_, 322, Tryz.func322, e322, name_ok Tryz.func322⟩
                  · rw [if_neg e] at h; cases h
              · rw [if_neg h7] at h
                by_cases h8 : f < 325
                · rw [if_pos h8] at h
                  by_cases e : f = 324
                  · rw [if_pos e] at h; cases h; subst e; exact ⟨_, 324, Tryz.func324, e324, name_ok Tryz.func324⟩
                  · rw [if_neg e] at h; cases h
                · rw [if_neg h8] at h
                  by_cases h9 : f < 326
                  · rw [if_pos h9] at h
                    by_cases e : f = 325
                    · rw [if_pos e] at h; cases h; subst e; exact ⟨_, 325, Tryz.func325, e325, name_ok Tryz.func325⟩
                    · rw [if_neg e] at h; cases h
                  · rw [if_neg h9] at h
                    by_cases e : f = 326
                    · rw [if_pos e] at h; cases h; subst e; exact ⟨_, 326, Tryz.func326, e326, name_ok Tryz.func326⟩
                    · rw [if_neg e] at h; cases h
      · rw [if_neg h3] at h
        by_cases h4 : f < 373
        · rw [if_pos h4] at h
          by_cases h5 : f < 345
          · rw [if_pos h5] at h
            by_cases h6 : f < 333
            · rw [if_pos h6] at h
              by_cases h7 : f < 331
              · rw [if_pos h7] at h
                by_cases h8 : f < 330
                · rw [if_pos h8] at h
                  by_cases e : f = 329
                  · rw [if_pos e] at h; cases h; subst e; exact ⟨_, 329, Tryz.func329, e329, name_ok Tryz.func329⟩
                  · rw [if_neg e] at h; cases h
                · rw [if_neg h8] at h
                  by_cases e : f = 330
                  · rw [if_pos e] at h; cases h; subst e; exact ⟨_, 330, Tryz.func330, e330, name_ok Tryz.func330⟩
                  · rw [if_neg e] at h; cases h
              · rw [if_neg h7] at h
                by_cases h8 : f < 332
                · rw [if_pos h8] at h
                  by_cases e : f = 331
                  · rw [if_pos e] at h; cases h; subst e; exact ⟨_, 331, Tryz.func331, e331, name_ok Tryz.func331⟩
                  · rw [if_neg e] at h; cases h
                · rw [if_neg h8] at h
                  by_cases e : f = 332
                  · rw [if_pos e] at h; cases h; subst e; exact ⟨_, 332, Tryz.func332, e332, name_ok Tryz.func332⟩
                  · rw [if_neg e] at h; cases h
            · rw [if_neg h6] at h
              by_cases h7 : f < 335
              · rw [if_pos h7] at h
                by_cases h8 : f < 334
                · rw [if_pos h8] at h
                  by_cases e : f = 333
                  · rw [if_pos e] at h; cases h; subst e; exact ⟨_, 333, Tryz.func333, e333, name_ok Tryz.func333⟩
                  · rw [if_neg e] at h; cases h
                · rw [if_neg h8] at h
                  by_cases e : f = 334
                  · rw [if_pos e] at h; cases h; subst e; exact ⟨_, 334, Tryz.func334, e334, name_ok Tryz.func334⟩
                  · rw [if_neg e] at h; cases h
              · rw [if_neg h7] at h
                by_cases h8 : f < 341
                · rw [if_pos h8] at h
                  by_cases e : f = 335
                  · rw [if_pos e] at h; cases h; subst e; exact ⟨_, 335, Tryz.func335, e335, name_ok Tryz.func335⟩
                  · rw [if_neg e] at h; cases h
                · rw [if_neg h8] at h
                  by_cases e : f = 341
                  · rw [if_pos e] at h; cases h; subst e; exact ⟨_, 341, Tryz.func341, e341, name_ok Tryz.func341⟩
                  · rw [if_neg e] at h; cases h
          · rw [if_neg h5] at h
            by_cases h6 : f < 364
            · rw [if_pos h6] at h
              by_cases h7 : f < 359
              · rw [if_pos h7] at h
                by_cases h8 : f < 353
                · rw [if_pos h8] at h
                  by_cases e : f = 345
                  · rw [if_pos e] at h; cases h; subst e; exact ⟨_, 345, Tryz.func345, e345, name_ok Tryz.func345⟩
                  · rw [if_neg e] at h; cases h
                · rw [if_neg h8] at h
                  by_cases e : f = 353
                  · rw [if_pos e] at h; cases h; subst e; exact ⟨_, 353, Tryz.func353, e353, name_ok Tryz.func353⟩
                  · rw [if_neg e] at h; cases h
              · rw [if_neg h7] at h
                by_cases h8 : f < 363
                · rw [if_pos h8] at h
                  by_cases e : f = 359
                  · rw [if_pos e] at h; cases h; subst e; exact ⟨_, 359, Tryz.func359, e359, name_ok Tryz.func359⟩
                  · rw [if_neg e] at h; cases h
                · rw [if_neg h8] at h
                  by_cases e : f = 363
                  · rw [if_pos e] at h; cases h; subst e; exact ⟨_, 363, Tryz.func363, e363, name_ok Tryz.func363⟩
                  · rw [if_neg e] at h; cases h
            · rw [if_neg h6] at h
              by_cases h7 : f < 371
              · rw [if_pos h7] at h
                by_cases h8 : f < 370
                · rw [if_pos h8] at h
                  by_cases e : f = 364
                  · rw [if_pos e] at h; cases h; subst e; exact ⟨_, 364, Tryz.func364, e364, name_ok Tryz.func364⟩
                  · rw [if_neg e] at h; cases h
                · rw [if_neg h8] at h
                  by_cases e : f = 370
                  · rw [if_pos e] at h; cases h; subst e; exact ⟨_, 370, Tryz.func370, e370, name_ok Tryz.func370⟩
                  · rw [if_neg e] at h; cases h
              · rw [if_neg h7] at h
                by_cases h8 : f < 372
                · rw [if_pos h8] at h
                  by_cases e : f = 371
                  · rw [if_pos e] at h; cases h; subst e; exact ⟨_, 371, Tryz.func371, e371, name_ok Tryz.func371⟩
                  · rw [if_neg e] at h; cases h
                · rw [if_neg h8] at h
                  by_cases e : f = 372
                  · rw [if_pos e] at h; cases h; subst e; exact ⟨_, 372, Tryz.func372, e372, name_ok Tryz.func372⟩
                  · rw [if_neg e] at h; cases h
        · rw [if_neg h4] at h
          by_cases h5 : f < 398
          · rw [if_pos h5] at h
            by_cases h6 : f < 379
            · rw [if_pos h6] at h
              by_cases h7 : f < 377
              · rw [if_pos h7] at h
                by_cases h8 : f < 374
                · rw [if_pos h8] at h
                  by_cases e : f = 373
                  · rw [if_pos e] at h; cases h; subst e; exact ⟨_, 373, Tryz.func373, e373, name_ok Tryz.func373⟩
                  · rw [if_neg e] at h; cases h
                · rw [if_neg h8] at h
                  by_cases e : f = 374
                  · rw [if_pos e] at h; cases h; subst e; exact ⟨_, 374, Tryz.func374, e374, name_ok Tryz.func374⟩
                  · rw [if_neg e] at h; cases h
              · rw [if_neg h7] at h
                by_cases h8 : f < 378
                · rw [if_pos h8] at h
                  by_cases e : f = 377
                  · rw [if_pos e] at h; cases h; subst e; exact ⟨_, 377, Tryz.func377, e377, name_ok Tryz.func377⟩
                  · rw [if_neg e] at h; cases h
                · rw [if_neg h8] at h
                  by_cases e : f = 378
                  · rw [if_pos e] at h; cases h; subst e; exact ⟨_, 378, Tryz.func378, e378, name_ok Tryz.func378⟩
                  · rw [if_neg e] at h; cases h
            · rw [if_neg h6] at h
              by_cases h7 : f < 394
              · rw [if_pos h7] at h
                by_cases h8 : f < 380
                · rw [if_pos h8] at h
                  by_cases e : f = 379
                  · rw [if_pos e] at h; cases h; subst e; exact ⟨_, 379, Tryz.func379, e379, name_ok Tryz.func379⟩
                  · rw [if_neg e] at h; cases h
                · rw [if_neg h8] at h
                  by_cases e : f = 380
                  · rw [if_pos e] at h; cases h; subst e; exact ⟨_, 380, Tryz.func380, e380, name_ok Tryz.func380⟩
                  · rw [if_neg e] at h; cases h
              · rw [if_neg h7] at h
                by_cases h8 : f < 396
                · rw [if_pos h8] at h
                  by_cases e : f = 394
                  · rw [if_pos e] at h; cases h; subst e; exact ⟨_, 394, Tryz.func394, e394, name_ok Tryz.func394⟩
                  · rw [if_neg e] at h; cases h
                · rw [if_neg h8] at h
                  by_cases e : f = 396
                  · rw [if_pos e] at h; cases h; subst e; exact ⟨_, 396, Tryz.func396, e396, name_ok Tryz.func396⟩
                  · rw [if_neg e] at h; cases h
          · rw [if_neg h5] at h
            by_cases h6 : f < 418
            · rw [if_pos h6] at h
              by_cases h7 : f < 403
              · rw [if_pos h7] at h
                by_cases h8 : f < 401
                · rw [if_pos h8] at h
                  by_cases e : f = 398
                  · rw [if_pos e] at h; cases h; subst e; exact ⟨_, 398, Tryz.func398, e398, name_ok Tryz.func398⟩
                  · rw [if_neg e] at h; cases h
                · rw [if_neg h8] at h
                  by_cases e : f = 401
                  · rw [if_pos e] at h; cases h; subst e; exact ⟨_, 401, Tryz.func401, e401, name_ok Tryz.func401⟩
                  · rw [if_neg e] at h; cases h
              · rw [if_neg h7] at h
                by_cases h8 : f < 404
                · rw [if_pos h8] at h
                  by_cases e : f = 403
                  · rw [if_pos e] at h; cases h; subst e; exact ⟨_, 403, Tryz.func403, e403, name_ok Tryz.func403⟩
                  · rw [if_neg e] at h; cases h
                · rw [if_neg h8] at h
                  by_cases e : f = 404
                  · rw [if_pos e] at h; cases h; subst e; exact ⟨_, 404, Tryz.func404, e404, name_ok Tryz.func404⟩
                  · rw [if_neg e] at h; cases h
            · rw [if_neg h6] at h
              by_cases h7 : f < 448
              · rw [if_pos h7] at h
                by_cases h8 : f < 419
                · rw [if_pos h8] at h
                  by_cases e : f = 418
                  · rw [if_pos e] at h; cases h; subst e; exact ⟨_, 418, Tryz.func418, e418, name_ok Tryz.func418⟩
                  · rw [if_neg e] at h; cases h
                · rw [if_neg h8] at h
                  by_cases e : f = 419
                  · rw [if_pos e] at h; cases h; subst e; exact ⟨_, 419, Tryz.func419, e419, name_ok Tryz.func419⟩
                  · rw [if_neg e] at h; cases h
              · rw [if_neg h7] at h
                by_cases h8 : f < 449
                · rw [if_pos h8] at h
                  by_cases e : f = 448
                  · rw [if_pos e] at h; cases h; subst e; exact ⟨_, 448, Tryz.func448, e448, name_ok Tryz.func448⟩
                  · rw [if_neg e] at h; cases h
                · rw [if_neg h8] at h
                  by_cases h9 : f < 450
                  · rw [if_pos h9] at h
                    by_cases e : f = 449
                    · rw [if_pos e] at h; cases h; subst e; exact ⟨_, 449, Tryz.func449, e449, name_ok Tryz.func449⟩
                    · rw [if_neg e] at h; cases h
                  · rw [if_neg h9] at h
                    by_cases e : f = 450
                    · rw [if_pos e] at h; cases h; subst e; exact ⟨_, 450, Tryz.func450, e450, name_ok Tryz.func450⟩
                    · rw [if_neg e] at h; cases h

theorem tabOk : TabOk Tryz.prog cfg T := tabPrim fnL fnL_ok

end Go.Proofs.YtabhhckaclibaaaGreat
